/-
  TreeStaysValid, walked.
-/
import Derived.Test.YtmagjdocondmhaaTrAwake
import Derived.Test.YtmagjdocondmhaaTrStayC
import Derived.Test.YtmagjdocondmhaaTrMade
import Derived.Test.YtmagjdocondmhaaTrIn
namespace Go.Proofs.Ytmagjdocondmhaa.Tr
open Go Go.RowKit Go.Proofs.Ytmagjdocondmhaa.Slc Go.Proofs.Ytmagjdocondmhaa.St Go.Proofs.Ytmagjdocondmhaa.Mp
set_option linter.unusedVariables false
set_option linter.unusedSimpArgs false
attribute [local go_sem] Oper.semAt_some

/-- a tree beside a deck -/
structure TD (w : World) (v : Value) (zs : List Int) (g : Nat) (wr : World) (tv : Value) (l : List Nt) : Prop where
  tr : TO wr (g + 1) tv l
  dk : Deck w v zs wr g
  bel : Below w.heap.size w wr
section
variable {w : World} {v : Value} {zs : List Int} {g : Nat} {wr w' : World} {tv tv' : Value} {l l' : List Nt}
theorem TD.grow (h : TD w v zs g wr tv l) (hg : wr.grownBy w' (some g)) (hd : Deck w v zs w' g) : TD w v zs g w' tv l :=
  ⟨h.tr.deck h.dk hg (Nat.lt_succ_self g), hd, h.bel.grown hg h.bel.size fun k hk => by simp only [Option.some.injEq] at hk; have := h.dk.ge; omega⟩
theorem TD.below (h : TD w v zs g wr tv l) (hb : Below wr.heap.size wr w') : TD w v zs g w' tv l := ⟨h.tr.below hb, h.dk.below hb, h.bel.trans (hb.mono h.bel.size)⟩
theorem TD.next (h : TD w v zs g wr tv l) (ht : TO w' wr.heap.size tv' l') (hb : Below wr.heap.size wr w') : TD w v zs g w' tv' l' :=
  ⟨ht.mono h.dk.lt, h.dk.below hb, h.bel.trans (hb.mono h.bel.size)⟩
end
theorem EnP.st {w w' : World} {R : List Nd × Int} {e : Ending} {S : List Nd → Prop} (h : EnP w R e w') (hs : ∃ r, R = (r, 0) ∧ S r) : ∃ v' l', e = .returned (.tuple #[v', .int .i64 0]) ∧ TO w' w.heap.size v' l' ∧ S (nds l') ∧ Below w.heap.size w w' := by
  obtain ⟨r, rfl, hS⟩ := hs
  obtain ⟨v', l', he, ho, hn, hb⟩ := h
  exact ⟨v', l', he, ho, hn ▸ hS, hb⟩
theorem few_of {out : List B} (h : ∀ p ∈ out, p.length ≤ 100) : ∀ p ∈ out, p.length ≤ 1000000 := fun p hp => by have := h p hp; omega
set_option maxRecDepth 100000 in
set_option maxHeartbeats 8000000 in
theorem law_stays (v : Value) (zs : List Int) (w : World) (hI : Ints w .i64 v zs) :
    Calls Try.prog 8 #[v] w fun e w' => e = .returned (.bool true) ∧ Below w.heap.size w w' := by
  have haw := awake_any
  have hnew := new_any w v zs w hI (Below.refl _ _)
  go_enter Try.func8, Try.ntmps8
  go_wp2_with fail
  refine hnew.mono ?_
  rintro e w1 ⟨rfl, hb1, hD1⟩
  clear hnew
  obtain ⟨g, hg⟩ : ∃ g, g = w.heap.size := ⟨_, rfl⟩
  rw [← hg] at hD1 ⊢
  clear hg
  have HD1 := Bx.mk hD1
  have HB1 := Bx.mk hb1
  have hroot := proot_any w1
  clear hb1 hD1
  go_wp2_with fail
  go_at_call 18
  refine hroot.mono ?_
  rintro e w2 ⟨tv, l, rfl, ho, hn, hb⟩
  clear hroot
  have HT2 := Bx.mk (show TD w v zs g w2 tv l from ⟨ho.mono HD1.out.lt, HD1.out.below hb, HB1.out.trans (hb.mono HB1.out.size)⟩)
  have HI2 := Bx.mk (show StI (nds l) 0 (cB 0) (tB 0) by rw [hn]; exact sti_root)
  have hnx := next_any w v zs w2 g 5 HT2.out.dk (by omega) (by omega)
  clear ho hn hb HD1 HB1
  go_wp2_with fail
  refine hnx.mono ?_
  rintro e w3 ⟨r, rfl, hr0, hr1, hD3, hg3⟩
  clear hnx
  have HT3 := Bx.mk (HT2.out.grow hg3 hD3)
  clear hD3 hg3 HT2
  obtain ⟨n, rfl⟩ : ∃ n : Nat, r = (n : Int) := ⟨r.toNat, by omega⟩
  have hn5 : n < 5 := by omega
  clear hr0 hr1
  go_wp2_with fail
  go_loopw [4, 6] (fun tv iv wr => ∃ (l : List Nt) (k : Nat), k ≤ n + 1 ∧ iv = .int .i64 ((k : Int) + 1) ∧ Bx (TD w v zs g wr tv l) ∧ Bx (StI (nds l) k (cB k) (tB k))) (fun _ iv _ => 7 - (intOf iv).toNat)
  case atStart => exact ⟨l, 0, by omega, rfl, HT3, HI2⟩
  case round =>
    clear HT3 HI2
    obtain ⟨l, k, hk, rfl, hT, hI⟩ := hrel
    by_cases hlt : (k : Int) + 1 ≤ 1 + (n : Int)
    · have hpo := policies_any w v zs wr g 3 hT.out.dk (by omega)
      go_wp2_with fail
      go_at_call 20
      refine hpo.mono ?_
      rintro e w4 ⟨pv, ps, rfl, hM, hpl, hpx⟩
      clear hpo
      have HT4 := Bx.mk (hT.out.grow hM.gr hM.dk)
      have hnx := next_any w v zs w4 g 3 hM.dk (by omega) (by omega)
      have hgl : g < wr.heap.size := hT.out.dk.lt
      have HM4 := Bx.mk hM.own
      have HPX := Bx.mk (few_of hpx)
      have hll : l.length ≤ 1100 := by have h1 := hI.out.len; have h2 := tB_le k (by omega); rw [nds_len] at h1; omega
      have HLL := Bx.mk hll
      clear hM hpx hT hll
      go_wp2_with fail
      refine hnx.mono ?_
      rintro e w5 ⟨r5, rfl, a5, b5, hD5, hg5⟩
      clear hnx
      have HT5 := Bx.mk (HT4.out.grow hg5 hD5)
      have hent := fun cb => enter_any w5 _ pv l ps HT5.out.tr.tl (own_grown HM4.out hg5 hgl).rd (by have := HLL.out; omega) (by omega) HPX.out ((k : Int) + 1) (by unfold I64; omega) cb
      have HST := Bx.mk (fun cb => sti_enter hI.out hpl cb (by have := tB_ok k (by omega); omega))
      clear hD5 hg5 HM4 HT4 HPX hI hpl hgl
      go_wp2_with fail
      go_at_call 21
      refine (hent _).mono ?_
      intro e w6 hE
      obtain ⟨v6, l6, rfl, ho6, hI6, hb6⟩ := hE.st (HST.out _)
      have HT6 := Bx.mk (HT5.out.next ho6 hb6)
      have hl6 : l6.length ≤ 1100 := by have h1 := hI6.len; have h2 := tB_ok k (by omega); rw [nds_len] at h1; omega
      have hval := valid_any w6 v6 l6 ho6.tl (by omega) ((k : Int) + 1)
      rw [show validB (nds l6) ((k : Int) + 1) = true from (valid_iff _ _).2 (by have := hI6.V; rwa [show ((k + 1 : Nat) : Int) = (k : Int) + 1 by omega] at this)] at hval
      have HI6 := Bx.mk hI6
      have HL6 := Bx.mk hl6
      clear hent hE ho6 hI6 hb6 HT5 HST a5 b5 hl6 HLL
      go_wp2_with fail
      go_at_call 15
      refine hval.mono ?_
      rintro e w7 ⟨rfl, hb7⟩
      have HT7 := Bx.mk (HT6.out.below hb7)
      have hpo := mappings_any w v zs w7 g 2 HT7.out.dk (by omega)
      clear hval hb7 HT6
      go_wp2_with fail
      go_at_call 23
      refine hpo.mono ?_
      rintro e w8 ⟨mv, ms, rfl, hM, hml, hmx⟩
      clear hpo
      have HT8 := Bx.mk (HT7.out.grow hM.gr hM.dk)
      have hnx := next_any w v zs w8 g 5 hM.dk (by omega) (by omega)
      have hgl : g < w7.heap.size := HT7.out.dk.lt
      have HM8 := Bx.mk hM.own
      have HMX := Bx.mk (show ∀ m ∈ ms, m.1.length ≤ 1000000 ∧ m.2.length ≤ 1000000 from fun m hm => by have := hmx m hm; omega)
      clear hM hmx HT7
      go_wp2_with fail
      refine hnx.mono ?_
      rintro e w9 ⟨r9, rfl, a9, b9, hD9, hg9⟩
      clear hnx
      have HT9 := Bx.mk (HT8.out.grow hg9 hD9)
      have hmap := fun cb => pmap_any w9 v6 mv l6 ms HT9.out.tr.tl (own_grown HM8.out hg9 hgl).rd (by have := HL6.out; omega) (by omega) HMX.out ((k : Int) + 1) (by unfold I64; omega) cb
      have HST := Bx.mk (fun cb => sti_map HI6.out (by omega) (ms := ms) (by omega) cb (by have := tB_ok k (by omega); omega))
      rw [show ((k + 1 : Nat) : Int) = (k : Int) + 1 by omega] at HST
      clear hD9 hg9 HM8 HT8 HMX HI6 hml hgl
      go_wp2_with fail
      go_at_call 24
      refine (hmap _).mono ?_
      intro e w10 hE
      obtain ⟨v10, l10, rfl, ho10, hI10, hb10⟩ := hE.st (HST.out _)
      have HT10 := Bx.mk (HT9.out.next ho10 hb10)
      have hl10 : l10.length ≤ 1100 := by have h1 := hI10.len; have h2 := tB_ok k (by omega); rw [nds_len] at h1; omega
      have hval := valid_any w10 v10 l10 ho10.tl (by omega) ((k : Int) + 1)
      rw [show validB (nds l10) ((k : Int) + 1) = true from (valid_iff _ _).2 (by have := hI10.V; rwa [show ((k + 1 : Nat) : Int) = (k : Int) + 1 by omega] at this)] at hval
      have HI10 := Bx.mk (show StI (nds l10) (k + 1) (cB (k + 1)) (tB (k + 1)) by
        have e1 : cB (k + 1) = 3 * cB k + 1 + 3 := rfl
        have e2 : tB (k + 1) = tB k + (3 * cB k + 1) + 3 := by show tB k + 3 * cB k + 4 = _; omega
        rw [e1, e2]; exact hI10)
      clear hmap hE ho10 hI10 hb10 HT9 HST a9 b9 hl10 HL6
      go_wp2_with fail
      go_at_call 15
      refine hval.mono ?_
      rintro e w11 ⟨rfl, hb11⟩
      have HT11 := Bx.mk (HT10.out.below hb11)
      clear hval hb11 HT10
      go_wp2_with fail
      go_roundw
      case rel => exact ⟨l10, k + 1, by omega, by go_num, HT11, HI10⟩
      case measure => simp [intOf]; omega
    · obtain rfl : k = n + 1 := by omega
      have hpo := policies_any w v zs wr g 3 hT.out.dk (by omega)
      have hll : l.length ≤ 1100 := by have h1 := hI.out.len; have h2 := tB_le (n + 1) (by omega); rw [nds_len] at h1; omega
      have HV := Bx.mk (show VT (nds l) (1 + (n : Int)) by have := hI.out.V; rwa [show ((n + 1 : Nat) : Int) = 1 + (n : Int) by omega] at this)
      have HLL := Bx.mk hll
      clear hlt hI hk hll
      go_wp2_with fail
      go_at_call 20
      refine hpo.mono ?_
      rintro e w4 ⟨pv, ps, rfl, hM, hpl, hpx⟩
      clear hpo
      have HT4 := Bx.mk (hT.out.grow hM.gr hM.dk)
      have HP4 := Bx.mk hM.own.rd
      have hres := restr_any w4 _ pv l ps HT4.out.tr.tl HP4.out (by have := HLL.out; omega) (by omega) (few_of hpx) (1 + (n : Int)) (by unfold I64; omega)
      have hst := res_stay HV.out ps (by have h1 := setB_length ps; have h2 := HLL.out; rw [nds_len]; omega)
      have HST := Bx.mk hst
      clear hM hpx hT hst HV
      go_wp2_with fail
      go_at_call 26
      refine hres.mono ?_
      intro e w5 hE
      obtain ⟨v5, l5, rfl, ho5, ⟨hV5, hW5⟩, hb5⟩ := hE.st HST.out
      have HT5 := Bx.mk (HT4.out.next ho5 hb5)
      have HP5 := Bx.mk (HP4.out.below hb5)
      have hl5 : l5.length ≤ 2048 := by have := hV5.len; rwa [nds_len] at this
      have hval := valid_any w5 v5 l5 ho5.tl (by omega) (1 + (n : Int))
      rw [(valid_iff _ _).2 hV5] at hval
      have HWP := Bx.mk hW5
      clear hres hE ho5 hb5 hV5 hW5 HST HT4 HP4
      go_wp2_with fail
      go_at_call 15
      refine hval.mono ?_
      rintro e w6 ⟨rfl, hb6⟩
      have HT6 := Bx.mk (HT5.out.below hb6)
      have HP6 := Bx.mk (HP5.out.below hb6)
      have hpo := ppol_any w6 v5 l5 HT6.out.tr.tl (by omega) (1 + (n : Int))
      clear hval hb6 HT5 HP5
      go_wp2_with fail
      go_at_call 29
      refine hpo.mono ?_
      rintro e w7 ⟨uv, rfl, hu7, hb7⟩
      clear hpo
      have HT7 := Bx.mk (HT6.out.below hb7)
      have HP7 := Bx.mk (HP6.out.below hb7)
      obtain ⟨a5, c5, rfl, -⟩ := HT7.out.tr.own.rd.form
      obtain ⟨up, hup⟩ : ∃ up, up = polP (nds l5) (1 + (n : Int)) := ⟨_, rfl⟩
      rw [← hup] at hu7
      have hE0 : l5.length = 0 → up.length = 0 := fun h => by
        rw [hup]
        obtain rfl : l5 = [] := List.length_eq_zero_iff.1 h
        unfold polP
        split
        · rfl
        · rfl
      have HUP := Bx.mk (show ps ≠ [] → anyP ∉ ps → ∀ q ∈ up, q ∈ ps by rw [hup]; exact fun h1 h2 => WP.pol (HWP.out h1 h2))
      obtain ⟨ua, uc, rfl, -⟩ := hu7.rd.form
      obtain ⟨pa, pc, rfl, -⟩ := HP7.out.form
      have HC := Bx.mk (strs_cells hu7.rd).2
      have hul : up.length ≤ 2048 := by
        rw [hup]; unfold polP
        split
        · simp
        · have h1 := setB_length (polK (nds l5) (1 + (n : Int)) (nds l5).length)
          have h2 := polK_len (nds l5) (1 + (n : Int)) (nds l5).length
          rw [nds_len] at h1 h2 ⊢; omega
      have hin := fun x => in_any w7 _ ps x HP7.out (by omega)
      have hinA := hin anyP
      rw [anyP_str] at hinA
      have HB7 := Bx.mk HT7.out.bel
      clear HWP hup hu7 hb7 HT6 HP6 HP7 HT7 HLL
      obtain ⟨LP, hLP⟩ : ∃ LP, LP = ps.length := ⟨_, rfl⟩
      obtain ⟨LU, hLU⟩ : ∃ LU, LU = up.length := ⟨_, rfl⟩
      obtain ⟨LT, hLT⟩ : ∃ LT, LT = l5.length := ⟨_, rfl⟩
      have HLP := Bx.mk hLP
      have HLU := Bx.mk hLU
      rw [← hLP] at hin hinA ⊢
      rw [← hLU] at hul hE0 ⊢
      rw [← hLT] at hl5 hE0 ⊢
      clear hLP hLU hLT
      go_wp2_with fail
      go_loopw [13] (fun i wr => ∃ k : Nat, k ≤ LU ∧ i = .int .i64 k ∧ wr = w7) (fun i _ => LU - (intOf i).toNat)
      case atStart => exact ⟨0, by omega, rfl, rfl⟩
      case round =>
        obtain ⟨k, hk, rfl, rfl⟩ := hrel
        by_cases hlt : k < LU
        · have hku : k < up.length := by rw [← HLU.out]; exact hlt
          obtain ⟨b, o, rfl, hbl, hx⟩ := HC.out _ (Below.refl _ _) k hku
          have hinx := hin up[k]
          have hmem := List.getElem_mem hku
          have HUX := Bx.mk (fun h1 h2 => HUP.out h1 h2 _ hmem)
          generalize up[k] = x at *
          clear hmem hbl hku hin
          by_cases hp0 : LP = 0
          · have t0 : decide ((LP : Int) > 0) = false := decide_eq_false (by omega)
            have t1 : decide (0 < LP) = false := decide_eq_false (by omega)
            subst hp0
            clear hinx hinA hx
            go_wp2_with fail
            go_roundw
            case rel => exact ⟨k + 1, by omega, by go_num, by first | rfl | trivial⟩
            case measure => simp [intOf]; omega
          · have t0 : decide ((LP : Int) > 0) = true := decide_eq_true (by omega)
            have t1 : decide (0 < LP) = true := decide_eq_true (by omega)
            by_cases hpa : anyP ∈ ps
            · rw [decide_eq_true hpa] at hinA
              clear hinx hx hpa
              go_wp2_with fail
              go_at_call 33
              refine hinA.mono ?_
              rintro e w8 ⟨rfl, rfl⟩
              go_wp2_with fail
              go_roundw
              case rel => exact ⟨k + 1, by omega, by go_num, by first | rfl | trivial⟩
              case measure => simp [intOf]; omega
            · have hmx := HUX.out (by rintro rfl; exact hp0 HLP.out) hpa
              rw [decide_eq_false hpa] at hinA
              rw [decide_eq_true hmx] at hinx
              clear hpa hmx
              go_wp2_with fail
              go_at_call 33
              refine hinA.mono ?_
              rintro e w8 ⟨rfl, rfl⟩
              go_wp2_with fail
              go_at_call 33
              refine hinx.mono ?_
              rintro e w8 ⟨rfl, rfl⟩
              go_wp2_with fail
              go_roundw
              case rel => exact ⟨k + 1, by omega, by go_num, by first | rfl | trivial⟩
              case measure => simp [intOf]; omega
        · clear hin hinA
          by_cases hz : LT = 0
          · obtain rfl : LU = 0 := hE0 hz
            subst hz
            go_wp2_with (go_at_call 11; refine (haw _).mono ?_; rintro e w8 ⟨rfl, hb8⟩)
            have HB8 := Bx.mk (HB7.out.trans (hb8.mono HB7.out.size))
            clear hb8
            go_wp2_with fail
            go_ret
            exact ⟨rfl, HB8.out⟩
          · have t0 : decide ((LT : Int) > 0) = true := decide_eq_true (by omega)
            have t1 : decide (0 < LT) = true := decide_eq_true (by omega)
            go_wp2_with (go_at_call 11; refine (haw _).mono ?_; rintro e w8 ⟨rfl, hb8⟩)
            have HB8 := Bx.mk (HB7.out.trans (hb8.mono HB7.out.size))
            clear hb8
            go_wp2_with fail
            go_ret
            exact ⟨rfl, HB8.out⟩
end Go.Proofs.Ytmagjdocondmhaa.Tr
