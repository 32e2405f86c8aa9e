/-
  TreeLimit, walked.
-/
import Derived.Test.YtmagjdocondmhaaTrAwake
import Derived.Test.YtmagjdocondmhaaTrStay
import Derived.Test.YtmagjdocondmhaaDeck
namespace Go.Proofs.Ytmagjdocondmhaa.Tr
open Go Go.RowKit Go.Proofs.Ytmagjdocondmhaa.Slc Go.Proofs.Ytmagjdocondmhaa.St Go.Proofs.Ytmagjdocondmhaa.Mp
set_option linter.unusedVariables false
set_option linter.unusedSimpArgs false
attribute [local go_sem] Oper.semAt_some

/-- where the loop stands -/
structure LimS (w : World) (mv : Value) (wr : World) (tv : Value) (l : List Nt) (k S P : Nat) : Prop where
  tl : TL wr tv l
  lim : Lim (nds l) k
  map : Rd wr encP mv lM
  bel : Below w.heap.size w wr
  len : l.length = S
  pow : P = 2 ^ k
theorem LimS.sum {w : World} {mv : Value} {wr : World} {tv : Value} {l : List Nt} {k S P : Nat} (h : LimS w mv wr tv l k S P) : S + 1 = 2 * P := by
  have h1 := h.lim.len
  have h2 := h.len
  have h3 := h.pow
  rw [nds_len, Nat.pow_succ] at h1
  omega
theorem ints_one (w : World) (n : Int) : Ints (w.alloc (.cells #[.int .i64 n] 3)) .i64 (.slice (some ⟨w.heap.size, 0, none⟩) 1 1) [n] :=
  Ints.some w.heap.size 0 1 [n] (by simp) (by simp) (by simp) (by unfold maxLen; simp) (fun j y hj => by
    rw [World.cell?_alloc_at _ _ _ _ rfl]
    cases j with
    | zero => simp at hj; subst hj; rfl
    | succ j => simp at hj)
set_option maxRecDepth 100000 in
set_option maxHeartbeats 4000000 in
theorem law_limit (levels : Int) (w : World) :
    Calls Try.prog 9 #[.int .i64 levels] w fun e w' => e = .returned (.bool true) ∧ Below w.heap.size w w' := by
  have haw := awake_any
  have hI := ints_one w levels
  obtain ⟨W0, hW0⟩ : ∃ W0, W0 = w.alloc (.cells #[.int .i64 levels] 3) := ⟨_, rfl⟩
  have hb0 : Below w.heap.size w W0 := by rw [hW0]; exact (Below.refl _ _).alloc (Nat.le_refl _) _
  rw [← hW0] at hI
  have hnew := new_any W0 _ [levels] W0 hI (Below.refl _ _)
  have HB0 := Bx.mk hb0
  clear hI hb0
  go_enter Try.func9, Try.ntmps9
  go_wp2_with fail
  rw [← hW0]
  clear hW0
  refine hnew.mono ?_
  rintro e w1 ⟨rfl, hb1, hD1⟩
  clear hnew
  have hnx := next_any W0 _ [levels] w1 W0.heap.size 14 hD1 (by omega) (by omega)
  have HB1 := Bx.mk (HB0.out.trans (hb1.mono HB0.out.size))
  have HG := Bx.mk (show w.heap.size ≤ W0.heap.size from HB0.out.size)
  clear hD1 hb1
  obtain ⟨g, hg⟩ : ∃ g, g = W0.heap.size := ⟨_, rfl⟩
  rw [← hg] at hnx HG ⊢
  clear hg
  go_wp2_with fail
  refine hnx.mono ?_
  rintro e w2 ⟨r, rfl, hr0, hr1, -, hgr⟩
  clear hnx
  have HB2 := Bx.mk (HB1.out.grown hgr HB1.out.size (fun k hk => by simp only [Option.some.injEq] at hk; have := HG.out; omega))
  clear hgr
  obtain ⟨W3, hW3⟩ : ∃ W3, W3 = w2.alloc (.cells #[.string ⟨#[49, 46, 50, 46, 49]⟩, .string ⟨#[49, 46, 50, 46, 49]⟩, .string ⟨#[49, 46, 50, 46, 49]⟩, .string ⟨#[49, 46, 50, 46, 50]⟩, .string ⟨#[49, 46, 50, 46, 50]⟩, .string ⟨#[49, 46, 50, 46, 49]⟩, .string ⟨#[49, 46, 50, 46, 50]⟩, .string ⟨#[49, 46, 50, 46, 50]⟩] 50) := ⟨_, rfl⟩
  have HB3 := Bx.mk (show Below w.heap.size w W3 by rw [hW3]; exact HB2.out.alloc HB2.out.size _)
  have HM3 := Bx.mk (show Rd W3 encP (.slice (some ⟨w2.heap.size, 0, none⟩) 4 4) lM by rw [hW3]; exact rd_maps (l := lM) rfl (by simp [lM]))
  have hroot := proot_any W3
  go_wp2_with fail
  rw [← hW3]
  clear hW3
  go_at_call 18
  refine hroot.mono ?_
  rintro e w4 ⟨tv, l, rfl, ho, hn, hb⟩
  clear hroot
  have HS0 := Bx.mk (show LimS w (.slice (some ⟨w2.heap.size, 0, none⟩) 4 4) w4 tv l 0 1 1 from ⟨ho.tl, by rw [hn]; exact lim_root, HM3.out.below hb, HB3.out.trans (hb.mono HB3.out.size), by rw [← nds_len, hn]; rfl, rfl⟩)
  clear ho hn hb
  obtain ⟨mv, hmv⟩ : ∃ mv, mv = Value.slice (some ⟨w2.heap.size, 0, none⟩) 4 4 := ⟨_, rfl⟩
  rw [← hmv] at HS0 ⊢
  clear HM3 HB3 HB2 HB1 HB0 HG hmv
  go_wp2_with fail
  go_loopw [7, 8, 9, 10] (fun tv sv pv iv wr => ∃ (l : List Nt) (k S P : Nat), k ≤ 10 ∧ P ≤ 1024 ∧ sv = .int .i64 S ∧ pv = .int .i64 P ∧ iv = .int .i64 ((k : Int) + 1) ∧ Bx (LimS w mv wr tv l k S P)) (fun _ _ _ iv _ => 11 - (intOf iv).toNat)
  case atStart => exact ⟨l, 0, 1, 1, by omega, by omega, rfl, rfl, rfl, HS0⟩
  case round =>
    clear HS0
    obtain ⟨l, k, S, P, hk, hP, rfl, rfl, rfl, hS⟩ := hrel
    have hsum := hS.out.sum
    by_cases hlt : (k : Int) + 1 ≤ 1 + r
    · obtain ⟨ad, c, rfl, -⟩ := hS.out.tl.rd.form
      obtain ⟨W5, hW5⟩ : ∃ W5, W5 = wr.alloc (.cells #[.string ⟨#[49, 46, 50, 46, 49]⟩, .string ⟨#[49, 46, 50, 46, 50]⟩] 9) := ⟨_, rfl⟩
      have hB5 : Below wr.heap.size wr W5 := by rw [hW5]; exact (Below.refl _ _).alloc (Nat.le_refl _) _
      have hr5 : Rd W5 encS (.slice (some ⟨wr.heap.size, 0, none⟩) 2 2) [lA, lB] := by rw [hW5]; exact rd_strs (l := [lA, lB]) rfl (by simp)
      have hll : l.length = S := hS.out.len
      have hent := enter_any W5 _ _ l [lA, lB] (hS.out.tl.below hB5) hr5 (by omega) (by simp) (by intro p hp; simp [lA, lB] at hp; rcases hp with rfl | rfl <;> simp) ((k : Int) + 1) (by unfold I64; omega) true
      have hst := lim_step hS.out.lim
      rw [show ((k + 1 : Nat) : Int) = (k : Int) + 1 by omega] at hst
      have HB5 := Bx.mk (hS.out.bel.trans (hB5.mono hS.out.bel.size))
      have HM5 := Bx.mk (hS.out.map.below hB5)
      have HPW := Bx.mk hS.out.pow
      have hpow : 4 * P = 2 ^ (k + 2) := by rw [HPW.out, Nat.pow_add]; omega
      rw [← hpow] at hst
      rw [hll] at hent ⊢
      obtain ⟨R, hR⟩ : ∃ R, R = enterP (nds l) ((k : Int) + 1) [lA, lB] true := ⟨_, rfl⟩
      rw [← hR] at hent hst
      have HST := Bx.mk hst
      clear hR hst hB5 hr5 hpow hll
      go_wp2_with fail
      rw [← hW5]
      clear hW5
      go_at_call 21
      refine hent.mono ?_
      intro e w6 hE
      clear hent
      by_cases hbig : 4 * P > 2049
      · obtain ⟨a6, c6, l6, rfl, ho6, hn6, hb6⟩ := hE.ok (c := 2) (by rw [HST.out.1 hbig])
        have hl6 : l6.length = 0 := by rw [← nds_len, hn6, HST.out.1 hbig]; rfl
        rw [hl6]
        have HB6 := Bx.mk (HB5.out.trans (hb6.mono HB5.out.size))
        clear hE ho6 hn6 hb6 hl6
        go_wp2_with (go_at_call 11; refine (haw _).mono ?_; rintro e w8 ⟨rfl, hb8⟩)
        have HB7 := Bx.mk (HB6.out.trans (hb8.mono HB6.out.size))
        clear hb8
        go_wp2_with fail
        go_ret
        exact ⟨rfl, HB7.out⟩
      · obtain ⟨r1, hr1, hrl, t', ht', hlim⟩ := HST.out.2 (by omega)
        obtain ⟨a6, c6, l6, rfl, ho6, hn6, hb6⟩ := hE.ok (c := 0) (by rw [hr1])
        rw [hr1] at hn6
        have hl6 : l6.length = S + 2 * P := by rw [← nds_len, hn6]; show r1.length = _; omega
        have hHM6 := Bx.mk (HM5.out.below hb6)
        have HB6 := Bx.mk (HB5.out.trans (hb6.mono HB5.out.size))
        have hk9 : k ≤ 9 := by
          rcases Nat.lt_or_ge k 10 with q | q
          · omega
          · obtain rfl : k = 10 := by omega
            have := HPW.out
            have : (2 : Nat) ^ 10 = 1024 := rfl
            omega
        obtain ⟨ma, mc, rfl, -⟩ := hHM6.out.form
        have hmap := pmap_any w6 _ _ l6 lM ho6.tl hHM6.out (by omega) (by simp [lM]) (by intro m hm; simp [lM] at hm; rcases hm with rfl | rfl | rfl | rfl <;> simp [lA, lB]) ((k : Int) + 1) (by unfold I64; omega) true
        rw [hn6, show (r1, (0 : Int)).1 = r1 from rfl, ht'] at hmap
        have HLIM := Bx.mk hlim
        have HTL := Bx.mk (show t'.length + 1 = 4 * P by have := hlim.len; rw [this, HPW.out, show k + 1 + 1 = k + 2 from rfl, Nat.pow_add]; omega)
        have HML := Bx.mk (show lM.length = 4 from rfl)
        rw [hl6, HML.out] at hmap
        rw [hl6]
        clear hr1 hrl ht' hlim hE ho6 hn6 hl6
        go_wp2_with fail
        go_at_call 24
        refine hmap.mono ?_
        intro e w7 hE
        clear hmap
        obtain ⟨a7, c7, l7, rfl, ho7, hn7, hb7⟩ := hE.ok (c := 0) rfl
        have hl7 : l7.length = S + 2 * P := by rw [← nds_len, hn7]; have := HTL.out; show t'.length = _; omega
        have HS7 := Bx.mk (show LimS w (.slice ma 4 mc) w7 (.slice a7 l7.length c7) l7 (k + 1) (S + 2 * P) (P * 2) from ⟨ho7.tl, by rw [hn7]; exact HLIM.out, hHM6.out.below hb7, HB6.out.trans (hb7.mono HB6.out.size), hl7, by rw [HPW.out, Nat.pow_succ]⟩)
        rw [hl7] at HS7 ⊢
        clear hE ho7 hn7 hb7 hl7
        go_wp2_with fail
        go_roundw
        case rel => exact ⟨l7, k + 1, S + 2 * P, P * 2, by omega, by omega, by go_num, by go_num, by go_num, HS7⟩
        case measure => simp [intOf]; omega
    · go_wp2_with (go_at_call 11; refine (haw _).mono ?_; rintro e w8 ⟨rfl, hb8⟩)
      have HB7 := Bx.mk (hS.out.bel.trans (hb8.mono hS.out.bel.size))
      clear hb8
      go_wp2_with fail
      go_ret
      exact ⟨rfl, HB7.out⟩
end Go.Proofs.Ytmagjdocondmhaa.Tr
