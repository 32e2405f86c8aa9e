/-
  The generator of trees: grown.
-/
/-
  The generator of trees: changed.
-/
import Derived.Test.YtmagjdocondmhaaLawStaysWalk
import Derived.Test.YtmagjdocondmhaaTrRefQ
namespace Go.Proofs.Ytmagjdocondmhaa.Tr
open Go Go.RowKit Go.Proofs.Ytmagjdocondmhaa.Slc Go.Proofs.Ytmagjdocondmhaa.St Go.Proofs.Ytmagjdocondmhaa.Mp Go.Proofs.Ytmagjdocondmhaa.Rg
set_option linter.unusedVariables false
set_option linter.unusedSimpArgs false
attribute [local go_sem] Oper.semAt_some

theorem keep_ex {t : List Nd} {m : List Bool} {n : Nd} (h : n ∈ keepP t m) : ∃ x ∈ t, n.ex = x.ex := by
  obtain ⟨i, hi, -, rfl⟩ := keep_mem.1 h
  exact ⟨_, mem_at.2 ⟨i, hi, rfl⟩, rfl⟩
theorem subL_len (l : List (B × B)) (x : B) : (subL l x).length ≤ l.length := by
  unfold subL
  refine Nat.le_trans (setB_length _) ?_
  rw [List.length_map]
  exact List.length_filter_le _ _
/-- a tree of the generator -/
structure TG (t : List Nd) (D : Int) : Prop where
  V : VT t D
  ex : ∀ n ∈ t, n.ex.length ≤ 5
theorem tg_root : TG rootT 0 := ⟨by have := (sti_root).V; exact this, fun n hn => by
  unfold rootT at hn
  rw [List.mem_singleton] at hn; subst hn; show 1 ≤ 5; omega⟩
theorem tg_enter {t : List Nd} {D : Int} (h : TG t (D - 1)) (hD : 1 ≤ D) (ps : List B) (cnt : Bool) : (renterP t D ps cnt).2 = 2 ∨ ((renterP t D ps cnt).2 = 0 ∧ TG (renterP t D ps cnt).1 D) := by
  rw [enter_eq]
  by_cases hl : t.length + (moreE t D ps cnt).length ≤ 2048
  · obtain ⟨e1, e2, -⟩ := enter_stay h.V hD ps cnt hl
    rw [e1]
    refine .inr ⟨rfl, e2, fun n hn => ?_⟩
    obtain ⟨x, hx, e⟩ := keep_ex hn
    rw [e]
    rw [sort_ins h.V.srt] at hx
    rcases insL_mem.1 hx with q | q
    · exact h.ex x q
    · obtain ⟨i, -, -, p, -, rfl⟩ := moreK_mem.1 q
      show 1 ≤ 5; omega
  · left
    unfold enterP
    rw [(valid_iff _ _).2 h.V, decide_eq_false (show ¬ D < 1 by omega)]
    simp only [Bool.not_true, Bool.or_self, Bool.false_eq_true, if_false]
    rw [if_pos (by unfold moreE allE at hl; omega)]
theorem tg_map {t : List Nd} {D : Int} (h : TG t D) (hD : 1 ≤ D) (ms : List (B × B)) (hm : ms.length ≤ 5) (ok : Bool) : (rmapP t D ms ok).2 = 2 ∨ ((rmapP t D ms ok).2 = 0 ∧ TG (rmapP t D ms ok).1 D) := by
  rw [map_eq]
  cases ok with
  | false =>
    obtain ⟨e1, e2, -⟩ := map_stay_no h.V hD ms
    rw [e1]
    refine .inr ⟨rfl, e2, fun n hn => ?_⟩
    obtain ⟨x, hx, e⟩ := keep_ex hn
    obtain ⟨y, hy, e'⟩ := keep_ex hx
    rw [e, e']; exact h.ex y hy
  | true =>
    by_cases hl : t.length + (mapMore t D ms).length ≤ 2048
    · obtain ⟨e1, e2, -⟩ := map_stay h.V hD ms hl
      rw [e1]
      refine .inr ⟨rfl, e2, fun n hn => ?_⟩
      obtain ⟨x, hx, e⟩ := keep_ex hn
      rw [e]
      have hx' : x ∈ t.map (nowN ms D) ++ mapMore t D ms := ((srtL_stab ltT_ord _).symm.mem ltT_ord hx)
      have hs := fun q => Nat.le_trans (subL_len ms q) hm
      rcases List.mem_append.1 hx' with q | q
      · obtain ⟨y, hy, rfl⟩ := List.mem_map.1 q
        unfold nowN
        split
        · exact h.ex y hy
        · split
          · exact hs _
          · exact h.ex y hy
      · unfold mapMore at q
        obtain ⟨p, -, rfl⟩ := List.mem_map.1 q
        exact hs _
    · left
      unfold mapP
      rw [(valid_iff _ _).2 h.V, decide_eq_false (show ¬ D < 1 by omega)]
      simp only [Bool.not_true, Bool.or_self, Bool.false_eq_true, if_false]
      rw [if_pos (by omega)]
theorem EnP.tg {w w' : World} {R : List Nd × Int} {e : Ending} {D : Int} (h : EnP w R e w') (hs : R.2 = 2 ∨ (R.2 = 0 ∧ TG R.1 D)) : ∃ v' l' c, e = .returned (.tuple #[v', .int .i64 c]) ∧ TO w' w.heap.size v' l' ∧ Below w.heap.size w w' ∧ (c = 2 ∨ (c = 0 ∧ TG (nds l') D)) := by
  obtain ⟨v', l', he, ho, hn, hb⟩ := h
  exact ⟨v', l', R.2, he, ho, hb, hn ▸ hs⟩
theorem TG.len {t : List Nd} {D : Int} (h : TG t D) : t.length ≤ 2048 := h.V.len
set_option maxRecDepth 100000 in
set_option maxHeartbeats 8000000 in
theorem lgrown_any (w : World) (v : Value) (zs : List Int) (w1 : World) (g : Nat) (hd : Deck w v zs w1 g) (hb : Below w.heap.size w w1) (m : Nat) (hm : m ≤ 10) :
    Calls Try.prog 13 #[.pointer (some ⟨g, 0, none⟩), .int .i64 m] w1 fun e w' => ∃ (tv : Value) (l : List Nt) (D : Nat), e = .returned (.tuple #[tv, .int .i64 D]) ∧ D ≤ m ∧ TD w v zs g w' tv l ∧ TG (nds l) D := by
  have hroot := rroot_any w1
  have HD1 := Bx.mk hd
  have HB1 := Bx.mk hb
  clear hd hb
  go_enter Try.func13, Try.ntmps13
  go_wp2_with fail
  go_at_call 19
  refine hroot.mono ?_
  rintro e w2 ⟨tv, l, rfl, ho, hn, hb⟩
  clear hroot
  have HT2 := Bx.mk (show TD w v zs g w2 tv l from ⟨ho.mono HD1.out.lt, HD1.out.below hb, HB1.out.trans (hb.mono HB1.out.size)⟩)
  have HI2 := Bx.mk (show TG (nds l) ((0 : Nat) : Int) by rw [hn]; exact tg_root)
  have hnx := next_any w v zs w2 g ((m : Int) + 1) HT2.out.dk (by omega) (by omega)
  clear ho hn hb HD1 HB1
  go_wp2_with fail
  refine hnx.mono ?_
  rintro e w3 ⟨r, rfl, hr0, hr1, hD3, hg3⟩
  clear hnx
  have HT3 := Bx.mk (HT2.out.grow hg3 hD3)
  clear hD3 hg3 HT2
  obtain ⟨n, rfl⟩ : ∃ n : Nat, r = (n : Int) := ⟨r.toNat, by omega⟩
  have hn5 : n ≤ m := by omega
  clear hr0 hr1
  go_wp2_with fail
  go_loopw [6, 7] (fun tv iv wr => ∃ (l : List Nt) (k : Nat), k ≤ n ∧ iv = .int .i64 ((k : Int) + 1) ∧ Bx (TD w v zs g wr tv l) ∧ Bx (TG (nds l) (k : Nat))) (fun _ iv _ => 20 - (intOf iv).toNat)
  case atStart => exact ⟨l, 0, by omega, rfl, HT3, HI2⟩
  case round =>
    clear HT3 HI2
    obtain ⟨l, k, hk, rfl, hT, hI⟩ := hrel
    obtain ⟨ta, tc, htv, -⟩ := hT.out.tr.own.rd.form
    obtain ⟨LN, hLN⟩ : ∃ LN, LN = l.length := ⟨_, rfl⟩
    rw [← hLN] at htv
    subst htv
    have HLN := Bx.mk hLN
    clear hLN
    by_cases hlt : (k : Int) + 1 ≤ (n : Int)
    · have hpo := policies_any w v zs wr g 4 hT.out.dk (by omega)
      go_wp2_with fail
      go_at_call 20
      refine hpo.mono ?_
      rintro e w4 ⟨pv, ps, rfl, hM, hpl, hpx⟩
      clear hpo
      have HT4 := Bx.mk (hT.out.grow hM.gr hM.dk)
      have hnx := next_any w v zs w4 g 3 hM.dk (by omega) (by omega)
      have hgl : g < wr.heap.size := hT.out.dk.lt
      have HM4 := Bx.mk hM.own
      have HPX := Bx.mk (few_of hpx)
      have HLL := Bx.mk (show l.length ≤ 2048 by have := hI.out.len; rwa [nds_len] at this)
      obtain ⟨pa, pc, rfl, -⟩ := hM.own.rd.form
      clear hM hpx hT
      go_wp2_with fail
      refine hnx.mono ?_
      rintro e w5 ⟨r5, rfl, a5, b5, hD5, hg5⟩
      clear hnx
      have HT5 := Bx.mk (HT4.out.grow hg5 hD5)
      have hent := fun cb => renter_any w5 _ (.slice pa ps.length pc) l ps HT5.out.tr.tl (own_grown HM4.out hg5 hgl).rd 5 hI.out.ex (by
        have := HLL.out
        have h1 : l.length * (ps.length + 5 + 1) ≤ 2048 * 10 := Nat.mul_le_mul this (by omega)
        omega) (by omega) HPX.out ((k : Int) + 1) (by unfold I64; omega) cb
      have HTG := Bx.mk (fun cb => tg_enter (D := (k : Int) + 1) (by rw [show (k : Int) + 1 - 1 = (k : Int) by omega]; exact hI.out) (by omega) ps cb)
      clear hD5 hg5 HM4 HT4 HPX hpl hgl
      go_wp2_with fail
      go_at_call 22
      refine (hent _).mono ?_
      intro e w6 hE
      obtain ⟨v6, l6, c6, rfl, ho6, hb6, hc6⟩ := hE.tg (HTG.out _)
      clear hent hE HTG a5 b5
      rcases hc6 with rfl | ⟨rfl, hT6⟩
      · have HT6 := Bx.mk (HT5.out.below hb6)
        have wj : IntKind.i64.wrap ((k : Int) + 1 - 1) = (k : Int) := by rw [IntWalk.i64_in _ (by omega)]; omega
        clear ho6 hb6 HT5
        go_wp2_with fail
        go_ret2
        exact ⟨_, l, k, rfl, by omega, HT6.out, hI.out⟩
      · have HT6 := Bx.mk (HT5.out.next ho6 hb6)
        have HI6 := Bx.mk (show TG (nds l6) ((k + 1 : Nat) : Int) by rw [show ((k + 1 : Nat) : Int) = (k : Int) + 1 by omega]; exact hT6)
        have hnx := next_any w v zs w6 g 2 HT6.out.dk (by omega) (by omega)
        obtain ⟨a6, c6, hv6, -⟩ := ho6.own.rd.form
        obtain ⟨L6, hL6⟩ : ∃ L6, L6 = l6.length := ⟨_, rfl⟩
        rw [← hL6] at hv6
        subst hv6
        clear ho6 hb6 hT6 HT5 hI hL6 HLL
        go_wp2_with fail
        refine hnx.mono ?_
        rintro e w7 ⟨r7, rfl, a7, b7, hD7, hg7⟩
        clear hnx
        have HT7 := Bx.mk (HT6.out.grow hg7 hD7)
        clear hD7 hg7 HT6
        by_cases h7 : r7 = 1
        · have t7 : (r7 == 1) = true := by simpa using h7
          have hpo := mappings_any w v zs w7 g 4 HT7.out.dk (by omega)
          clear h7 a7 b7
          go_wp2_with fail
          go_at_call 23
          refine hpo.mono ?_
          rintro e w8 ⟨mv, ms, rfl, hM, hml, hmx⟩
          clear hpo
          have HT8 := Bx.mk (HT7.out.grow hM.gr hM.dk)
          have hnx := next_any w v zs w8 g 5 hM.dk (by omega) (by omega)
          have hgl : g < w7.heap.size := HT7.out.dk.lt
          have HM8 := Bx.mk hM.own
          have HMX := Bx.mk (show ∀ m ∈ ms, m.1.length ≤ 1000000 ∧ m.2.length ≤ 1000000 from fun m hm => by have := hmx m hm; omega)
          obtain ⟨ma, mc, rfl, -⟩ := hM.own.rd.form
          clear hM hmx HT7
          go_wp2_with fail
          refine hnx.mono ?_
          rintro e w9 ⟨r9, rfl, a9, b9, hD9, hg9⟩
          clear hnx
          have HT9 := Bx.mk (HT8.out.grow hg9 hD9)
          have hmap := fun cb => rmap_any w9 _ (.slice ma ms.length mc) l6 ms HT9.out.tr.tl (own_grown HM8.out hg9 hgl).rd (by have := HI6.out.len; rw [nds_len] at this; omega) (by omega) HMX.out ((k : Int) + 1) cb
          have HTG := Bx.mk (fun cb => tg_map (D := (k : Int) + 1) (by have := HI6.out; rwa [show ((k + 1 : Nat) : Int) = (k : Int) + 1 by omega] at this) (by omega) ms (by omega) cb)
          clear hD9 hg9 HM8 HT8 HMX hml hgl
          go_wp2_with fail
          go_at_call 25
          refine (hmap _).mono ?_
          intro e w10 hE
          obtain ⟨v10, l10, c10, rfl, ho10, hb10, hc10⟩ := hE.tg (HTG.out _)
          clear hmap hE HTG a9 b9
          rcases hc10 with rfl | ⟨rfl, hT10⟩
          · have HT10 := Bx.mk (HT9.out.below hb10)
            clear ho10 hb10 HT9
            go_wp2_with fail
            go_roundw
            case rel => exact ⟨l6, k + 1, by omega, by go_num, HT10, HI6⟩
            case measure => simp [intOf]; omega
          · have HT10 := Bx.mk (HT9.out.next ho10 hb10)
            have HI10 := Bx.mk (show TG (nds l10) ((k + 1 : Nat) : Int) by rw [show ((k + 1 : Nat) : Int) = (k : Int) + 1 by omega]; exact hT10)
            obtain ⟨a10, c10, hv10, -⟩ := ho10.own.rd.form
            clear ho10 hb10 hT10 HT9
            subst hv10
            go_wp2_with fail
            go_roundw
            case rel => exact ⟨l10, k + 1, by omega, by go_num, HT10, HI10⟩
            case measure => simp [intOf]; omega
        · have t7 : (r7 == 1) = false := by simpa using h7
          clear h7 a7 b7
          go_wp2_with fail
          go_roundw
          case rel => exact ⟨l6, k + 1, by omega, by go_num, HT7, HI6⟩
          case measure => simp [intOf]; omega
    · obtain rfl : k = n := by omega
      go_wp2_with fail
      go_ret2
      exact ⟨_, l, k, rfl, hn5, hT.out, hI.out⟩
end Go.Proofs.Ytmagjdocondmhaa.Tr

namespace Go.Proofs.Ytmagjdocondmhaa.Tr
open Go Go.RowKit Go.Proofs.Ytmagjdocondmhaa.Slc Go.Proofs.Ytmagjdocondmhaa.St Go.Proofs.Ytmagjdocondmhaa.Mp Go.Proofs.Ytmagjdocondmhaa.Rg
set_option linter.unusedVariables false
set_option linter.unusedSimpArgs false
attribute [local go_sem] Oper.semAt_some

/-- a copy of a tree that is changed, beside the deck -/
structure CS (w : World) (v : Value) (zs : List Int) (g : Nat) (wr w' : World) (ov : Value) (l : List Nt) : Prop where
  tr : TO w' wr.heap.size ov l
  dk : Deck w v zs w' g
  gr : wr.grownBy w' (some g)
section
variable {w wr w' w'' : World} {v ov : Value} {zs : List Int} {g : Nat} {l : List Nt}
theorem CS.grow (h : CS w v zs g wr w' ov l) (hgl : g < wr.heap.size) (hg : w'.grownBy w'' (some g)) (hd : Deck w v zs w'' g) : CS w v zs g wr w'' ov l :=
  ⟨h.tr.deck h.dk hg hgl, hd, h.gr.trans hg⟩
theorem CS.below (h : CS w v zs g wr w' ov l) (hb : Below w'.heap.size w' w'') : CS w v zs g wr w'' ov l :=
  ⟨h.tr.below hb, h.dk.below hb, h.gr.trans (grown_below hb)⟩
theorem CS.put (h : CS w v zs g wr w' ov l) (hgl : g < wr.heap.size) (hw0 : w.heap.size ≤ wr.heap.size) (k j : Nat) (hk : k < l.length) (hj : j < 4) (x : Value) (y : Nt) (he : encN y = (encN l[k]).set j x) (hy : NtIn w' (fun b => ov.ownBlock ≠ some b) y) :
    ∃ b cap, ov = .slice (some ⟨b, 0, none⟩) l.length cap ∧ (∀ i, w'.frozen? ⟨b, i, none⟩ = false) ∧ CS w v zs g wr (w'.setCell ⟨b, k * 4 + j, none⟩ x) ov (l.set k y) := by
  obtain ⟨b, cap, hv, hb, hg, hf, ho, hgr⟩ := h.tr.own.set1 encN_ok k j hk hj x y he
  have hob : ∀ c, ov.ownBlock = some c ↔ b = c := fun c => by rw [hv]; simp [Value.ownBlock]
  have hkeep : ∀ x', NtIn w' (fun c => ov.ownBlock ≠ some c) x' → NtIn (w'.setCell ⟨b, k * 4 + j, none⟩ x) (fun c => ov.ownBlock ≠ some c) x' := fun x' hx => hx.keep hgr.size fun c hc hlt => hgr.block c hlt fun e => hc ((hob c).2 (by simpa using e.symm))
  have hbb : Below wr.heap.size w' (w'.setCell ⟨b, k * 4 + j, none⟩ x) := (show Below wr.heap.size w' w' from ⟨rfl, rfl, rfl, Nat.le_refl _, fun _ _ => rfl⟩).setCell hb x
  refine ⟨b, cap, hv, hf, ⟨ho, fun z hz => ?_⟩, deck_keep h.dk hbb hgl hw0, ?_⟩
  · rcases List.mem_or_eq_of_mem_set hz with q | rfl
    · exact hkeep z (h.tr.nm z q)
    · exact hkeep _ hy
  · exact ⟨hbb.os.trans h.gr.os, hbb.tape.trans h.gr.tape, hbb.output.trans h.gr.output, Nat.le_trans h.gr.size hbb.size, fun i hi hne => (hbb.block i hi).trans (h.gr.block i hi hne)⟩
/-- both trees -/
theorem CS.td (h : CS w v zs g wr w' ov l) (hd : Deck w v zs wr g) (hb : Below w.heap.size w wr) : TD w v zs g w' ov l :=
  ⟨h.tr.mono hd.lt, h.dk, hb.grown h.gr hb.size fun k hk => by simp only [Option.some.injEq] at hk; have := hd.ge; omega⟩
end
/-- the facts of the regions that change a number -/
def CgF (b o : Nat) (j : Nat) (g : Nat) (dd : Int) : Nat → Value → World → Prop
  | 0, v, _ => v = .pointer (some ⟨b, o, none⟩)
  | 1, v, _ => v = .pointer (some ⟨b, o, none⟩)
  | 2, v, _ => v = .pointer (some ⟨b, o + j, none⟩)
  | 3, v, _ => v = .int .i64 dd
  | 4, v, _ => v = .pointer (some ⟨g, 0, none⟩)
  | 5, v, _ => ∃ r : Int, v = .int .i64 r ∧ 0 ≤ r ∧ r < 3
  | 6, v, _ => ∃ r : Int, v = .int .i64 r
  | 7, v, _ => ∃ r : Int, v = .int .i64 r
  | 8, v, _ => v = .pointer (some ⟨b, o, none⟩)
  | 9, v, _ => v = .pointer (some ⟨b, o + j, none⟩)
  | _, _, _ => True
theorem CgF.stable (b o j g : Nat) (dd : Int) (i : Nat) (v : Value) (w w' : World) (h : CgF b o j g dd i v w) (hb : w.grownBy w' (some g)) : CgF b o j g dd i v w' := by
  match i with
  | 0 | 1 | 2 | 3 | 4 | 5 | 6 | 7 | 8 | 9 => exact h
  | _ + 10 => exact trivial
theorem set_ex {l : List Nt} (h : ∀ n ∈ nds l, n.ex.length ≤ 5) (k : Nat) {y : Nt} (hy : y.n.ex.length ≤ 5) : ∀ n ∈ nds (l.set k y), n.ex.length ≤ 5 := by
  intro n hn
  obtain ⟨z, hz, rfl⟩ := List.mem_map.1 hn
  rcases List.mem_or_eq_of_mem_set hz with q | rfl
  · exact h _ (List.mem_map.2 ⟨z, q, rfl⟩)
  · exact hy
set_option maxRecDepth 100000 in
set_option maxHeartbeats 8000000 in
theorem lchanged_any (w : World) (v : Value) (zs : List Int) (wr : World) (g : Nat) (tv : Value) (l : List Nt) (h : TD w v zs g wr tv l) (hE : ∀ n ∈ nds l, n.ex.length ≤ 5) (hn : l.length ≤ 2048) :
    Calls Try.prog 14 #[.pointer (some ⟨g, 0, none⟩), tv] wr fun e w' => ∃ (tv' : Value) (l' : List Nt), e = .returned tv' ∧ TL w' tv' l' ∧ TD w v zs g w' tv l ∧ wr.grownBy w' (some g) ∧ l'.length ≤ l.length ∧ (∀ n ∈ nds l', n.ex.length ≤ 5) := by
  obtain ⟨i0, hi0, hz0, hz1, hz2⟩ := info_parts info_node
  obtain ⟨ad, c, rfl, -⟩ := h.tr.own.rd.form
  have HTD := Bx.mk h
  have HE := Bx.mk hE
  have HGL := Bx.mk h.dk.lt
  have HW0 := Bx.mk h.bel.size
  have hr3 : (wr.alloc (.cells #[] 56)).heap[wr.heap.size]? = some (.cells #[] 56 (0, 0)) := heap_alloc_new _ _
  have hb3 : Below wr.heap.size wr (wr.alloc (.cells #[] 56)) := (Below.refl _ _).alloc (Nat.le_refl _) _
  have HSRC := Bx.mk (show SrcV (wr.alloc (.cells #[] 56)) 4 (.slice ad l.length c) l.length (l.flatMap encN) from (h.tr.own.rd.below hb3).src encN_ok)
  have HB3 := Bx.mk hb3
  obtain ⟨N, hN⟩ : ∃ N, N = l.length := ⟨_, rfl⟩
  have HN := Bx.mk hN
  rw [← hN] at hn HSRC ⊢
  have HTDN := Bx.mk (show TD w v zs g wr (.slice ad N c) l by have := HTD.out; rw [← HN.out] at this; exact this)
  have hm1 : N ≤ maxLen := by unfold maxLen; omega
  have hm2 : N * 56 ≤ 140737488355328 := by omega
  have hz3 : wr.heap.size ≤ (wr.alloc (.cells #[] 56)).heap.size := hb3.size
  clear h hE hb3 hN
  go_enter Try.func14, Try.ntmps14
  go_wp2_with (at_builtin; refine wpList_append_fresh rfl _ _ _ rfl wr.heap.size 56 i0 _ 4 56 und_nodes hi0 hz0 hz1 hz2 rfl (by decide) wr.heap.size rfl hr3 (Nat.le_refl _) hz3 _ N (l.flatMap encN) rfl HSRC.out hm1 hm2 ?_)
  intro v4 w4 hown hb4 _
  have HB4 := Bx.mk (HB3.out.trans (hb4.mono (by first | omega | simp)))
  have HCS4 := Bx.mk (show CS w v zs g wr w4 v4 l from ⟨TO.of (Own.of (l := l) hown HN.out rfl) (Nat.le_refl _) HB4.out HTD.out.tr.tl.at_, HTD.out.dk.below HB4.out, grown_below HB4.out⟩)
  obtain ⟨a4, c4, hv4, -⟩ := HCS4.out.tr.own.rd.form
  rw [← HN.out] at hv4
  subst hv4
  clear hown hb4 hr3 hm1 hm2 hz3 HSRC HB3
  by_cases hN0 : N = 0
  · have t1 : ((N : Int) == 0) = true := by simpa using hN0
    clear hN0
    go_wp2_with fail
    go_ret
    have := HTD.out
    rw [← HN.out] at this
    exact ⟨_, l, rfl, HCS4.out.tr.tl, this.below HB4.out, grown_below HB4.out, by rw [HN.out]; exact Nat.le_refl _, HE.out⟩
  have t1 : ((N : Int) == 0) = false := by simpa using hN0
  obtain ⟨b, rfl⟩ : ∃ b, a4 = some ⟨b, 0, none⟩ := by
    rcases HCS4.out.tr.own.2 with ⟨_, hz⟩ | ⟨b, cap, cu, hv2, -⟩
    · have := HN.out; omega
    · simp only [Value.slice.injEq] at hv2
      exact ⟨b, hv2.1⟩
  have hnx := next_any w v zs w4 g (N : Int) HCS4.out.dk (by omega) (by omega)
  go_wp2_with fail
  refine hnx.mono ?_
  rintro e w5 ⟨r, rfl, hr0, hr1, hD5, hg5⟩
  clear hnx
  have HCS5 := Bx.mk (HCS4.out.grow HGL.out hg5 hD5)
  obtain ⟨kk, rfl⟩ : ∃ kk : Nat, r = (kk : Int) := ⟨r.toNat, by omega⟩
  have hkN : kk < N := by omega
  have hkl : kk < l.length := by rw [← HN.out]; exact hkN
  have hnx := next_any w v zs w5 g 6 HCS5.out.dk (by omega) (by omega)
  obtain ⟨x, hx⟩ : ∃ x, x = l[kk] := ⟨_, rfl⟩
  have HXM := Bx.mk (show x ∈ l by rw [hx]; exact List.getElem_mem hkl)
  clear hD5 hg5 hr0 hr1 HCS4 hN0
  go_wp2_with fail
  refine hnx.mono ?_
  rintro e w6 ⟨r6, rfl, hr0, hr1, hD6, hg6⟩
  clear hnx
  have HCS6 := Bx.mk (HCS5.out.grow HGL.out hg6 hD6)
  clear hD6 hg6 HCS5
  have hcs : r6 = 0 ∨ r6 = 1 ∨ r6 = 2 ∨ r6 = 3 ∨ r6 = 4 ∨ r6 = 5 := by omega
  rcases hcs with rfl | rfl | rfl | rfl | rfl | rfl
  all_goals clear hr0 hr1
  · have HCX := Bx.mk (show ∀ w', CS w v zs g wr w' (.slice (some ⟨b, 0, none⟩) N c4) l → w'.cell? ⟨b, kk * 4 + 0, none⟩ = some (.int .i64 x.n.d) from fun w' hc => by
      have ho := hc.tr.own
      rw [HN.out] at ho
      have := Slc.Own.cell encN_ok ho kk hkl 0 (by omega) (.int .i64 x.n.d) (by rw [← hx]; rfl)
      exact this)
    go_upto_region 7 with fail
    refine wp_region_rel 10 (fun a b => a.grownBy b (some g)) (fun w' => CS w v zs g wr w' (.slice (some ⟨b, 0, none⟩) N c4) l) (CgF b (kk * 4) 0 g x.n.d) (by kernel_rfl) (by kernel_rfl) (by rfl) (fun a b hab => grown_below hab) (CgF.stable b (kk * 4) 0 g x.n.d) (HCS6.out.below (drewN_below (Below.refl _ _) 1)) ?_ ?_
    · intro i oo hi ho xx w7 hI hd
      have hcs : i = 0 ∨ i = 1 ∨ i = 2 ∨ i = 3 ∨ i = 4 ∨ i = 5 ∨ i = 6 ∨ i = 7 ∨ i = 8 ∨ i = 9 := by omega
      simp only [List.take_succ_cons, List.take_zero, putFrom, Act.put, List.setIfInBounds_toArray, List.set_cons_succ, List.set_cons_zero, Nat.zero_add, Nat.reduceAdd]
      have HI7 := Bx.mk hI
      have hcell := HCX.out w7 hI
      try simp only [Nat.add_zero] at hcell
      have hnx := next_any w v zs w7 g 3 hI.dk (by omega) (by omega)
      clear hI
      rcases hcs with rfl | rfl | rfl | rfl | rfl | rfl | rfl | rfl | rfl | rfl
      all_goals
        simp only [List.getElem?_cons_succ, List.getElem?_cons_zero, Option.some.injEq] at ho
        subst ho
        simp [Needs, Region.binds, NeedsB, CgF] at hd
      all_goals clear hi
      case inr.inr.inr.inr.inr.inl =>
        clear hcell
        go_wp2_with (first | (refine hnx.mono ?_; rintro e w8 ⟨r8, rfl, a8, b8, hD8, hg8⟩))
        exact ⟨rfl, rfl, ⟨r8, rfl, a8, b8⟩, hg8, HI7.out.grow HGL.out hg8 hD8⟩
      case inr.inr.inr.inr.inr.inr.inl =>
        obtain ⟨r8, h5, a8, b8⟩ := hd
        clear hnx hcell a8 b8
        go_wp2_with fail
        exact ⟨rfl, rfl, ⟨_, rfl⟩, grown_refl _ _, HI7.out⟩
      case inr.inr.inr.inr.inr.inr.inr.inl =>
        obtain ⟨h3, r8, h6⟩ := hd
        clear hnx hcell
        go_wp2_with fail
        exact ⟨rfl, rfl, ⟨_, rfl⟩, grown_refl _ _, HI7.out⟩
      all_goals
        clear hnx
        go_wp2_with fail
        exact ⟨rfl, rfl, rfl, grown_refl _ _, HI7.out⟩
    · intro xx w7 hI hf
      have f7 := hf 7 (by omega)
      have f9 := hf 9 (by omega)
      simp only [CgF] at f7 f9
      obtain ⟨z, f7⟩ := f7
      simp only [List.take_succ_cons, List.take_zero, List.drop_succ_cons, List.drop_zero, putFrom, Act.put, List.setIfInBounds_toArray, List.set_cons_succ, List.set_cons_zero, Nat.zero_add, Nat.reduceAdd, f7, f9]
      have hcell := HCX.out w7 hI
      try simp only [Nat.add_zero] at hcell
      obtain ⟨b', cap, hv, hfz, hput⟩ := hI.put HGL.out HW0.out kk 0 hkl (by omega) (.int .i64 z) ⟨⟨z, x.n.p, x.n.pol, x.n.ex⟩, x.u⟩ (by rw [← hx]; rfl) ⟨(hI.tr.nm x HXM.out).1, (hI.tr.nm x HXM.out).2⟩
      simp only [Value.slice.injEq, Option.some.injEq, Addr.mk.injEq, and_true] at hv
      obtain ⟨rfl, -⟩ := hv
      have hfk := hfz (kk * 4 + 0)
      try simp only [Nat.add_zero] at hfk hput
      have HPUT := Bx.mk hput
      have HI7 := Bx.mk hI
      clear hf hI hput hfz f7 f9
      go_wp2_with fail
      go_ret
      exact ⟨_, l.set kk ⟨⟨z, x.n.p, x.n.pol, x.n.ex⟩, x.u⟩, rfl, HPUT.out.tr.tl, HTDN.out.grow HPUT.out.gr HPUT.out.dk, HPUT.out.gr, by rw [List.length_set, HN.out]; exact Nat.le_refl _, set_ex HE.out kk (show x.n.ex.length ≤ 5 from HE.out _ (List.mem_map.2 ⟨x, HXM.out, rfl⟩))⟩
  · have HCX := Bx.mk (show ∀ w', CS w v zs g wr w' (.slice (some ⟨b, 0, none⟩) N c4) l → w'.cell? ⟨b, kk * 4 + 1, none⟩ = some (.int .i64 x.n.p) from fun w' hc => by
      have ho := hc.tr.own
      rw [HN.out] at ho
      have := Slc.Own.cell encN_ok ho kk hkl 1 (by omega) (.int .i64 x.n.p) (by rw [← hx]; rfl)
      exact this)
    go_upto_region 9 with fail
    refine wp_region_rel 10 (fun a b => a.grownBy b (some g)) (fun w' => CS w v zs g wr w' (.slice (some ⟨b, 0, none⟩) N c4) l) (CgF b (kk * 4) 1 g x.n.p) (by kernel_rfl) (by kernel_rfl) (by rfl) (fun a b hab => grown_below hab) (CgF.stable b (kk * 4) 1 g x.n.p) (HCS6.out.below (drewN_below (Below.refl _ _) 1)) ?_ ?_
    · intro i oo hi ho xx w7 hI hd
      have hcs : i = 0 ∨ i = 1 ∨ i = 2 ∨ i = 3 ∨ i = 4 ∨ i = 5 ∨ i = 6 ∨ i = 7 ∨ i = 8 ∨ i = 9 := by omega
      simp only [List.take_succ_cons, List.take_zero, putFrom, Act.put, List.setIfInBounds_toArray, List.set_cons_succ, List.set_cons_zero, Nat.zero_add, Nat.reduceAdd]
      have HI7 := Bx.mk hI
      have hcell := HCX.out w7 hI
      try simp only [Nat.add_zero] at hcell
      have hnx := next_any w v zs w7 g 3 hI.dk (by omega) (by omega)
      clear hI
      rcases hcs with rfl | rfl | rfl | rfl | rfl | rfl | rfl | rfl | rfl | rfl
      all_goals
        simp only [List.getElem?_cons_succ, List.getElem?_cons_zero, Option.some.injEq] at ho
        subst ho
        simp [Needs, Region.binds, NeedsB, CgF] at hd
      all_goals clear hi
      case inr.inr.inr.inr.inr.inl =>
        clear hcell
        go_wp2_with (first | (refine hnx.mono ?_; rintro e w8 ⟨r8, rfl, a8, b8, hD8, hg8⟩))
        exact ⟨rfl, rfl, ⟨r8, rfl, a8, b8⟩, hg8, HI7.out.grow HGL.out hg8 hD8⟩
      case inr.inr.inr.inr.inr.inr.inl =>
        obtain ⟨r8, h5, a8, b8⟩ := hd
        clear hnx hcell a8 b8
        go_wp2_with fail
        exact ⟨rfl, rfl, ⟨_, rfl⟩, grown_refl _ _, HI7.out⟩
      case inr.inr.inr.inr.inr.inr.inr.inl =>
        obtain ⟨h3, r8, h6⟩ := hd
        clear hnx hcell
        go_wp2_with fail
        exact ⟨rfl, rfl, ⟨_, rfl⟩, grown_refl _ _, HI7.out⟩
      all_goals
        clear hnx
        go_wp2_with fail
        exact ⟨rfl, rfl, rfl, grown_refl _ _, HI7.out⟩
    · intro xx w7 hI hf
      have f7 := hf 7 (by omega)
      have f9 := hf 9 (by omega)
      simp only [CgF] at f7 f9
      obtain ⟨z, f7⟩ := f7
      simp only [List.take_succ_cons, List.take_zero, List.drop_succ_cons, List.drop_zero, putFrom, Act.put, List.setIfInBounds_toArray, List.set_cons_succ, List.set_cons_zero, Nat.zero_add, Nat.reduceAdd, f7, f9]
      have hcell := HCX.out w7 hI
      try simp only [Nat.add_zero] at hcell
      obtain ⟨b', cap, hv, hfz, hput⟩ := hI.put HGL.out HW0.out kk 1 hkl (by omega) (.int .i64 z) ⟨⟨x.n.d, z, x.n.pol, x.n.ex⟩, x.u⟩ (by rw [← hx]; rfl) ⟨(hI.tr.nm x HXM.out).1, (hI.tr.nm x HXM.out).2⟩
      simp only [Value.slice.injEq, Option.some.injEq, Addr.mk.injEq, and_true] at hv
      obtain ⟨rfl, -⟩ := hv
      have hfk := hfz (kk * 4 + 1)
      try simp only [Nat.add_zero] at hfk hput
      have HPUT := Bx.mk hput
      have HI7 := Bx.mk hI
      clear hf hI hput hfz f7 f9
      go_wp2_with fail
      go_ret
      exact ⟨_, l.set kk ⟨⟨x.n.d, z, x.n.pol, x.n.ex⟩, x.u⟩, rfl, HPUT.out.tr.tl, HTDN.out.grow HPUT.out.gr HPUT.out.dk, HPUT.out.gr, by rw [List.length_set, HN.out]; exact Nat.le_refl _, set_ex HE.out kk (show x.n.ex.length ≤ 5 from HE.out _ (List.mem_map.2 ⟨x, HXM.out, rfl⟩))⟩
  · have hnx := next_any w v zs w6 g 9 HCS6.out.dk (by omega) (by omega)
    go_wp2_with fail
    refine hnx.mono ?_
    rintro e w7 ⟨r7, rfl, hr0, hr1, hD7, hg7⟩
    clear hnx
    have HCS7 := Bx.mk (HCS6.out.grow HGL.out hg7 hD7)
    obtain ⟨k7, rfl⟩ : ∃ k7 : Nat, r7 = (k7 : Int) := ⟨r7.toNat, by omega⟩
    have hpol := policy_any w7 k7 (by omega)
    clear hD7 hg7 hr0 hr1
    go_wp2_with fail
    go_at_call 34
    refine hpol.mono ?_
    rintro e w8 ⟨p8, rfl, hp8, hb8⟩
    clear hpol
    have HCS8 := Bx.mk (HCS7.out.below hb8)
    obtain ⟨y, hy⟩ : ∃ y : Nt, y = ⟨⟨x.n.d, x.n.p, p8, x.n.ex⟩, x.u⟩ := ⟨_, rfl⟩
    have hcell := by
      have ho := HCS8.out.tr.own
      rw [HN.out] at ho
      exact Slc.Own.cell encN_ok ho kk hkl 2 (by omega) (.string (bstr x.n.pol)) (by rw [← hx]; rfl)
    obtain ⟨b', cap, hv, hfz, hput⟩ := HCS8.out.put HGL.out HW0.out kk 2 hkl (by omega) (.string (bstr p8)) y (by rw [hy, ← hx]; rfl) (by
      rw [hy]
      exact ⟨(HCS8.out.tr.nm x HXM.out).1, (HCS8.out.tr.nm x HXM.out).2.1, by show p8.length ≤ 1000000; omega⟩)
    simp only [Value.slice.injEq, Option.some.injEq, Addr.mk.injEq, and_true] at hv
    obtain ⟨rfl, -⟩ := hv
    have hfk := hfz (kk * 4 + 2)
    have HPUT := Bx.mk hput
    have HYX := Bx.mk (show y.n.ex.length ≤ 5 by rw [hy]; exact (show x.n.ex.length ≤ 5 from HE.out _ (List.mem_map.2 ⟨x, HXM.out, rfl⟩)))
    clear hput hfz hb8 hy hp8
    go_wp2_with fail
    go_ret
    exact ⟨_, l.set kk y, rfl, HPUT.out.tr.tl, HTDN.out.grow HPUT.out.gr HPUT.out.dk, HPUT.out.gr, by rw [List.length_set, HN.out]; exact Nat.le_refl _, set_ex HE.out kk HYX.out⟩
  · have hpo := policies_any w v zs w6 g 3 HCS6.out.dk (by omega)
    go_wp2_with fail
    go_at_call 20
    refine hpo.mono ?_
    rintro e w8 ⟨pv, ps, rfl, hM, hpl, hpx⟩
    clear hpo
    have HCS8 := Bx.mk (HCS6.out.grow HGL.out hM.gr hM.dk)
    obtain ⟨pa, pc, rfl, -⟩ := hM.own.rd.form
    obtain ⟨PN, hPN⟩ : ∃ PN, PN = ps.length := ⟨_, rfl⟩
    obtain ⟨y, hy⟩ : ∃ y : Nt, y = ⟨⟨x.n.d, x.n.p, x.n.pol, ps⟩, ⟨pa, PN, pc⟩⟩ := ⟨_, rfl⟩
    have hcell := by
      have ho := HCS8.out.tr.own
      rw [HN.out] at ho
      exact Slc.Own.cell encN_ok ho kk hkl 3 (by omega) x.u.val (by rw [← hx]; rfl)
    obtain ⟨b', cap, hv, hfz, hput⟩ := HCS8.out.put HGL.out HW0.out kk 3 hkl (by omega) (.slice pa PN pc) y (by rw [hy, ← hx]; rfl) (by
      rw [hy, hPN]
      refine ⟨⟨hM.own.rd, fun i hi e => ?_⟩, ⟨by show ps.length ≤ 100000; omega, few_of hpx⟩, (HCS8.out.tr.nm x HXM.out).2.2⟩
      have h1 := (hM.own.lt i hi).1
      have h2 := (HCS6.out.tr.own.lt i e).2
      omega)
    simp only [Value.slice.injEq, Option.some.injEq, Addr.mk.injEq, and_true] at hv
    obtain ⟨rfl, -⟩ := hv
    have hfk := hfz (kk * 4 + 3)
    have HPUT := Bx.mk hput
    have HYX := Bx.mk (show y.n.ex.length ≤ 5 by rw [hy]; show ps.length ≤ 5; omega)
    simp only [Sl.val] at hcell
    rw [← hPN]
    clear hput hfz hy hM hpx hPN
    go_wp2_with fail
    go_ret
    exact ⟨_, l.set kk y, rfl, HPUT.out.tr.tl, HTDN.out.grow HPUT.out.gr HPUT.out.dk, HPUT.out.gr, by rw [List.length_set, HN.out]; exact Nat.le_refl _, set_ex HE.out kk HYX.out⟩
  · have hrd := HCS6.out.tr.own.rd
    rw [HN.out] at hrd
    obtain ⟨u1, hu1, hr1⟩ := hrd.upto (P := Try.prog) (T := 23) encN_ok und_nodes' size_nodes (N - 1) (by have := HN.out; omega)
    rw [← HN.out] at hu1
    have HR1 := Bx.mk hr1
    have wN : IntKind.i64.wrap ((N : Int) - 1) = ((N - 1 : Nat) : Int) := by rw [IntWalk.i64_in _ (by omega)]; omega
    clear hrd hr1
    go_wp2_with fail
    go_ret
    exact ⟨_, l.take (N - 1), rfl, ⟨HR1.out, fun z hz => HCS6.out.tr.tl.at_ z (List.mem_of_mem_take hz)⟩, HTDN.out.grow HCS6.out.gr HCS6.out.dk, HCS6.out.gr, by rw [List.length_take]; omega, fun n hn => by
      obtain ⟨z, hz, rfl⟩ := List.mem_map.1 hn
      exact HE.out _ (List.mem_map.2 ⟨z, List.mem_of_mem_take hz, rfl⟩)⟩
  · go_wp2_with fail
    go_ret
    exact ⟨_, l, rfl, HCS6.out.tr.tl, HTDN.out.grow HCS6.out.gr HCS6.out.dk, HCS6.out.gr, by rw [HN.out]; exact Nat.le_refl _, HE.out⟩
end Go.Proofs.Ytmagjdocondmhaa.Tr
