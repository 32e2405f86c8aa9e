/-
  slices.Clone at three types; copies.Name, copies.Entry. (Written by wip/gen/gen_pbc.py.)
-/
/-
  copies.Name, copies.Entry.
-/
/-
  copies.Entries.
-/
/-
  slices.Grow of nil, slices.Concat.
-/
import Derived.Test.YtpagoinnkknkfaaPbOwn
import Derived.WalkSpells
import Derived.Lib.AppendZerosOnto
namespace Go.Proofs.Ytpagoinnkknkfaa.Pb
open Go Go.RowKit Go.Proofs.Ytpagoinnkknkfaa.Slc
set_option linter.unusedVariables false
set_option linter.unusedSimpArgs false

theorem info_attrs : (Try.prog.info? 70).map (fun i => (i.zero, i.size, i.bytes)) = some (some (.slice none 0 0), 1, 24) := by kernel_rfl
theorem und_rdns : Try.prog.underlying 34 = some (.slice 70) := by kernel_rfl
theorem info_attr : (Try.prog.info? 69).map (fun i => (i.zero, i.size, i.bytes)) = some (some (.agg #[.string ⟨#[]⟩, .int .i64 0, .string ⟨#[]⟩]), 3, 40) := by kernel_rfl
theorem und_attrs : Try.prog.underlying 70 = some (.slice 69) := by kernel_rfl

set_option maxRecDepth 10000 in
set_option maxHeartbeats 1000000 in
theorem cloneR_any (w : World) (v : Value) (l : List Sl) (hv : Rd w encV1 v l) (hl : l.length ≤ 1000000) :
    Calls Try.prog 58 #[v] w fun e w' => ∃ v', e = .returned v' ∧ Own w' w.heap.size 70 1 encV1 v' l ∧ Below w.heap.size w w' := by
  obtain ⟨i0, hi0, hz0, hz1, hz2⟩ := info_parts info_attrs
  have hsrc0 := hv.src encV1_ok
  rcases hv with ⟨rfl, rfl⟩ | ⟨b, o, c, rfl, hlt, hc, hcell⟩
  · have hnil : ∀ w, (Go.binOp .eql 34 (.slice none 0 0) (.slice none 0 0)).run Try.prog w = .ok (.bool true) w := fun w => by kernel_rfl
    go_enter Try.func58, Try.ntmps58
    go_wp2
    go_ret
    exact ⟨_, rfl, Own.nil _ _, Below.refl _ _⟩
  · have hn : ∀ w, (Go.binOp .eql 34 (.slice (some ⟨b, o, none⟩) l.length c) (.slice none 0 0)).run Try.prog w = .ok (.bool false) w := fun w => by
      have := Lib.run_eql_slice_nil (P := Try.prog) w 34 70 (some ⟨b, o, none⟩) l.length c 0 0 und_rdns
      simpa using this
    have hg : (w.alloc (.cells #[] 70)).heap[w.heap.size]? = some (.cells #[] 70 (0, 0)) := heap_alloc_new _ _
    have hsrc := hsrc0.below ((Below.refl _ _).alloc (Nat.le_refl _) (.cells #[] 70))
    have HBA := Bx.mk (show Below w.heap.size w (w.alloc (.cells #[] 70)) from (Below.refl _ _).alloc (Nat.le_refl _) _)
    have hm1 : l.length ≤ maxLen := by unfold maxLen; omega
    have hm2 : l.length * 24 ≤ 140737488355328 := by omega
    have hbz : w.heap.size ≤ (w.alloc (.cells #[] 70)).heap.size := by simp
    clear hcell hsrc0
    go_enter Try.func58, Try.ntmps58
    go_wp2_with (refine wpList_append_fresh rfl _ _ _ rfl w.heap.size 70 i0 _ 1 24 und_rdns hi0 hz0 hz1 hz2 rfl (by decide) w.heap.size rfl hg (Nat.le_refl _) hbz _ l.length (l.flatMap encV1) rfl hsrc hm1 hm2 ?_)
    intro v1 w1 hown hb1 hblk
    have HFIN := Bx.mk (HBA.out.trans (hb1.mono (by simp)))
    clear hg hsrc hbz hb1 hblk
    go_wp2
    go_ret
    exact ⟨_, rfl, hown, HFIN.out⟩

set_option maxRecDepth 10000 in
set_option maxHeartbeats 1000000 in
theorem cloneA_any (w : World) (v : Value) (l : List Attr) (hv : Rd w encA v l) (hl : l.length ≤ 1000000) :
    Calls Try.prog 59 #[v] w fun e w' => ∃ v', e = .returned v' ∧ Own w' w.heap.size 69 3 encA v' l ∧ Below w.heap.size w w' := by
  obtain ⟨i0, hi0, hz0, hz1, hz2⟩ := info_parts info_attr
  have hsrc0 := hv.src encA_ok
  rcases hv with ⟨rfl, rfl⟩ | ⟨b, o, c, rfl, hlt, hc, hcell⟩
  · have hnil : ∀ w, (Go.binOp .eql 70 (.slice none 0 0) (.slice none 0 0)).run Try.prog w = .ok (.bool true) w := fun w => by kernel_rfl
    go_enter Try.func59, Try.ntmps59
    go_wp2
    go_ret
    exact ⟨_, rfl, Own.nil _ _, Below.refl _ _⟩
  · have hn : ∀ w, (Go.binOp .eql 70 (.slice (some ⟨b, o, none⟩) l.length c) (.slice none 0 0)).run Try.prog w = .ok (.bool false) w := fun w => by
      have := Lib.run_eql_slice_nil (P := Try.prog) w 70 69 (some ⟨b, o, none⟩) l.length c 0 0 und_attrs
      simpa using this
    have hg : (w.alloc (.cells #[] 69)).heap[w.heap.size]? = some (.cells #[] 69 (0, 0)) := heap_alloc_new _ _
    have hsrc := hsrc0.below ((Below.refl _ _).alloc (Nat.le_refl _) (.cells #[] 69))
    have HBA := Bx.mk (show Below w.heap.size w (w.alloc (.cells #[] 69)) from (Below.refl _ _).alloc (Nat.le_refl _) _)
    have hm1 : l.length ≤ maxLen := by unfold maxLen; omega
    have hm2 : l.length * 40 ≤ 140737488355328 := by omega
    have hbz : w.heap.size ≤ (w.alloc (.cells #[] 69)).heap.size := by simp
    clear hcell hsrc0
    go_enter Try.func59, Try.ntmps59
    go_wp2_with (refine wpList_append_fresh rfl _ _ _ rfl w.heap.size 69 i0 _ 3 40 und_attrs hi0 hz0 hz1 hz2 rfl (by decide) w.heap.size rfl hg (Nat.le_refl _) hbz _ l.length (l.flatMap encA) rfl hsrc hm1 hm2 ?_)
    intro v1 w1 hown hb1 hblk
    have HFIN := Bx.mk (HBA.out.trans (hb1.mono (by simp)))
    clear hg hsrc hbz hb1 hblk
    go_wp2
    go_ret
    exact ⟨_, rfl, hown, HFIN.out⟩

set_option maxRecDepth 10000 in
set_option maxHeartbeats 1000000 in
theorem cloneE_any (w : World) (v : Value) (l : List Et) (hv : Rd w encE v l) (hl : l.length ≤ 1000000) :
    Calls Try.prog 89 #[v] w fun e w' => ∃ v', e = .returned v' ∧ Own w' w.heap.size 44 5 encE v' l ∧ Below w.heap.size w w' := by
  obtain ⟨i0, hi0, hz0, hz1, hz2⟩ := info_parts info_entry
  have hsrc0 := hv.src encE_ok
  rcases hv with ⟨rfl, rfl⟩ | ⟨b, o, c, rfl, hlt, hc, hcell⟩
  · have hnil : ∀ w, (Go.binOp .eql 40 (.slice none 0 0) (.slice none 0 0)).run Try.prog w = .ok (.bool true) w := fun w => by kernel_rfl
    go_enter Try.func89, Try.ntmps89
    go_wp2
    go_ret
    exact ⟨_, rfl, Own.nil _ _, Below.refl _ _⟩
  · have hn : ∀ w, (Go.binOp .eql 40 (.slice (some ⟨b, o, none⟩) l.length c) (.slice none 0 0)).run Try.prog w = .ok (.bool false) w := fun w => by
      have := Lib.run_eql_slice_nil (P := Try.prog) w 40 44 (some ⟨b, o, none⟩) l.length c 0 0 und_entries
      simpa using this
    have hg : (w.alloc (.cells #[] 44)).heap[w.heap.size]? = some (.cells #[] 44 (0, 0)) := heap_alloc_new _ _
    have hsrc := hsrc0.below ((Below.refl _ _).alloc (Nat.le_refl _) (.cells #[] 44))
    have HBA := Bx.mk (show Below w.heap.size w (w.alloc (.cells #[] 44)) from (Below.refl _ _).alloc (Nat.le_refl _) _)
    have hm1 : l.length ≤ maxLen := by unfold maxLen; omega
    have hm2 : l.length * 56 ≤ 140737488355328 := by omega
    have hbz : w.heap.size ≤ (w.alloc (.cells #[] 44)).heap.size := by simp
    clear hcell hsrc0
    go_enter Try.func89, Try.ntmps89
    go_wp2_with (refine wpList_append_fresh rfl _ _ _ rfl w.heap.size 44 i0 _ 5 56 und_entries hi0 hz0 hz1 hz2 rfl (by decide) w.heap.size rfl hg (Nat.le_refl _) hbz _ l.length (l.flatMap encE) rfl hsrc hm1 hm2 ?_)
    intro v1 w1 hown hb1 hblk
    have HFIN := Bx.mk (HBA.out.trans (hb1.mono (by simp)))
    clear hg hsrc hbz hb1 hblk
    go_wp2
    go_ret
    exact ⟨_, rfl, hown, HFIN.out⟩
end Go.Proofs.Ytpagoinnkknkfaa.Pb

namespace Go.Proofs.Ytpagoinnkknkfaa.Pb
open Go Go.RowKit Go.Proofs.Ytpagoinnkknkfaa.Slc
set_option linter.unusedVariables false
set_option linter.unusedSimpArgs false

/-- a copy under way: us are the slices of attributes, the first k copied -/
structure Cp (wr : World) (p : Nat) (v1 : Value) (n : Nm) (vs us : List Sl) (k : Nat) : Prop where
  own : Own wr (p + 2) 70 1 encV1 v1 us
  len : us.length = n.length
  done : ∀ j (hj : j < k) (h : j < n.length), RdIn wr (fun b => p + 2 ≤ b ∧ v1.ownBlock ≠ some b) encA (us[j]'(by omega)).val [n[j]]
  todo : ∀ j (hj : k ≤ j) (h : j < n.length), us[j]? = vs[j]?

/-- the facts of the round's region -/
def CpF (W : World) (p : Nat) (v1 : Value) (k : Nat) (U : Value) (l : List Attr) : Nat → Value → World → Prop
  | 0, x, _ => x = .pointer (some ⟨p, 0, none⟩)
  | 1, x, _ => x = v1
  | 2, x, _ => x = .int .i64 k
  | 3, x, _ => x = U
  | 4, x, w => Own w W.heap.size 69 3 encA x l
  | _, _, _ => True
theorem CpF.stable (W : World) (p : Nat) (v1 : Value) (k : Nat) (U : Value) (l : List Attr) (i : Nat) (x : Value) (w w' : World) (h : CpF W p v1 k U l i x w) (hb : Below w.heap.size w w') : CpF W p v1 k U l i x w' := by
  match i with
  | 0 | 1 | 2 | 3 => exact h
  | 4 => exact Own.below (t := 69) h hb
  | _ + 5 => exact trivial

set_option maxRecDepth 10000 in
set_option maxHeartbeats 4000000 in
theorem copyN_any (w : World) (v : Value) (n : Nm) (hv : NameAt w v n) (hn : Nm.Ok n) :
    Calls Try.prog 42 #[.agg #[v]] w fun e w' => ∃ u : Sl, e = .returned (.agg #[u.val]) ∧ NameIn w' (fun k => w.heap.size ≤ k) u.val n ∧ Below w.heap.size w w' := by
  obtain ⟨vs, hr, hl, hx⟩ := hv
  obtain ⟨ad, c, rfl, -⟩ := hr.form
  have hL : vs.length ≤ 1000 := by rw [hl]; exact hn.1
  obtain ⟨p, hp⟩ : ∃ p, p = w.heap.size := ⟨_, rfl⟩
  obtain ⟨W0, hW0⟩ : ∃ W0, W0 = (w.alloc (.cells #[.slice ad vs.length c] 36)).alloc (.cells #[.slice none 0 0] 36) := ⟨_, rfl⟩
  have hBW0 : Below w.heap.size w W0 := by rw [hW0]; exact ((Below.refl _ _).alloc (Nat.le_refl _) _).alloc (by simp) _
  have hZ : W0.heap.size = p + 2 := by rw [hW0, hp]; simp
  have b0 : W0.heap[p]? = some (.cells #[.slice ad vs.length c] 36 (0, 0)) := by
    rw [hW0, hp, heap_alloc_old _ _ (by simp)]; exact heap_alloc_new _ _
  have b1 : W0.heap[p + 1]? = some (.cells #[.slice none 0 0] 36 (0, 0)) := by
    rw [hW0, hp]
    have := heap_alloc_new (w.alloc (.cells #[.slice ad vs.length c] 36)) (.cells #[.slice none 0 0] 36)
    rwa [World.size_alloc] at this
  have hclone := cloneR_any W0 _ vs (hr.below hBW0) (by omega)
  have HL := Bx.mk hl
  have HX := Bx.mk (show ∀ W, Below w.heap.size w W → ∀ i (h : i < n.length), Rd W encA (vs[i]'(by rw [HL.out]; exact h)).val [n[i]] from fun W hW i h => (hx i h).below hW)
  have HBW0 := Bx.mk hBW0
  have HZ := Bx.mk hZ
  have hc0 := cell_of_row _ _ 0 _ _ _ b0
  simp only [List.getElem?_toArray, List.getElem?_cons_zero] at hc0
  have fr0 : ∀ i, W0.frozen? ⟨p, i, none⟩ = false := fun i => by simp [World.frozen?, b0]
  have HP := Bx.mk hp
  have B0 := Bx.mk b0
  have B1 := Bx.mk b1
  clear hr hx hn b0 b1 hBW0 hl hZ
  go_enter Try.func42, Try.ntmps42
  go_wp2_with fail
  rw [← hW0, ← hp]
  clear hW0 hp
  go_wp2_with fail
  go_at_call 58
  refine hclone.mono ?_
  rintro e w1 ⟨v1, rfl, hown1, hb1⟩
  rw [HZ.out] at hown1 hb1
  have hfr1 : ∀ i, w1.frozen? ⟨p, i, none⟩ = false := fun i => (hb1.frozen (p := ⟨p, i, none⟩) (by simp)).trans (fr0 i)
  have hcl1 : w1.cell? ⟨p, 0, none⟩ = some (.slice ad vs.length c) := (hb1.cell (p := ⟨p, 0, none⟩) (by simp)).trans hc0
  obtain ⟨a1, c1, hv1, -⟩ := hown1.rd.form
  have HOWN1 := Bx.mk hown1
  have HB1 := Bx.mk hb1
  subst hv1
  have hpz : p < w1.heap.size := World.block_lt_of_cell? w1 _ hcl1
  have hvl : ∃ L, L = vs.length := ⟨_, rfl⟩
  have HW1 := Bx.mk (show Below p w (w1.setCell ⟨p, 0, none⟩ (.slice a1 vs.length c1)) from by
    have h0 : Below p w w1 := by
      have := HBW0.out.trans (hb1.mono (by rw [HP.out]; omega))
      rwa [← HP.out] at this
    exact h0.setCell (p := ⟨p, 0, none⟩) (Nat.le_refl _) _)
  have HB1' := Bx.mk (show (w1.setCell ⟨p, 0, none⟩ (.slice a1 vs.length c1)).heap[p + 1]? = some (.cells #[.slice none 0 0] 36 (0, 0)) by
    rw [heap_setCell_other _ _ _ _ (by simp), hb1.block _ (by omega), B1.out])
  have HC1 := Bx.mk (show (w1.setCell ⟨p, 0, none⟩ (.slice a1 vs.length c1)).cell? ⟨p, 0, none⟩ = some (.slice a1 vs.length c1) by
    rw [World.cell?_setCell_same' _ _ _ (by rw [hcl1]; rfl)])
  have HCP := Bx.mk (show Cp (w1.setCell ⟨p, 0, none⟩ (.slice a1 vs.length c1)) p (.slice a1 vs.length c1) n vs vs 0 from
    ⟨HOWN1.out.keep fun k hk _ => heap_setCell_other _ _ _ _ (by have := (HOWN1.out.lt k hk).1; simp; omega), HL.out, fun j hj => by omega, fun j _ _ => rfl⟩)
  have HSZ := Bx.mk (show p + 2 ≤ (w1.setCell ⟨p, 0, none⟩ (.slice a1 vs.length c1)).heap.size by have := hb1.size; have := HZ.out; simp; omega)
  clear hown1 hb1 hclone fr0 hc0 hvl
  go_wp2
  go_loopw [12] (fun i wr => ∃ (k : Nat) (us : List Sl), k ≤ vs.length ∧ i = .int .i64 k ∧ Cp wr p (.slice a1 vs.length c1) n vs us k ∧ wr.cell? ⟨p, 0, none⟩ = some (.slice a1 vs.length c1) ∧ Bx (wr.heap[p + 1]? = some (.cells #[.slice none 0 0] 36 (0, 0)) ∧ p + 2 ≤ wr.heap.size ∧ Below p w wr)) (fun i _ => vs.length - (intOf i).toNat)
  case atStart => exact ⟨0, vs, by omega, rfl, HCP.out, HC1.out, ⟨HB1'.out, HSZ.out, HW1.out⟩⟩
  case round =>
    obtain ⟨k, us, hk, rfl, hcp, hc1, hq⟩ := hrel
    have HCPk := Bx.mk hcp
    have hpr : p < wr.heap.size := World.block_lt_of_cell? wr _ hc1
    by_cases hlt : k < vs.length
    · have hul : us.length = vs.length := by rw [hcp.len, HL.out]
      obtain ⟨g, cap, hgv, hgB, hgl, hgf, -, -⟩ := hcp.own.set1 encV1_ok k 0 (by omega) (by omega) (.slice none 0 0) ⟨none, 0, 0⟩ rfl
      simp only [Value.slice.injEq] at hgv
      obtain ⟨rfl, hgn, rfl⟩ := hgv
      have hcell := Own.cell encV1_ok hcp.own k (by omega) 0 (by omega) _ rfl
      rw [Nat.mul_one, Nat.add_zero] at hcell
      have htodo := hcp.todo k (Nat.le_refl _) (by have := HL.out; omega)
      rw [List.getElem?_eq_getElem (by omega), List.getElem?_eq_getElem hlt] at htodo
      have huk : us[k]'(by omega) = vs[k] := Option.some.inj htodo
      rw [huk] at hcell
      have hkn : k < n.length := by have := HL.out; omega
      have HXk := Bx.mk (show ∀ W, Below w.heap.size w W → Rd W encA (vs[k]).val [n[k]] from fun W hW => HX.out W hW k hkn)
      have HBw := Bx.mk (show ∀ W, Below wr.heap.size wr W → Below w.heap.size w W from fun W hW => by rw [← HP.out]; exact hq.out.2.2.trans (hW.mono (by omega)))
      have HCALL := Bx.mk (show ∀ W, Below wr.heap.size wr W → Calls Try.prog 59 #[(vs[k]).val] W fun e w' => ∃ v', e = .returned v' ∧ Own w' W.heap.size 69 3 encA v' [n[k]] ∧ Below W.heap.size W w' from fun W hW => cloneA_any W _ [n[k]] (HXk.out W (HBw.out W hW)) (by simp))
      have hk0 : (k : Int) < vs.length := by omega
      obtain ⟨ua, un, uc, hu⟩ : ∃ a n c, (vs[k]).val = .slice a n c := ⟨_, _, _, rfl⟩
      rw [hu] at hcell HCALL
      clear hu hcp huk htodo hgn hul HXk
      go_wp2_with fail
      refine wp_region_facts 5 (CpF wr p (.slice (some ⟨g, 0, none⟩) vs.length c1) k (.slice ua un uc) [n[k]]) (by kernel_rfl) (by kernel_rfl) (by rfl) (CpF.stable _ _ _ _ _ _) ?_ ?_
      · intro i o hi ho x w2 hb hd
        have hc : i = 0 ∨ i = 1 ∨ i = 2 ∨ i = 3 ∨ i = 4 := by omega
        simp only [List.take_succ_cons, List.take_zero, putFrom]
        have hc2 := (hb.cell (p := ⟨p, 0, none⟩) hpr).trans hc1
        have hcall := HCALL.out w2 hb
        clear hcell hc1
        rcases hc with rfl | rfl | rfl | rfl | rfl
        all_goals
          simp only [List.getElem?_cons_succ, List.getElem?_cons_zero, Option.some.injEq] at ho
          subst ho
          simp [Needs, Region.binds, CpF] at hd
          try obtain ⟨hd1, hd⟩ := hd
          try obtain ⟨hd2, hd⟩ := hd
        all_goals go_wp2_with fail
        all_goals first
          | (exact ⟨rfl, rfl, rfl, Below.refl _ _⟩)
          | (go_at_call 59; (with_reducible refine hcall.mono ?_); rintro e w3 ⟨v', rfl, ho3, hb3⟩; go_wp2_with fail; exact ⟨rfl, rfl, Own.mono (t := 69) ho3 hb.size, hb3⟩)
      · intro x w2 hb hf
        have f0 := hf 0 (by omega)
        have f1 := hf 1 (by omega)
        have f2 := hf 2 (by omega)
        have f3 := hf 3 (by omega)
        have f4 := hf 4 (by omega)
        simp only [CpF] at f0 f1 f2 f3 f4
        clear hf
        simp only [List.take_succ_cons, List.take_zero, List.drop_succ_cons, List.drop_zero, putFrom, Nat.zero_add, Nat.reduceAdd, f0, f1, f2, f3]
        clear f0 f1 f2 f3
        obtain ⟨xa, xc, hxf, -⟩ := f4.rd.form
        have HNEW := Bx.mk f4
        rw [hxf] at HNEW ⊢
        clear f4 hxf x
        have HCP2 := Bx.mk (show Cp (w2.setCell ⟨g, k, none⟩ (.slice xa [n[k]].length xc)) p (.slice (some ⟨g, 0, none⟩) vs.length c1) n vs (us.set k ⟨xa, [n[k]].length, xc⟩) (k + 1) from by
          obtain ⟨g', cap', hgv', -, -, -, hst, hgr⟩ := (HCPk.out.own.below hb).set1 encV1_ok k 0 (by rw [HCPk.out.len]; exact hkn) (by omega) (.slice xa [n[k]].length xc) ⟨xa, [n[k]].length, xc⟩ rfl
          simp only [Value.slice.injEq, Option.some.injEq, Addr.mk.injEq] at hgv'
          obtain ⟨⟨hgg, -, -⟩, -, -⟩ := hgv'
          subst hgg
          rw [Nat.mul_one, Nat.add_zero] at hst hgr
          refine ⟨hst, by rw [List.length_set]; exact HCPk.out.len, fun j hj h => ?_, fun j hj h => ?_⟩
          · by_cases e : j = k
            · subst e
              rw [List.getElem_set_self]
              refine ⟨HNEW.out.rd.keep (by simp) fun i hi _ => heap_setCell_other _ _ _ _ ?_, fun i hi => ?_⟩
              · have := (HNEW.out.lt i hi).1; simp; omega
              · have := (HNEW.out.lt i hi).1
                have h1 := hq.out.2.1
                refine ⟨by omega, fun e => ?_⟩
                simp only [Value.ownBlock, Option.some.injEq] at e
                omega
            · rw [List.getElem_set_ne (by omega)]
              refine ((HCPk.out.done j (by omega) h).keep hb.size fun i _ hi => hb.block i hi).keep (by simp) fun i hi _ => heap_setCell_other _ _ _ _ ?_
              intro e; exact hi.2 (congrArg some e.symm)
          · rw [List.getElem?_set_ne (by omega)]; exact HCPk.out.todo j (by omega) h)
        have HC2 := Bx.mk (show (w2.setCell ⟨g, k, none⟩ (.slice xa [n[k]].length xc)).cell? ⟨p, 0, none⟩ = some (.slice (some ⟨g, 0, none⟩) vs.length c1) from by
          have : (w2.setCell ⟨g, k, none⟩ (.slice xa [n[k]].length xc)).heap[p]? = w2.heap[p]? := heap_setCell_other _ _ _ _ (by simp; omega)
          unfold World.cell?
          rw [this]
          exact (hb.cell (p := ⟨p, 0, none⟩) hpr).trans hc1)
        have HQ2 := Bx.mk (show (w2.setCell ⟨g, k, none⟩ (.slice xa [n[k]].length xc)).heap[p + 1]? = some (.cells #[.slice none 0 0] 36 (0, 0)) ∧ p + 2 ≤ (w2.setCell ⟨g, k, none⟩ (.slice xa [n[k]].length xc)).heap.size ∧ Below p w (w2.setCell ⟨g, k, none⟩ (.slice xa [n[k]].length xc)) from by
          have h1 := hq.out.2.1
          have h2 := hb.size
          refine ⟨?_, by simp; omega, ?_⟩
          · rw [heap_setCell_other _ _ _ _ (by simp; omega), hb.block _ (by omega)]; exact hq.out.1
          · exact (hq.out.2.2.trans (hb.mono (by omega))).setCell (p := ⟨g, k, none⟩) (by simp; omega) _)
        have hgc : (w2.cell? ⟨g, k, none⟩) = some (.slice ua un uc) := (hb.cell (p := ⟨g, k, none⟩) hgl).trans hcell
        have hgfr : w2.frozen? ⟨g, k, none⟩ = false := (hb.frozen (p := ⟨g, k, none⟩) hgl).trans (hgf k)
        clear hcell hc1 hgf hb hgl hgB
        go_wp2
        go_roundw
        case rel => exact ⟨k + 1, us.set k ⟨xa, [n[k]].length, xc⟩, by omega, by go_num, HCP2.out, HC2.out, HQ2⟩
        case measure => simp [intOf]; omega
    · obtain rfl : k = vs.length := by omega
      have bq := hq.out.1
      have m0 := cell_of_row _ _ 0 _ _ _ bq
      simp only [List.getElem?_toArray, List.getElem?_cons_zero] at m0
      have fr : ∀ i, wr.frozen? ⟨p + 1, i, none⟩ = false := fun i => by simp [World.frozen?, bq]
      have HFIN := Bx.mk (show Below w.heap.size w (wr.setCell ⟨p + 1, 0, none⟩ (.slice a1 vs.length c1)) from by
        rw [← HP.out]
        exact hq.out.2.2.setCell (p := ⟨p + 1, 0, none⟩) (by simp) _)
      have HNM := Bx.mk (show NameIn (wr.setCell ⟨p + 1, 0, none⟩ (.slice a1 vs.length c1)) (fun k => w.heap.size ≤ k) (.slice a1 vs.length c1) n from by
        have hkeep : ∀ k, p + 2 ≤ k → (wr.setCell ⟨p + 1, 0, none⟩ (.slice a1 vs.length c1)).heap[k]? = wr.heap[k]? := fun k hk => heap_setCell_other _ _ _ _ (by simp; omega)
        refine ⟨us, ⟨hcp.own.rd.keep (by simp) fun k hk _ => hkeep k (hcp.own.lt k hk).1, fun k hk => by have := (hcp.own.lt k hk).1; have := HP.out; omega⟩, hcp.len, fun i hi => ?_⟩
        have hd := hcp.done i (by have := HL.out; omega) hi
        exact (hd.keep (by simp) fun k hk _ => hkeep k hk.1).mono fun k _ hk => by have := hk.1; have := HP.out; omega)
      clear bq hq hcp
      go_wp2
      refine bodyPost_ret (v := .agg #[.slice a1 vs.length c1]) (by simp [results, Try.results42, go_sem, m0, fr]) rfl ⟨⟨a1, vs.length, c1⟩, rfl, HNM.out, HFIN.out⟩

set_option maxRecDepth 10000 in
set_option maxHeartbeats 2000000 in
theorem copyE_any (w : World) (x : Et) (hx : EtAt w x) :
    Calls Try.prog 46 #[entV x] w fun e w' => ∃ u : Sl, e = .returned (entV ⟨x.e, u⟩) ∧ NameIn w' (fun k => w.heap.size ≤ k) u.val x.e.iss ∧ Below w.heap.size w w' := by
  obtain ⟨p, hp⟩ : ∃ p, p = w.heap.size := ⟨_, rfl⟩
  obtain ⟨W0, hW0⟩ : ∃ W0, W0 = (w.alloc (encBox x)).alloc (.cells #[.int .i64 0, .int .i64 0, .int .i64 0, .int .i64 0, .slice none 0 0] 44) := ⟨_, rfl⟩
  have hBW0 : Below w.heap.size w W0 := by rw [hW0]; exact ((Below.refl _ _).alloc (Nat.le_refl _) _).alloc (by simp) _
  have hZ : W0.heap.size = p + 2 := by rw [hW0, hp]; simp
  have b0 : W0.heap[p]? = some (encBox x) := by
    rw [hW0, hp, heap_alloc_old _ _ (by simp)]; exact heap_alloc_new _ _
  have b1 : W0.heap[p + 1]? = some (.cells #[.int .i64 0, .int .i64 0, .int .i64 0, .int .i64 0, .slice none 0 0] 44 (0, 0)) := by
    rw [hW0, hp]
    have := heap_alloc_new (w.alloc (encBox x)) (.cells #[.int .i64 0, .int .i64 0, .int .i64 0, .int .i64 0, .slice none 0 0] 44)
    rwa [World.size_alloc] at this
  have hcall := copyN_any W0 x.u.val x.e.iss (hx.1.below hBW0) hx.2
  have HBW0 := Bx.mk hBW0
  have HZ := Bx.mk hZ
  have HP := Bx.mk hp
  unfold encBox at b0 hW0
  have HB0 := Bx.mk b0
  have HB1 := Bx.mk b1
  have q0 := cell_of_row _ _ 0 _ _ _ b0
  have q1 := cell_of_row _ _ 1 _ _ _ b0
  have q2 := cell_of_row _ _ 2 _ _ _ b0
  have q3 := cell_of_row _ _ 3 _ _ _ b0
  have q4 := cell_of_row _ _ 4 _ _ _ b0
  simp only [List.getElem?_toArray, List.getElem?_cons_zero, List.getElem?_cons_succ] at q0 q1 q2 q3 q4
  obtain ⟨ua, un, uc, hu⟩ : ∃ a n c, x.u.val = .slice a n c := ⟨_, _, _, rfl⟩
  have hev : ∀ u : Sl, entV ⟨x.e, u⟩ = .agg #[.int .i64 x.e.s, .int .i64 x.e.t, .int .i64 x.e.r, .int .i64 x.e.v, u.val] := fun u => rfl
  have HEV := Bx.mk hev
  have hxv : entV x = .agg #[.int .i64 x.e.s, .int .i64 x.e.t, .int .i64 x.e.r, .int .i64 x.e.v, x.u.val] := rfl
  rw [hxv, hu]
  rw [hu] at hcall q4 hW0 HB0
  clear b0 b1 hBW0 hZ hev hxv hu hx
  generalize x.e.s = S at *
  generalize x.e.t = T at *
  generalize x.e.r = R at *
  generalize x.e.v = V at *
  go_enter Try.func46, Try.ntmps46
  go_wp2_with fail
  rw [← hW0, ← hp]
  clear hW0 hp
  go_wp2_with fail
  go_at_call 42
  refine hcall.mono ?_
  rintro e w1 ⟨u, rfl, hnm, hb1⟩
  rw [HZ.out] at hnm hb1
  have hz1 := hb1.size
  have B0 : w1.heap[p]? = _ := (hb1.block p (by omega)).trans HB0.out
  have B1 : w1.heap[p + 1]? = _ := (hb1.block (p + 1) (by omega)).trans HB1.out
  have c0 := cell_of_row _ _ 0 _ _ _ B0
  have c1 := cell_of_row _ _ 1 _ _ _ B0
  have c2 := cell_of_row _ _ 2 _ _ _ B0
  have c3 := cell_of_row _ _ 3 _ _ _ B0
  have c4 := cell_of_row _ _ 4 _ _ _ B0
  have d0 := cell_of_row _ _ 0 _ _ _ B1
  have d1 := cell_of_row _ _ 1 _ _ _ B1
  have d2 := cell_of_row _ _ 2 _ _ _ B1
  have d3 := cell_of_row _ _ 3 _ _ _ B1
  have d4 := cell_of_row _ _ 4 _ _ _ B1
  simp only [List.getElem?_toArray, List.getElem?_cons_zero, List.getElem?_cons_succ] at c0 c1 c2 c3 c4 d0 d1 d2 d3 d4
  have fr0 : ∀ i, w1.frozen? ⟨p, i, none⟩ = false := fun i => by simp [World.frozen?, B0]
  have fr1 : ∀ i, w1.frozen? ⟨p + 1, i, none⟩ = false := fun i => by simp [World.frozen?, B1]
  obtain ⟨va, vn, vc⟩ := u
  simp only [Sl.val] at hnm HEV ⊢
  have HNM := Bx.mk hnm
  have HBW1 := Bx.mk (HBW0.out.trans (hb1.mono (by have := HP.out; omega)))
  have HLE := Bx.mk (show w.heap.size ≤ p ∧ w.heap.size ≤ p + 1 by have := HP.out; omega)
  clear hnm hb1 B0 B1 hcall q0 q1 q2 q3 q4 hz1
  go_wp2
  refine bodyPost_ret (v := .agg #[.int .i64 S, .int .i64 T, .int .i64 R, .int .i64 V, .slice va vn vc]) (by simp [results, Try.results46, go_sem, c0, c1, c2, c3, c4, d0, d1, d2, d3, d4, fr0, fr1]) rfl ⟨⟨va, vn, vc⟩, by rw [HEV.out], ?_, ?_⟩
  · refine (HNM.out.keep (by simp) fun k hk _ => ?_).mono fun k _ hk => Nat.le_trans HLE.out.1 (by omega)
    repeat rw [heap_setCell_other _ _ _ _ (by simp; omega)]
  · exact (((((HBW1.out.setCell (p := ⟨p, 4, none⟩) HLE.out.1 _).setCell (p := ⟨p + 1, 0, none⟩) HLE.out.2 _).setCell (p := ⟨p + 1, 1, none⟩) HLE.out.2 _).setCell (p := ⟨p + 1, 2, none⟩) HLE.out.2 _).setCell (p := ⟨p + 1, 3, none⟩) HLE.out.2 _).setCell (p := ⟨p + 1, 4, none⟩) HLE.out.2 _
end Go.Proofs.Ytpagoinnkknkfaa.Pb

namespace Go.Proofs.Ytpagoinnkknkfaa.Pb
open Go Go.RowKit Go.Proofs.Ytpagoinnkknkfaa.Slc
set_option linter.unusedVariables false
set_option linter.unusedSimpArgs false

/-- an owned entry's five cells are stored to -/
theorem EO.set5 {w : World} {B : Nat} {v : Value} {l : List Et} (h : EO w B v l) (k : Nat) (hk : k < l.length) (x : Et) (hx : EtIn w (fun b => v.ownBlock ≠ some b) x) :
    ∃ g cap, v = .slice (some ⟨g, 0, none⟩) l.length cap ∧ B ≤ g ∧ g < w.heap.size ∧ (∀ i, w.frozen? ⟨g, i, none⟩ = false) ∧
      EO (((((w.setCell ⟨g, k * 5, none⟩ (.int .i64 x.e.s)).setCell ⟨g, k * 5 + 1, none⟩ (.int .i64 x.e.t)).setCell ⟨g, k * 5 + 2, none⟩ (.int .i64 x.e.r)).setCell ⟨g, k * 5 + 3, none⟩ (.int .i64 x.e.v)).setCell ⟨g, k * 5 + 4, none⟩ x.u.val) B v (l.set k x) := by
  have h0 := h.own
  obtain ⟨g, cap, rfl, hB, hg, hf, h1, -⟩ := h0.set1 encE_ok k 0 hk (by omega) (.int .i64 x.e.s) ⟨⟨x.e.s, (l[k]).e.t, (l[k]).e.r, (l[k]).e.v, (l[k]).e.iss⟩, (l[k]).u⟩ rfl
  obtain ⟨g1, c1, hv1, -, -, -, h2, -⟩ := h1.set1 encE_ok k 1 (by simpa using hk) (by omega) (.int .i64 x.e.t) ⟨⟨x.e.s, x.e.t, (l[k]).e.r, (l[k]).e.v, (l[k]).e.iss⟩, (l[k]).u⟩ (by rw [List.getElem_set_self]; rfl)
  simp only [List.length_set, Value.slice.injEq, Option.some.injEq, Addr.mk.injEq] at hv1
  obtain rfl := hv1.1.1
  rw [List.set_set] at h2
  obtain ⟨g2, c2, hv2, -, -, -, h3, -⟩ := h2.set1 encE_ok k 2 (by simpa using hk) (by omega) (.int .i64 x.e.r) ⟨⟨x.e.s, x.e.t, x.e.r, (l[k]).e.v, (l[k]).e.iss⟩, (l[k]).u⟩ (by rw [List.getElem_set_self]; rfl)
  simp only [List.length_set, Value.slice.injEq, Option.some.injEq, Addr.mk.injEq] at hv2
  obtain rfl := hv2.1.1
  rw [List.set_set] at h3
  obtain ⟨g3, c3, hv3, -, -, -, h4, -⟩ := h3.set1 encE_ok k 3 (by simpa using hk) (by omega) (.int .i64 x.e.v) ⟨⟨x.e.s, x.e.t, x.e.r, x.e.v, (l[k]).e.iss⟩, (l[k]).u⟩ (by rw [List.getElem_set_self]; rfl)
  simp only [List.length_set, Value.slice.injEq, Option.some.injEq, Addr.mk.injEq] at hv3
  obtain rfl := hv3.1.1
  rw [List.set_set] at h4
  obtain ⟨g4, c4, hv4, -, -, -, h5, -⟩ := h4.set1 encE_ok k 4 (by simpa using hk) (by omega) x.u.val x (by rw [List.getElem_set_self]; rfl)
  simp only [List.length_set, Value.slice.injEq, Option.some.injEq, Addr.mk.injEq] at hv4
  obtain rfl := hv4.1.1
  rw [List.set_set] at h5
  refine ⟨g, cap, rfl, hB, hg, hf, h5, fun y hy => ?_⟩
  have hy' : EtIn w (fun b => (Value.slice (some ⟨g, 0, none⟩) l.length cap).ownBlock ≠ some b) y := by
    rcases List.mem_or_eq_of_mem_set hy with q | rfl
    · exact h.nm y q
    · exact hx
  refine hy'.keep (by simp) fun b hb _ => ?_
  have hne : b ≠ g := fun e => hb (by rw [e]; rfl)
  iterate 5 rw [heap_setCell_other _ _ _ _ (by exact hne)]
theorem ens_set (l : List Et) (k : Nat) (hk : k < l.length) (x : Et) (h : x.e = (l[k]).e) : ens (l.set k x) = ens l := by
  apply List.ext_getElem?
  intro i
  simp only [ens, List.getElem?_map, List.getElem?_set]
  by_cases e : k = i
  · subst e; simp [hk, h]
  · simp [e]

set_option maxRecDepth 10000 in
set_option maxHeartbeats 4000000 in
theorem each_any (w : World) (v : Value) (l : List Et) (hl : EL w v l) (hn : l.length ≤ 1000000) :
    Calls Try.prog 72 #[v, .func (.func 46) #[] #[]] w fun e w' => ∃ v' l', e = .returned v' ∧ EO w' w.heap.size v' l' ∧ ens l' = ens l ∧ Below w.heap.size w w' := by
  have hclone := cloneE_any w v l hl.rd hn
  have HAT := Bx.mk hl.at_
  clear hl
  go_enter Try.func72, Try.ntmps72
  go_wp2_with fail
  go_at_call 89
  refine hclone.mono ?_
  rintro e w1 ⟨v1, rfl, hown1, hb1⟩
  obtain ⟨a1, c1, rfl, -⟩ := hown1.rd.form
  have HEO := Bx.mk (show EO w1 w.heap.size (.slice a1 l.length c1) l from ⟨hown1, fun x hx => by
    refine EtIn.mono (S := fun k => k < w.heap.size) ((EtIn.of (HAT.out x hx)).keep hb1.size fun k hk _ => hb1.block k hk) fun k _ hk e => ?_
    have := (hown1.lt k e).1; omega⟩)
  have HB1 := Bx.mk hb1
  clear hown1 hb1 hclone
  go_wp2
  go_loopw [11] (fun i wr => ∃ (k : Nat) (xs : List Et), k ≤ l.length ∧ i = .int .i64 k ∧ Bx (xs.length = l.length ∧ ens xs = ens l ∧ EO wr w.heap.size (.slice a1 l.length c1) xs ∧ Below w.heap.size w wr)) (fun i _ => l.length - (intOf i).toNat)
  case atStart => exact ⟨0, l, by omega, rfl, ⟨rfl, rfl, HEO.out, HB1.out⟩⟩
  case round =>
    obtain ⟨k, xs, hk, rfl, hq⟩ := hrel
    by_cases hlt : k < l.length
    · obtain ⟨hxl, hen, heo, hbw⟩ := hq.out
      have hkx : k < xs.length := by omega
      obtain ⟨g, cap, hgv, hgB, hgl, hgf, -⟩ := heo.set5 k hkx xs[k] (heo.nm _ (List.getElem_mem hkx))
      simp only [Value.slice.injEq] at hgv
      obtain ⟨rfl, -, rfl⟩ := hgv
      have k0 := Own.cell encE_ok heo.own k hkx 0 (by omega) _ rfl
      have k1 := Own.cell encE_ok heo.own k hkx 1 (by omega) _ rfl
      have k2 := Own.cell encE_ok heo.own k hkx 2 (by omega) _ rfl
      have k3 := Own.cell encE_ok heo.own k hkx 3 (by omega) _ rfl
      have k4 := Own.cell encE_ok heo.own k hkx 4 (by omega) _ rfl
      rw [Nat.add_zero] at k0
      obtain ⟨z, hz⟩ : ∃ z, z = xs[k] := ⟨_, rfl⟩
      rw [← hz] at k0 k1 k2 k3 k4
      have hBA := Bx.mk (show Below wr.heap.size wr (wr.alloc (encBox z)) from (Below.refl _ _).alloc (Nat.le_refl _) _)
      have hzat : EtAt wr z := by rw [hz]; exact (heo.nm _ (List.getElem_mem hkx)).at_
      have hcall := copyE_any (wr.alloc (encBox z)) z (hzat.below hBA.out)
      have HEO2 := Bx.mk heo
      have HQ := Bx.mk hq.out
      have HZ := Bx.mk hz
      have HZE := Bx.mk (show ∀ u : Sl, entV ⟨z.e, u⟩ = .agg #[.int .i64 z.e.s, .int .i64 z.e.t, .int .i64 z.e.r, .int .i64 z.e.v, u.val] from fun u => rfl)
      have hzv : entV z = .agg #[.int .i64 z.e.s, .int .i64 z.e.t, .int .i64 z.e.r, .int .i64 z.e.v, z.u.val] := rfl
      rw [hzv] at hcall
      unfold encBox at hcall hBA
      have hU1 : ∃ a n c, z.u.val = .slice a n c := ⟨_, _, _, rfl⟩
      have HSZ := Bx.mk (show w.heap.size ≤ wr.heap.size from hbw.size)
      clear hxl hen heo hbw hq hz hzv hzat
      generalize z.u.val = U1 at *
      obtain ⟨ua, un, uc, rfl⟩ := hU1
      have HSV := Bx.mk (⟨rfl, rfl, rfl, rfl⟩ : z.e.s = z.e.s ∧ z.e.t = z.e.t ∧ z.e.r = z.e.r ∧ z.e.v = z.e.v)
      generalize hS : z.e.s = S at k0 k1 k2 k3 k4 hcall hBA HZE
      generalize hT : z.e.t = T at k0 k1 k2 k3 k4 hcall hBA HZE
      generalize hR : z.e.r = R at k0 k1 k2 k3 k4 hcall hBA HZE
      generalize hV : z.e.v = V at k0 k1 k2 k3 k4 hcall hBA HZE
      have HSS := Bx.mk (show z.e.s = S ∧ z.e.t = T ∧ z.e.r = R ∧ z.e.v = V from ⟨hS, hT, hR, hV⟩)
      clear hS hT hR hV HSV
      go_wp2_with fail
      go_at_call 46
      refine hcall.mono ?_
      rintro e w2 ⟨u, rfl, hnm, hb2⟩
      rw [HZE.out]
      have hb2' : Below wr.heap.size wr w2 := hBA.out.trans (hb2.mono (by simp))
      have hsz2 : wr.heap.size < w2.heap.size := by have := hb2.size; simp at this; omega
      have HEO3 := Bx.mk (show ∃ g' cap', Value.slice (some ⟨g, 0, none⟩) l.length c1 = .slice (some ⟨g', 0, none⟩) xs.length cap' ∧ _ ∧ _ ∧ _ ∧ _ from
        (HEO2.out.below hb2').set5 k hkx ⟨z.e, u⟩ ⟨hnm.mono fun b _ hb e => by
          simp only [Value.ownBlock, Option.some.injEq] at e
          have : (wr.alloc (.cells #[.int .i64 S, .int .i64 T, .int .i64 R, .int .i64 V, .slice ua un uc] 44)).heap.size ≤ b := hb
          simp at this; omega, by rw [HZ.out]; exact (HEO2.out.nm _ (List.getElem_mem hkx)).2⟩)
      have j0 := (hb2'.cell (p := ⟨g, k * 5, none⟩) hgl).trans k0
      have j1 := (hb2'.cell (p := ⟨g, k * 5 + 1, none⟩) hgl).trans k1
      have j2 := (hb2'.cell (p := ⟨g, k * 5 + 2, none⟩) hgl).trans k2
      have j3 := (hb2'.cell (p := ⟨g, k * 5 + 3, none⟩) hgl).trans k3
      have j4 := (hb2'.cell (p := ⟨g, k * 5 + 4, none⟩) hgl).trans k4
      have fr : ∀ i, w2.frozen? ⟨g, i, none⟩ = false := fun i => (hb2'.frozen (p := ⟨g, i, none⟩) hgl).trans (hgf i)
      obtain ⟨va, vn, vc⟩ := u
      simp only [Sl.val] at HEO3 ⊢
      have HFIN := Bx.mk (show xs.length = l.length ∧ ens (xs.set k ⟨z.e, ⟨va, vn, vc⟩⟩) = ens l ∧ EO (((((w2.setCell ⟨g, k * 5, none⟩ (.int .i64 S)).setCell ⟨g, k * 5 + 1, none⟩ (.int .i64 T)).setCell ⟨g, k * 5 + 2, none⟩ (.int .i64 R)).setCell ⟨g, k * 5 + 3, none⟩ (.int .i64 V)).setCell ⟨g, k * 5 + 4, none⟩ (.slice va vn vc)) w.heap.size (.slice (some ⟨g, 0, none⟩) l.length c1) (xs.set k ⟨z.e, ⟨va, vn, vc⟩⟩) ∧ Below w.heap.size w (((((w2.setCell ⟨g, k * 5, none⟩ (.int .i64 S)).setCell ⟨g, k * 5 + 1, none⟩ (.int .i64 T)).setCell ⟨g, k * 5 + 2, none⟩ (.int .i64 R)).setCell ⟨g, k * 5 + 3, none⟩ (.int .i64 V)).setCell ⟨g, k * 5 + 4, none⟩ (.slice va vn vc)) from by
        obtain ⟨g', cap', hv', -, -, -, h5⟩ := HEO3.out
        simp only [Value.slice.injEq, Option.some.injEq, Addr.mk.injEq] at hv'
        obtain ⟨⟨hgg, -⟩, -⟩ := hv'
        subst hgg
        simp only [HSS.out.1, HSS.out.2.1, HSS.out.2.2.1, HSS.out.2.2.2] at h5
        refine ⟨HQ.out.1, ?_, h5, ?_⟩
        · rw [ens_set xs k hkx _ (by rw [HZ.out]), HQ.out.2.1]
        · have h0 := HQ.out.2.2.2.trans (hb2'.mono HSZ.out)
          exact ((((h0.setCell (p := ⟨g, k * 5, none⟩) hgB _).setCell (p := ⟨g, k * 5 + 1, none⟩) hgB _).setCell (p := ⟨g, k * 5 + 2, none⟩) hgB _).setCell (p := ⟨g, k * 5 + 3, none⟩) hgB _).setCell (p := ⟨g, k * 5 + 4, none⟩) hgB _)
      have hgl2 : g < w2.heap.size := by omega
      clear HEO3 hnm hb2 hb2' hcall k0 k1 k2 k3 k4 hgf
      go_wp2
      go_roundw
      case rel => exact ⟨k + 1, xs.set k ⟨z.e, ⟨va, vn, vc⟩⟩, by omega, by go_num, ⟨by rw [List.length_set]; exact HFIN.out.1, HFIN.out.2.1, HFIN.out.2.2.1, HFIN.out.2.2.2⟩⟩
      case measure => simp [intOf]; omega
    · obtain rfl : k = l.length := by omega
      have HF := Bx.mk hq.out
      clear hq
      go_wp2
      go_ret
      exact ⟨_, xs, rfl, HF.out.2.2.1, HF.out.2.1, HF.out.2.2.2⟩

theorem entries_any (w : World) (v : Value) (l : List Et) (hl : EL w v l) (hn : l.length ≤ 1000000) :
    Calls Try.prog 62 #[v] w fun e w' => ∃ v' l', e = .returned v' ∧ EO w' w.heap.size v' l' ∧ ens l' = ens l ∧ Below w.heap.size w w' := by
  have hc := each_any w v l hl hn
  go_enter Try.func62, Try.ntmps62
  go_wp2_with fail
  go_at_call 72
  refine hc.mono ?_
  rintro e w1 ⟨v1, l1, rfl, h1, h2, h3⟩
  have H := Bx.mk (And.intro h1 (And.intro h2 h3))
  clear h1 h2 h3 hc
  go_wp2
  go_ret
  exact ⟨_, l1, rfl, H.out.1, H.out.2.1, H.out.2.2⟩
end Go.Proofs.Ytpagoinnkknkfaa.Pb

namespace Go.Proofs.Ytpagoinnkknkfaa.Pb
open Go Go.RowKit Go.Proofs.Ytpagoinnkknkfaa.Slc
set_option linter.unusedVariables false
set_option linter.unusedSimpArgs false

theorem zero_cells_size (z : Value) (hz : z.cells.size = 5) (k : Nat) : (Builtin.zeroCells z.cells k).size = k * 5 := by
  rw [size_zeroCells, hz]
set_option maxRecDepth 10000 in
set_option maxHeartbeats 1000000 in
theorem grow_any (w : World) (n : Nat) (hn : n ≤ 1000000) :
    Calls Try.prog 73 #[.slice none 0 0, .int .i64 n] w fun e w' => ∃ v', e = .returned v' ∧ Own w' w.heap.size 44 5 encE v' [] ∧ Below w.heap.size w w' := by
  obtain ⟨i0, hi0, hz0, hz1, hz2⟩ := info_parts info_entry
  have hs0 : ∀ W, (Instr.slice 40 (.slice none 0 0) none (some (.int .i64 0)) none).run Try.prog W = .ok (.slice none 0 0) W := fun W => by
    rw [show (0 : Int) = ((0 : Nat) : Int) from rfl, run_slice_h W _ _ _ _ und_entries' _ _ (by omega) (by omega)]
    simp [size_entries, sliced, Result.andThen]
  rcases Nat.eq_zero_or_pos n with h0 | h0
  · subst h0
    have t0 : ((0 : Nat) : Int) = 0 := rfl
    rw [t0]
    clear t0
    go_enter Try.func73, Try.ntmps73
    go_wp2
    go_ret
    exact ⟨_, rfl, Own.nil _ _, Below.refl _ _⟩
  · have hold : (Builtin.firstCells i0.size 0 (.slice none 0 0)).run Try.prog w.drew = .ok (([] : List Value)).toArray w.drew := run_firstCells_none w.drew i0.size 0 0 0
    have hfit : Builtin.nextslicecap (0 + n) 0 * i0.bytes ≤ 281474976710656 := growslice_fits (by omega) (by rw [hz2]; omega)
    have hrz := fun ty => Lib.run_append_grow_zeros (P := Try.prog) w 40 3 ty 44 i0 _ .i64 .i64 und_entries Try.underlying3 hi0 hz0 none 0 0 [] hold n h0 (by rw [hz1]; omega) (by omega) (by omega) (by rw [hz2]; omega) hfit
    simp only [Nat.zero_add] at hrz
    have hGn : n ≤ grownCap w n 0 44 := grownCap_ge w n 0 _
    have hGm : grownCap w n 0 44 ≤ maxLen := grownCap_le_maxLen w n 0 _ (by unfold maxLen; omega)
    generalize grownCap w n 0 44 = G at *
    have hs1 : ∀ W, (Instr.slice 40 (.slice (some ⟨w.heap.size, 0, none⟩) n G) none (some (.int .i64 0)) none).run Try.prog W = .ok (.slice (some ⟨w.heap.size, 0, none⟩) 0 G) W := fun W => by
      rw [show (0 : Int) = ((0 : Nat) : Int) from rfl, run_slice_h W _ _ _ _ und_entries' _ _ (by omega) (by omega)]
      simp [size_entries, sliced, Result.andThen, add_at]
    obtain ⟨X, hX⟩ : ∃ X : Array Value, X = (([] : List Value).toArray ++ Builtin.zeroCells (Value.agg #[.int .i64 0, .int .i64 0, .int .i64 0, .int .i64 0, .slice none 0 0]).cells n ++ Builtin.zeroCells (Value.agg #[.int .i64 0, .int .i64 0, .int .i64 0, .int .i64 0, .slice none 0 0]).cells (G - n)) := ⟨_, rfl⟩
    have hXs : X.size = G * 5 := by
      rw [hX]
      simp only [Array.size_append, List.size_toArray, List.length_nil, Nat.zero_add]
      rw [zero_cells_size _ rfl, zero_cells_size _ rfl]; omega
    rw [← hX] at hrz
    have HOWN := Bx.mk (show Own (w.drew.alloc (.cells X 44)) w.heap.size 44 5 encE (.slice (some ⟨w.heap.size, 0, none⟩) 0 G) [] from
      ⟨by simp, .inr ⟨w.heap.size, G, X, rfl, Nat.le_refl _, heap_alloc_new w.drew _, Nat.zero_le _, hGm, hXs, by simp⟩⟩)
    have HB := Bx.mk (show Below w.heap.size w (w.drew.alloc (.cells X 44)) from (Below.refl _ _).drew.alloc (Nat.le_refl _) _)
    have t0 : decide ((n : Int) > 0) = true := by simp; omega
    have t1 : decide ((n : Int) < 0) = false := by simp
    clear hold hfit hX hXs hGn hGm
    go_enter Try.func73, Try.ntmps73
    go_wp2_with (at_builtin; refine Lib.wpList_append_run _ rfl _ _ _ _ rfl _ _ rfl rfl _ _ (hrz _) ?_)
    go_ret
    exact ⟨_, rfl, HOWN.out, HB.out⟩

/-- slices of entries, several -/
def LLs (w : World) (vs : List Sl) (ls : List (List Et)) : Prop := ∃ hl : vs.length = ls.length, ∀ i (h : i < ls.length), EL w (vs[i]'(by omega)).val ls[i]
def LL (w : World) (v : Value) (ls : List (List Et)) : Prop := ∃ vs : List Sl, Rd w encV1 v vs ∧ LLs w vs ls
theorem LL.below {w w' : World} {v : Value} {ls : List (List Et)} (h : LL w v ls) (hb : Below w.heap.size w w') : LL w' v ls := by
  obtain ⟨vs, h1, hl, h2⟩ := h
  exact ⟨vs, h1.below hb, hl, fun i hi => (h2 i hi).below hb⟩
def lens (ls : List (List Et)) : Nat := ls.flatten.length
theorem lens_take (ls : List (List Et)) (k : Nat) (h : k < ls.length) : lens (ls.take (k + 1)) = lens (ls.take k) + (ls[k]).length := by
  unfold lens; rw [List.take_succ_eq_append_getElem h, List.flatten_append]; simp
theorem lens_le (ls : List (List Et)) (k : Nat) : lens (ls.take k) ≤ lens ls := by
  have h : lens ls = lens (ls.take k) + lens (ls.drop k) := by
    unfold lens
    conv => lhs; rw [← List.take_append_drop k ls]
    rw [List.flatten_append, List.length_append]
  omega

set_option maxRecDepth 10000 in
set_option maxHeartbeats 4000000 in
theorem concat_any (w : World) (v : Value) (ls : List (List Et)) (hv : LL w v ls) (hn : ls.length ≤ 1000) (ht : lens ls ≤ 1000000) :
    Calls Try.prog 63 #[v] w fun e w' => ∃ v', e = .returned v' ∧ EO w' w.heap.size v' ls.flatten ∧ Below w.heap.size w w' := by
  obtain ⟨i0, hi0, hz0, hz1, hz2⟩ := info_parts info_entry
  obtain ⟨vs, hr, hl, hx⟩ := hv
  obtain ⟨ad, c, rfl, -⟩ := hr.form
  have HL := Bx.mk hl
  have HC := Bx.mk (show ∀ (W : World), Below w.heap.size w W → ∀ k (hk : k < vs.length), ∃ b o, ad = some ⟨b, o, none⟩ ∧ W.cell? ⟨b, o + k, none⟩ = some (vs[k]).val from fun W hW k hk => by
    obtain ⟨b, o, c, hv', _, hlt, hc⟩ := hr.cells encV1_ok (by omega)
    simp only [Value.slice.injEq] at hv'
    have q := hc W (fun k' hk' => hW.block k' (hr.lt k' hk')) k hk 0 _ (by omega) rfl
    rw [Nat.mul_one, Nat.add_zero] at q
    exact ⟨b, o, hv'.1, q⟩)
  have HX := Bx.mk (show ∀ k (hk : k < vs.length), EL w (vs[k]).val (ls[k]'(by rw [← HL.out]; exact hk)) from fun k hk => hx k (by rw [← HL.out]; exact hk))
  have HT := Bx.mk ht
  have hnl : vs.length ≤ 1000 := by omega
  clear hr hx hl ht
  go_enter Try.func63, Try.ntmps63
  go_wp2
  go_loop [3, 11] (fun s i => ∃ k : Nat, k ≤ vs.length ∧ i = .int .i64 k ∧ s = .int .i64 (lens (ls.take k) : Nat)) (fun _ i => vs.length - (intOf i).toNat)
  case atStart => exact ⟨0, by omega, rfl, by simp [lens]⟩
  case round =>
    obtain ⟨k, hk, rfl, rfl⟩ := hrel
    have hle := lens_le ls k
    by_cases hlt : k < vs.length
    · obtain ⟨b, o, rfl, hcell⟩ := HC.out w (Below.refl _ _) k hlt
      have hel := HX.out k hlt
      obtain ⟨ea, ec, hf, -⟩ := hel.rd.form
      have hle2 := lens_le ls (k + 1)
      have hsucc := lens_take ls k (by have := HL.out; omega)
      rw [hf] at hcell
      have HS := Bx.mk hsucc
      have hb1 : lens (ls.take k) + (ls[k]'(by have := HL.out; omega)).length ≤ 1000000 := by have := HT.out; omega
      have hb2 : lens (ls.take k) ≤ 1000000 := by have := HT.out; omega
      clear hel hf hsucc hle hle2
      generalize (ls[k]'(by have := HL.out; omega)).length = m at *
      generalize hA : lens (ls.take k) = A at *
      clear hA
      have t0 : decide (((A + m : Nat) : Int) < 0) = false := by simp; omega
      have t1 : decide (((A : Int) + (m : Int)) < 0) = false := by simp; omega
      go_wp2
      go_round
      case rel => exact ⟨k + 1, by omega, by go_num, by rw [HS.out]; go_num⟩
      case measure => simp [intOf]; omega
    · obtain rfl : k = vs.length := by omega
      have hall : lens (ls.take vs.length) = lens ls := by rw [HL.out, List.take_length]
      have hg := grow_any w (lens ls) HT.out
      rw [hall]
      have hlb := HT.out
      clear hall hle
      obtain ⟨A, hA⟩ : ∃ A, A = lens ls := ⟨_, rfl⟩
      rw [← hA] at hg hlb ⊢
      have HA := Bx.mk hA
      clear hA
      go_wp2_with fail
      go_at_call 73
      refine hg.mono ?_
      rintro e w1 ⟨v1, rfl, hown, hb1⟩
      have HG := Bx.mk (show GE w w.heap.size w1 v1 [] from ⟨⟨hown, fun x hx => by cases hx⟩, hb1, Nat.le_refl _⟩)
      obtain ⟨a1, c1, rfl, -⟩ := HG.out.form
      clear hown hb1 hg
      go_wp2
      go_loopw [6, 27] (fun nv i wr => ∃ (k : Nat) (out : List Et), k ≤ vs.length ∧ i = .int .i64 k ∧ GE w w.heap.size wr nv out ∧ Bx (out = (ls.take k).flatten)) (fun _ i _ => vs.length - (intOf i).toNat)
      case atStart => exact ⟨0, [], by omega, rfl, HG.out, ⟨by simp⟩⟩
      case round =>
        obtain ⟨k, out, hk, rfl, hge, hout⟩ := hrel
        obtain ⟨av, cv, rfl, -⟩ := hge.form
        have HGE := Bx.mk hge
        by_cases hlt : k < vs.length
        · obtain ⟨b, o, rfl, hcell⟩ := HC.out wr hge.bel k hlt
          have hel := HX.out k hlt
          obtain ⟨l1, hl1⟩ : ∃ l1, l1 = ls[k]'(by have := HL.out; omega) := ⟨_, rfl⟩
          rw [← hl1] at hel
          obtain ⟨ea, ec, hf, -⟩ := hel.rd.form
          have hsrc := (hel.below hge.bel).rd.src encE_ok
          rw [hf] at hcell hsrc
          have HOUT2 := Bx.mk (show out ++ l1 = (ls.take (k + 1)).flatten by rw [hout.out, hl1, List.take_succ_eq_append_getElem (by have := HL.out; omega), List.flatten_append]; simp)
          have hlen : out.length + l1.length ≤ 1000000 := by
            have := congrArg List.length HOUT2.out
            rw [List.length_append] at this
            have h2 := lens_le ls (k + 1)
            have h3 := HT.out
            unfold lens at h2 h3
            omega
          have HM := Bx.mk (show ∀ x ∈ l1, EtIn wr (fun k => (Value.slice av out.length cv).ownBlock ≠ some k) x from fun x hx => EtAt.other HGE.out (hel.at_ x hx) fun k hk => hk)
          have HOWN := Bx.mk hge.eo.own
          have hm1 : out.length + l1.length ≤ maxLen := by unfold maxLen; omega
          have hm2 : (out.length + l1.length) * 56 ≤ 140737488355328 := by omega
          have hbz := hge.sz
          clear hel hf hl1 hge hout hlen
          go_wp2_with (refine wpList_append_any rfl _ _ _ rfl w.heap.size 44 i0 _ 5 56 und_entries hi0 hz0 hz1 hz2 rfl (by decide) _ out.length (out.flatMap encE) rfl HOWN.out _ l1.length (l1.flatMap encE) rfl hsrc hm1 hm2 hbz ?_)
          intro v2 w3 hapd
          have HG2 := Bx.mk (HGE.out.apd (m := l1) HM.out rfl rfl rfl rfl hapd)
          clear hapd hsrc hbz HOWN hm1 hm2
          go_wp2
          go_roundw
          case rel => exact ⟨k + 1, out ++ l1, by omega, by go_num, HG2.out, HOUT2⟩
          case measure => simp [intOf]; omega
        · obtain rfl : k = vs.length := by omega
          have HFF := Bx.mk (show out = ls.flatten by rw [hout.out, HL.out, List.take_length])
          clear hge hout
          go_wp2
          go_ret
          exact ⟨_, rfl, by rw [← HFF.out]; exact HGE.out.eo, HGE.out.bel⟩
end Go.Proofs.Ytpagoinnkknkfaa.Pb
