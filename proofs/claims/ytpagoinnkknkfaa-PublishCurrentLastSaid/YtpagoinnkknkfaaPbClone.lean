/-
  slices.Clone at three types; copies.Name, copies.Entry. (Written by wip/gen/gen_pbc.py.)
-/
import Derived.Test.YtpagoinnkknkfaaPbOwn
import Derived.WalkSpells
namespace Go.Proofs.Ytpagoinnkknkfaa.Pb
open Go Go.RowKit Go.Proofs.Ytpagoinnkknkfaa.Slc
set_option linter.unusedVariables false
set_option linter.unusedSimpArgs false

theorem info_attrs : (Try.prog.info? 70).map (fun i => (i.zero, i.size, i.bytes)) = some (some (.slice none 0 0), 1, 24) := by kernel_rfl
theorem und_rdns : Try.prog.underlying 34 = some (.slice 70) := by kernel_rfl
theorem info_attr : (Try.prog.info? 69).map (fun i => (i.zero, i.size, i.bytes)) = some (some (.agg #[.string ⟨#[]⟩, .int .i64 0, .string ⟨#[]⟩]), 3, 40) := by kernel_rfl
theorem und_attrs : Try.prog.underlying 70 = some (.slice 69) := by kernel_rfl

set_option maxRecDepth 10000 in
set_option maxHeartbeats 1000000 in
theorem cloneR_any (w : World) (v : Value) (l : List Sl) (hv : Rd w encV1 v l) (hl : l.length ≤ 1000000) :
    Calls Try.prog 58 #[v] w fun e w' => ∃ v', e = .returned v' ∧ Own w' w.heap.size 70 1 encV1 v' l ∧ Below w.heap.size w w' := by
  obtain ⟨i0, hi0, hz0, hz1, hz2⟩ := info_parts info_attrs
  have hsrc0 := hv.src encV1_ok
  rcases hv with ⟨rfl, rfl⟩ | ⟨b, o, c, rfl, hlt, hc, hcell⟩
  · have hnil : ∀ w, (Go.binOp .eql 34 (.slice none 0 0) (.slice none 0 0)).run Try.prog w = .ok (.bool true) w := fun w => by kernel_rfl
    go_enter Try.func58, Try.ntmps58
    go_wp2
    go_ret
    exact ⟨_, rfl, Own.nil _ _, Below.refl _ _⟩
  · have hn : ∀ w, (Go.binOp .eql 34 (.slice (some ⟨b, o, none⟩) l.length c) (.slice none 0 0)).run Try.prog w = .ok (.bool false) w := fun w => by
      have := Lib.run_eql_slice_nil (P := Try.prog) w 34 70 (some ⟨b, o, none⟩) l.length c 0 0 und_rdns
      simpa using this
    have hg : (w.alloc (.cells #[] 70)).heap[w.heap.size]? = some (.cells #[] 70 (0, 0)) := heap_alloc_new _ _
    have hsrc := hsrc0.below ((Below.refl _ _).alloc (Nat.le_refl _) (.cells #[] 70))
    have HBA := Bx.mk (show Below w.heap.size w (w.alloc (.cells #[] 70)) from (Below.refl _ _).alloc (Nat.le_refl _) _)
    have hm1 : l.length ≤ maxLen := by unfold maxLen; omega
    have hm2 : l.length * 24 ≤ 140737488355328 := by omega
    have hbz : w.heap.size ≤ (w.alloc (.cells #[] 70)).heap.size := by simp
    clear hcell hsrc0
    go_enter Try.func58, Try.ntmps58
    go_wp2_with (refine wpList_append_fresh rfl _ _ _ rfl w.heap.size 70 i0 _ 1 24 und_rdns hi0 hz0 hz1 hz2 rfl (by decide) w.heap.size rfl hg (Nat.le_refl _) hbz _ l.length (l.flatMap encV1) rfl hsrc hm1 hm2 ?_)
    intro v1 w1 hown hb1 hblk
    have HFIN := Bx.mk (HBA.out.trans (hb1.mono (by simp)))
    clear hg hsrc hbz hb1 hblk
    go_wp2
    go_ret
    exact ⟨_, rfl, hown, HFIN.out⟩

set_option maxRecDepth 10000 in
set_option maxHeartbeats 1000000 in
theorem cloneA_any (w : World) (v : Value) (l : List Attr) (hv : Rd w encA v l) (hl : l.length ≤ 1000000) :
    Calls Try.prog 59 #[v] w fun e w' => ∃ v', e = .returned v' ∧ Own w' w.heap.size 69 3 encA v' l ∧ Below w.heap.size w w' := by
  obtain ⟨i0, hi0, hz0, hz1, hz2⟩ := info_parts info_attr
  have hsrc0 := hv.src encA_ok
  rcases hv with ⟨rfl, rfl⟩ | ⟨b, o, c, rfl, hlt, hc, hcell⟩
  · have hnil : ∀ w, (Go.binOp .eql 70 (.slice none 0 0) (.slice none 0 0)).run Try.prog w = .ok (.bool true) w := fun w => by kernel_rfl
    go_enter Try.func59, Try.ntmps59
    go_wp2
    go_ret
    exact ⟨_, rfl, Own.nil _ _, Below.refl _ _⟩
  · have hn : ∀ w, (Go.binOp .eql 70 (.slice (some ⟨b, o, none⟩) l.length c) (.slice none 0 0)).run Try.prog w = .ok (.bool false) w := fun w => by
      have := Lib.run_eql_slice_nil (P := Try.prog) w 70 69 (some ⟨b, o, none⟩) l.length c 0 0 und_attrs
      simpa using this
    have hg : (w.alloc (.cells #[] 69)).heap[w.heap.size]? = some (.cells #[] 69 (0, 0)) := heap_alloc_new _ _
    have hsrc := hsrc0.below ((Below.refl _ _).alloc (Nat.le_refl _) (.cells #[] 69))
    have HBA := Bx.mk (show Below w.heap.size w (w.alloc (.cells #[] 69)) from (Below.refl _ _).alloc (Nat.le_refl _) _)
    have hm1 : l.length ≤ maxLen := by unfold maxLen; omega
    have hm2 : l.length * 40 ≤ 140737488355328 := by omega
    have hbz : w.heap.size ≤ (w.alloc (.cells #[] 69)).heap.size := by simp
    clear hcell hsrc0
    go_enter Try.func59, Try.ntmps59
    go_wp2_with (refine wpList_append_fresh rfl _ _ _ rfl w.heap.size 69 i0 _ 3 40 und_attrs hi0 hz0 hz1 hz2 rfl (by decide) w.heap.size rfl hg (Nat.le_refl _) hbz _ l.length (l.flatMap encA) rfl hsrc hm1 hm2 ?_)
    intro v1 w1 hown hb1 hblk
    have HFIN := Bx.mk (HBA.out.trans (hb1.mono (by simp)))
    clear hg hsrc hbz hb1 hblk
    go_wp2
    go_ret
    exact ⟨_, rfl, hown, HFIN.out⟩

set_option maxRecDepth 10000 in
set_option maxHeartbeats 1000000 in
theorem cloneE_any (w : World) (v : Value) (l : List Et) (hv : Rd w encE v l) (hl : l.length ≤ 1000000) :
    Calls Try.prog 89 #[v] w fun e w' => ∃ v', e = .returned v' ∧ Own w' w.heap.size 44 5 encE v' l ∧ Below w.heap.size w w' := by
  obtain ⟨i0, hi0, hz0, hz1, hz2⟩ := info_parts info_entry
  have hsrc0 := hv.src encE_ok
  rcases hv with ⟨rfl, rfl⟩ | ⟨b, o, c, rfl, hlt, hc, hcell⟩
  · have hnil : ∀ w, (Go.binOp .eql 40 (.slice none 0 0) (.slice none 0 0)).run Try.prog w = .ok (.bool true) w := fun w => by kernel_rfl
    go_enter Try.func89, Try.ntmps89
    go_wp2
    go_ret
    exact ⟨_, rfl, Own.nil _ _, Below.refl _ _⟩
  · have hn : ∀ w, (Go.binOp .eql 40 (.slice (some ⟨b, o, none⟩) l.length c) (.slice none 0 0)).run Try.prog w = .ok (.bool false) w := fun w => by
      have := Lib.run_eql_slice_nil (P := Try.prog) w 40 44 (some ⟨b, o, none⟩) l.length c 0 0 und_entries
      simpa using this
    have hg : (w.alloc (.cells #[] 44)).heap[w.heap.size]? = some (.cells #[] 44 (0, 0)) := heap_alloc_new _ _
    have hsrc := hsrc0.below ((Below.refl _ _).alloc (Nat.le_refl _) (.cells #[] 44))
    have HBA := Bx.mk (show Below w.heap.size w (w.alloc (.cells #[] 44)) from (Below.refl _ _).alloc (Nat.le_refl _) _)
    have hm1 : l.length ≤ maxLen := by unfold maxLen; omega
    have hm2 : l.length * 56 ≤ 140737488355328 := by omega
    have hbz : w.heap.size ≤ (w.alloc (.cells #[] 44)).heap.size := by simp
    clear hcell hsrc0
    go_enter Try.func89, Try.ntmps89
    go_wp2_with (refine wpList_append_fresh rfl _ _ _ rfl w.heap.size 44 i0 _ 5 56 und_entries hi0 hz0 hz1 hz2 rfl (by decide) w.heap.size rfl hg (Nat.le_refl _) hbz _ l.length (l.flatMap encE) rfl hsrc hm1 hm2 ?_)
    intro v1 w1 hown hb1 hblk
    have HFIN := Bx.mk (HBA.out.trans (hb1.mono (by simp)))
    clear hg hsrc hbz hb1 hblk
    go_wp2
    go_ret
    exact ⟨_, rfl, hown, HFIN.out⟩
end Go.Proofs.Ytpagoinnkknkfaa.Pb
