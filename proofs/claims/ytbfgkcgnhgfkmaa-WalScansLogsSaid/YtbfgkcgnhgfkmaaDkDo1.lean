/-
  The law's do. (Written by wip/gen/gen_do.py.)
-/
import Derived.Test.YtbfgkcgnhgfkmaaDkDo
import Derived.Test.YtbfgkcgnhgfkmaaFactsB
namespace Go.Proofs.Ytbfgkcgnhgfkmaa.Dk
open Go Go.Maps Go.RowKit Go.Proofs.Ytbfgkcgnhgfkmaa.Slc
set_option linter.unusedVariables false
set_option linter.unusedSimpArgs false

set_option maxHeartbeats 4000000 in
set_option maxRecDepth 20000 in
theorem do_1 (w : World) (d r : Nat) (s t : St) (F R G Q : Nat → Prop) (c : Cl) (hP : RepP w d s F R) (hR : RepR w r t G Q) (hA : Apart F R G Q) (hc : c.Fit) (hs : s.Fit) (ht : t.Fit) (hk : c.kind % 6 = 1) :
    Calls Try.prog 28 #[ptr d, ptr r, .agg c.cells.toArray] w fun e w' => e = .returned (.bool ((s.call c).2 == (t.call c).2)) ∧ Both w w' d r (s.call c).1 (t.call c).1 F R G Q := by
  have hbW : Below w.heap.size w (w.alloc (boxC c)) := (Below.refl _ w).alloc (Nat.le_refl _) _
  have hbox := heap_alloc_new w (boxC c)
  have hcl : ∀ e : Ext (w.alloc (boxC c)), e.out.heap[w.heap.size]? = some (boxC c) := fun e => (e.bel.block _ (by simp)).trans hbox
  have m0 := fun e => (boxC_cells (hcl e)).1
  have m1 := fun e => (boxC_cells (hcl e)).2.1
  have m2 := fun e => (boxC_cells (hcl e)).2.2.1
  have m3 := fun e => (boxC_cells (hcl e)).2.2.2.1
  have m4 := fun e => (boxC_cells (hcl e)).2.2.2.2.1
  have m5 := fun e => (boxC_cells (hcl e)).2.2.2.2.2.1
  have m6 := fun e => (boxC_cells (hcl e)).2.2.2.2.2.2.1
  have m7 := fun e => (boxC_cells (hcl e)).2.2.2.2.2.2.2
  have HN1 := Lib.hid (fun W : World => name_any c c.frm W hc.ok.frm)
  have HN2 := Lib.hid (fun W : World => name_any c c.tgt W hc.ok.tgt)
  have HSM := Lib.hid (fun W : World => small_any c.kind 6 W hc.ok.kind.1 hc.ok.kind.2 (by omega) (by omega))
  have HLN := Lib.hid (c.nm_len c.frm hc.name)
  have HLT := Lib.hid (c.nm_len c.tgt hc.name)
  have HC := Lib.hid hc
  have HS := Lib.hid hs
  have HT := Lib.hid ht
  have HP := Lib.hid hP
  have HRR := Lib.hid hR
  have HA := Lib.hid hA
  have HBX := Lib.hid hcl
  have HBW := Lib.hid hbW
  have HK := Lib.hid hk
  have HSZ := Lib.hid (show (w.alloc (boxC c)).heap.size = w.heap.size + 1 by simp)
  clear hP hR hA hs ht hc hcl hbW hbox hk
  unfold ptr
  go_enter Try.func28, Try.ntmps28
  go_wp2_with fail
  change Code.wp _ _ _ _ (w.alloc (boxC c))
  generalize hWd : w.alloc (boxC c) = W at *
  clear hWd
  refine wp_region_self (by kernel_rfl) (by kernel_rfl) ?_
  repeat (go_big_quiet_step (fail))
  go_big_quiet_step ((go_at_call 34; exact ext_of (HN1.out _)))
  repeat (go_big_quiet_step (fail))
  go_big_quiet_step ((go_at_call 34; exact ext_of (HN2.out _)))
  repeat (go_big_quiet_step (fail))
  refine wpQuiet_nil ?_
  rintro _ ⟨e1, rfl⟩
  have HB1 := Lib.hid (HBW.out.trans (e1.bel.mono HBW.out.size))
  have y0 := m0 e1
  have y3 := m3 e1
  have y4 := m4 e1
  have y6 := m6 e1
  have y7 := m7 e1
  have HBOX := Lib.hid (HBX.out e1)
  clear m0 m1 m2 m3 m4 m5 m6 m7
  have HPW := Lib.hid (HP.out.below HB1.out)
  have HRW := Lib.hid (HRR.out.below HB1.out)
  generalize e1.out = wx at *
  go_wp2_with fail
  go_at_call 23
  refine (HSM.out wx).mono ?_
  rw [HK.out]
  rintro e w' ⟨rfl, rfl⟩
  clear e1 HBX
  have HCS := Lib.hid (show s.call c = s.rename (c.nm c.frm) (c.nm c.tgt) by have hk := HK.out; unfold St.call; rw [if_neg (by omega), if_pos HK.out])
  have HCT := Lib.hid (show t.call c = t.rename (c.nm c.frm) (c.nm c.tgt) by have hk := HK.out; unfold St.call; rw [if_neg (by omega), if_pos HK.out])
  have hcp := rename_any wx d s F R (c.nm c.frm) (c.nm c.tgt) HPW.out (by have := HLN.out; omega) (by have := HLT.out; omega) HS.out.ops
  have HCR := Lib.hid (fun (w1 : World) (h : NextP wx w1 d (s.rename (c.nm c.frm) (c.nm c.tgt)).1 F R) => rrename_any w1 r t G Q (c.nm c.frm) (c.nm c.tgt) (keepR HRW.out HA.out h) (by have := HLN.out; omega) (by have := HLT.out; omega) HT.out.ops (by have := HT.out.wt; omega))
  have hq : ((s.rename (c.nm c.frm) (c.nm c.tgt)).2 == (t.rename (c.nm c.frm) (c.nm c.tgt)).2) = ((s.call c).2 == (t.call c).2) := by rw [HCS.out, HCT.out]
  have HQ := Lib.hid hq
  unfold ptr at hcp
  clear hq y0 y3 y4 y6 y7
  generalize (s.rename (c.nm c.frm) (c.nm c.tgt)).2 = es at *
  generalize (t.rename (c.nm c.frm) (c.nm c.tgt)).2 = et at *
  go_wp2_with fail
  go_at_call 35
  refine hcp.mono ?_
  rintro e w1 ⟨rfl, hn1⟩
  have hcr := HCR.out w1 hn1
  have HN := Lib.hid hn1
  unfold ptr at hcr
  clear hn1 hcp
  go_wp2_with fail
  go_at_call 69
  refine hcr.mono ?_
  rintro e w2 ⟨rfl, hn2⟩
  have HM := Lib.hid (Both.of_below HB1.out (both_of HRW.out HA.out HN.out hn2))
  clear hn2 hcr
  go_wp2
  go_ret
  exact ⟨by rw [← HQ.out]; rfl, by rw [HCS.out, HCT.out]; exact HM.out⟩

set_option maxHeartbeats 4000000 in
set_option maxRecDepth 20000 in
theorem do_2 (w : World) (d r : Nat) (s t : St) (F R G Q : Nat → Prop) (c : Cl) (hP : RepP w d s F R) (hR : RepR w r t G Q) (hA : Apart F R G Q) (hc : c.Fit) (hs : s.Fit) (ht : t.Fit) (hk : c.kind % 6 = 2) :
    Calls Try.prog 28 #[ptr d, ptr r, .agg c.cells.toArray] w fun e w' => e = .returned (.bool ((s.call c).2 == (t.call c).2)) ∧ Both w w' d r (s.call c).1 (t.call c).1 F R G Q := by
  have hbW : Below w.heap.size w (w.alloc (boxC c)) := (Below.refl _ w).alloc (Nat.le_refl _) _
  have hbox := heap_alloc_new w (boxC c)
  have hcl : ∀ e : Ext (w.alloc (boxC c)), e.out.heap[w.heap.size]? = some (boxC c) := fun e => (e.bel.block _ (by simp)).trans hbox
  have m0 := fun e => (boxC_cells (hcl e)).1
  have m1 := fun e => (boxC_cells (hcl e)).2.1
  have m2 := fun e => (boxC_cells (hcl e)).2.2.1
  have m3 := fun e => (boxC_cells (hcl e)).2.2.2.1
  have m4 := fun e => (boxC_cells (hcl e)).2.2.2.2.1
  have m5 := fun e => (boxC_cells (hcl e)).2.2.2.2.2.1
  have m6 := fun e => (boxC_cells (hcl e)).2.2.2.2.2.2.1
  have m7 := fun e => (boxC_cells (hcl e)).2.2.2.2.2.2.2
  have HN1 := Lib.hid (fun W : World => name_any c c.frm W hc.ok.frm)
  have HN2 := Lib.hid (fun W : World => name_any c c.tgt W hc.ok.tgt)
  have HSM := Lib.hid (fun W : World => small_any c.kind 6 W hc.ok.kind.1 hc.ok.kind.2 (by omega) (by omega))
  have HLN := Lib.hid (c.nm_len c.frm hc.name)
  have HLT := Lib.hid (c.nm_len c.tgt hc.name)
  have HC := Lib.hid hc
  have HS := Lib.hid hs
  have HT := Lib.hid ht
  have HP := Lib.hid hP
  have HRR := Lib.hid hR
  have HA := Lib.hid hA
  have HBX := Lib.hid hcl
  have HBW := Lib.hid hbW
  have HK := Lib.hid hk
  have HSZ := Lib.hid (show (w.alloc (boxC c)).heap.size = w.heap.size + 1 by simp)
  clear hP hR hA hs ht hc hcl hbW hbox hk
  unfold ptr
  go_enter Try.func28, Try.ntmps28
  go_wp2_with fail
  change Code.wp _ _ _ _ (w.alloc (boxC c))
  generalize hWd : w.alloc (boxC c) = W at *
  clear hWd
  refine wp_region_self (by kernel_rfl) (by kernel_rfl) ?_
  repeat (go_big_quiet_step (fail))
  go_big_quiet_step ((go_at_call 34; exact ext_of (HN1.out _)))
  repeat (go_big_quiet_step (fail))
  go_big_quiet_step ((go_at_call 34; exact ext_of (HN2.out _)))
  repeat (go_big_quiet_step (fail))
  refine wpQuiet_nil ?_
  rintro _ ⟨e1, rfl⟩
  have HB1 := Lib.hid (HBW.out.trans (e1.bel.mono HBW.out.size))
  have y0 := m0 e1
  have y3 := m3 e1
  have y4 := m4 e1
  have y6 := m6 e1
  have y7 := m7 e1
  have HBOX := Lib.hid (HBX.out e1)
  clear m0 m1 m2 m3 m4 m5 m6 m7
  have HPW := Lib.hid (HP.out.below HB1.out)
  have HRW := Lib.hid (HRR.out.below HB1.out)
  generalize e1.out = wx at *
  go_wp2_with fail
  go_at_call 23
  refine (HSM.out wx).mono ?_
  rw [HK.out]
  rintro e w' ⟨rfl, rfl⟩
  clear e1 HBX
  have HCS := Lib.hid (show s.call c = s.remove (c.nm c.frm) by have hk := HK.out; unfold St.call; rw [if_neg (by omega), if_neg (by omega), if_pos HK.out])
  have HCT := Lib.hid (show t.call c = t.remove (c.nm c.frm) by have hk := HK.out; unfold St.call; rw [if_neg (by omega), if_neg (by omega), if_pos HK.out])
  have hcp := remove_any wx d s F R (c.nm c.frm) HPW.out (by have := HLN.out; omega) HS.out.ops
  have HCR := Lib.hid (fun (w1 : World) (h : NextP wx w1 d (s.remove (c.nm c.frm)).1 F R) => rremove_any w1 r t G Q (c.nm c.frm) (keepR HRW.out HA.out h) (by have := HLN.out; omega) HT.out.ops (by have := HT.out.wt; omega))
  have hq : ((s.remove (c.nm c.frm)).2 == (t.remove (c.nm c.frm)).2) = ((s.call c).2 == (t.call c).2) := by rw [HCS.out, HCT.out]
  have HQ := Lib.hid hq
  unfold ptr at hcp
  clear hq y0 y3 y4 y6 y7
  generalize (s.remove (c.nm c.frm)).2 = es at *
  generalize (t.remove (c.nm c.frm)).2 = et at *
  go_wp2_with fail
  go_at_call 36
  refine hcp.mono ?_
  rintro e w1 ⟨rfl, hn1⟩
  have hcr := HCR.out w1 hn1
  have HN := Lib.hid hn1
  unfold ptr at hcr
  clear hn1 hcp
  go_wp2_with fail
  go_at_call 70
  refine hcr.mono ?_
  rintro e w2 ⟨rfl, hn2⟩
  have HM := Lib.hid (Both.of_below HB1.out (both_of HRW.out HA.out HN.out hn2))
  clear hn2 hcr
  go_wp2
  go_ret
  exact ⟨by rw [← HQ.out]; rfl, by rw [HCS.out, HCT.out]; exact HM.out⟩

set_option maxHeartbeats 4000000 in
set_option maxRecDepth 20000 in
theorem do_3 (w : World) (d r : Nat) (s t : St) (F R G Q : Nat → Prop) (c : Cl) (hP : RepP w d s F R) (hR : RepR w r t G Q) (hA : Apart F R G Q) (hc : c.Fit) (hs : s.Fit) (ht : t.Fit) (hk : c.kind % 6 = 3) :
    Calls Try.prog 28 #[ptr d, ptr r, .agg c.cells.toArray] w fun e w' => e = .returned (.bool ((s.call c).2 == (t.call c).2)) ∧ Both w w' d r (s.call c).1 (t.call c).1 F R G Q := by
  have hbW : Below w.heap.size w (w.alloc (boxC c)) := (Below.refl _ w).alloc (Nat.le_refl _) _
  have hbox := heap_alloc_new w (boxC c)
  have hcl : ∀ e : Ext (w.alloc (boxC c)), e.out.heap[w.heap.size]? = some (boxC c) := fun e => (e.bel.block _ (by simp)).trans hbox
  have m0 := fun e => (boxC_cells (hcl e)).1
  have m1 := fun e => (boxC_cells (hcl e)).2.1
  have m2 := fun e => (boxC_cells (hcl e)).2.2.1
  have m3 := fun e => (boxC_cells (hcl e)).2.2.2.1
  have m4 := fun e => (boxC_cells (hcl e)).2.2.2.2.1
  have m5 := fun e => (boxC_cells (hcl e)).2.2.2.2.2.1
  have m6 := fun e => (boxC_cells (hcl e)).2.2.2.2.2.2.1
  have m7 := fun e => (boxC_cells (hcl e)).2.2.2.2.2.2.2
  have HN1 := Lib.hid (fun W : World => name_any c c.frm W hc.ok.frm)
  have HN2 := Lib.hid (fun W : World => name_any c c.tgt W hc.ok.tgt)
  have HSM := Lib.hid (fun W : World => small_any c.kind 6 W hc.ok.kind.1 hc.ok.kind.2 (by omega) (by omega))
  have HLN := Lib.hid (c.nm_len c.frm hc.name)
  have HLT := Lib.hid (c.nm_len c.tgt hc.name)
  have HC := Lib.hid hc
  have HS := Lib.hid hs
  have HT := Lib.hid ht
  have HP := Lib.hid hP
  have HRR := Lib.hid hR
  have HA := Lib.hid hA
  have HBX := Lib.hid hcl
  have HBW := Lib.hid hbW
  have HK := Lib.hid hk
  have HSZ := Lib.hid (show (w.alloc (boxC c)).heap.size = w.heap.size + 1 by simp)
  clear hP hR hA hs ht hc hcl hbW hbox hk
  unfold ptr
  go_enter Try.func28, Try.ntmps28
  go_wp2_with fail
  change Code.wp _ _ _ _ (w.alloc (boxC c))
  generalize hWd : w.alloc (boxC c) = W at *
  clear hWd
  refine wp_region_self (by kernel_rfl) (by kernel_rfl) ?_
  repeat (go_big_quiet_step (fail))
  go_big_quiet_step ((go_at_call 34; exact ext_of (HN1.out _)))
  repeat (go_big_quiet_step (fail))
  go_big_quiet_step ((go_at_call 34; exact ext_of (HN2.out _)))
  repeat (go_big_quiet_step (fail))
  refine wpQuiet_nil ?_
  rintro _ ⟨e1, rfl⟩
  have HB1 := Lib.hid (HBW.out.trans (e1.bel.mono HBW.out.size))
  have y0 := m0 e1
  have y3 := m3 e1
  have y4 := m4 e1
  have y6 := m6 e1
  have y7 := m7 e1
  have HBOX := Lib.hid (HBX.out e1)
  clear m0 m1 m2 m3 m4 m5 m6 m7
  have HPW := Lib.hid (HP.out.below HB1.out)
  have HRW := Lib.hid (HRR.out.below HB1.out)
  generalize e1.out = wx at *
  go_wp2_with fail
  go_at_call 23
  refine (HSM.out wx).mono ?_
  rw [HK.out]
  rintro e w' ⟨rfl, rfl⟩
  clear e1 HBX
  have HCS := Lib.hid (show s.call c = s.sync by have hk := HK.out; unfold St.call; rw [if_neg (by omega), if_neg (by omega), if_neg (by omega), if_pos HK.out])
  have HCT := Lib.hid (show t.call c = t.sync by have hk := HK.out; unfold St.call; rw [if_neg (by omega), if_neg (by omega), if_neg (by omega), if_pos HK.out])
  have hcp := sync_any wx d s F R  HPW.out 
  have HCR := Lib.hid (fun (w1 : World) (h : NextP wx w1 d (s.sync).1 F R) => rsync_any w1 r t G Q  (keepR HRW.out HA.out h) HT.out.ops (by have := HT.out.wt; omega))
  have hq : ((s.sync).2 == (t.sync).2) = ((s.call c).2 == (t.call c).2) := by rw [HCS.out, HCT.out]
  have HQ := Lib.hid hq
  unfold ptr at hcp
  clear hq y0 y3 y4 y6 y7
  generalize (s.sync).2 = es at *
  generalize (t.sync).2 = et at *
  go_wp2_with fail
  go_at_call 22
  refine hcp.mono ?_
  rintro e w1 ⟨rfl, hn1⟩
  have hcr := HCR.out w1 hn1
  have HN := Lib.hid hn1
  unfold ptr at hcr
  clear hn1 hcp
  go_wp2_with fail
  go_at_call 41
  refine hcr.mono ?_
  rintro e w2 ⟨rfl, hn2⟩
  have HM := Lib.hid (Both.of_below HB1.out (both_of HRW.out HA.out HN.out hn2))
  clear hn2 hcr
  go_wp2
  go_ret
  exact ⟨by rw [← HQ.out]; rfl, by rw [HCS.out, HCT.out]; exact HM.out⟩

end Go.Proofs.Ytbfgkcgnhgfkmaa.Dk
