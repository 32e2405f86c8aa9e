/-
  The law's do. (Written by wip/gen/gen_do.py.)
-/
import Derived.Test.YtbfgkcgnhgfkmaaDkDo
import Derived.Test.YtbfgkcgnhgfkmaaFactsB
namespace Go.Proofs.Ytbfgkcgnhgfkmaa.Dk
open Go Go.Maps Go.RowKit Go.Proofs.Ytbfgkcgnhgfkmaa.Slc
set_option linter.unusedVariables false
set_option linter.unusedSimpArgs false

set_option maxHeartbeats 4000000 in
set_option maxRecDepth 20000 in
theorem do_4 (w : World) (d r : Nat) (s t : St) (F R G Q : Nat → Prop) (c : Cl) (hP : RepP w d s F R) (hR : RepR w r t G Q) (hA : Apart F R G Q) (hc : c.Fit) (hs : s.Fit) (ht : t.Fit) (hk : c.kind % 6 = 4) :
    Calls Try.prog 28 #[ptr d, ptr r, .agg c.cells.toArray] w fun e w' => e = .returned (.bool ((s.call c).2 == (t.call c).2)) ∧ Both w w' d r (s.call c).1 (t.call c).1 F R G Q := by
  have hbW : Below w.heap.size w (w.alloc (boxC c)) := (Below.refl _ w).alloc (Nat.le_refl _) _
  have hbox := heap_alloc_new w (boxC c)
  have hcl : ∀ e : Ext (w.alloc (boxC c)), e.out.heap[w.heap.size]? = some (boxC c) := fun e => (e.bel.block _ (by simp)).trans hbox
  have m0 := fun e => (boxC_cells (hcl e)).1
  have m1 := fun e => (boxC_cells (hcl e)).2.1
  have m2 := fun e => (boxC_cells (hcl e)).2.2.1
  have m3 := fun e => (boxC_cells (hcl e)).2.2.2.1
  have m4 := fun e => (boxC_cells (hcl e)).2.2.2.2.1
  have m5 := fun e => (boxC_cells (hcl e)).2.2.2.2.2.1
  have m6 := fun e => (boxC_cells (hcl e)).2.2.2.2.2.2.1
  have m7 := fun e => (boxC_cells (hcl e)).2.2.2.2.2.2.2
  have HN1 := Lib.hid (fun W : World => name_any c c.frm W hc.ok.frm)
  have HN2 := Lib.hid (fun W : World => name_any c c.tgt W hc.ok.tgt)
  have HSM := Lib.hid (fun W : World => small_any c.kind 6 W hc.ok.kind.1 hc.ok.kind.2 (by omega) (by omega))
  have HLN := Lib.hid (c.nm_len c.frm hc.name)
  have HLT := Lib.hid (c.nm_len c.tgt hc.name)
  have HC := Lib.hid hc
  have HS := Lib.hid hs
  have HT := Lib.hid ht
  have HP := Lib.hid hP
  have HRR := Lib.hid hR
  have HA := Lib.hid hA
  have HBX := Lib.hid hcl
  have HBW := Lib.hid hbW
  have HK := Lib.hid hk
  have HSZ := Lib.hid (show (w.alloc (boxC c)).heap.size = w.heap.size + 1 by simp)
  clear hP hR hA hs ht hc hcl hbW hbox hk
  unfold ptr
  go_enter Try.func28, Try.ntmps28
  go_wp2_with fail
  change Code.wp _ _ _ _ (w.alloc (boxC c))
  generalize hWd : w.alloc (boxC c) = W at *
  clear hWd
  refine wp_region_self (by kernel_rfl) (by kernel_rfl) ?_
  repeat (go_big_quiet_step (fail))
  go_big_quiet_step ((go_at_call 34; exact ext_of (HN1.out _)))
  repeat (go_big_quiet_step (fail))
  go_big_quiet_step ((go_at_call 34; exact ext_of (HN2.out _)))
  repeat (go_big_quiet_step (fail))
  refine wpQuiet_nil ?_
  rintro _ ⟨e1, rfl⟩
  have HB1 := Lib.hid (HBW.out.trans (e1.bel.mono HBW.out.size))
  have y0 := m0 e1
  have y3 := m3 e1
  have y4 := m4 e1
  have y6 := m6 e1
  have y7 := m7 e1
  have HBOX := Lib.hid (HBX.out e1)
  clear m0 m1 m2 m3 m4 m5 m6 m7
  have HPW := Lib.hid (HP.out.below HB1.out)
  have HRW := Lib.hid (HRR.out.below HB1.out)
  generalize e1.out = wx at *
  go_wp2_with fail
  go_at_call 23
  refine (HSM.out wx).mono ?_
  rw [HK.out]
  rintro e w' ⟨rfl, rfl⟩
  clear e1 HBX
  have HCS := Lib.hid (show s.call c = (s.fuse c.fz, 0) by have hk := HK.out; unfold St.call; rw [if_neg (by omega), if_neg (by omega), if_neg (by omega), if_neg (by omega), if_pos HK.out])
  have HCT := Lib.hid (show t.call c = (t.fuse c.fz, 0) by have hk := HK.out; unfold St.call; rw [if_neg (by omega), if_neg (by omega), if_neg (by omega), if_neg (by omega), if_pos HK.out])
  have hcp := fuse_any wx d s F R c.fz HPW.out HC.out.fz.1 HC.out.fz.2
  have HCR := Lib.hid (fun (w1 : World) (h : NextP wx w1 d (s.fuse c.fz) F R) => rfuse_any w1 r t G Q c.fz (keepR HRW.out HA.out h) HC.out.fz.1 HC.out.fz.2)
  unfold ptr at hcp
  have HFZ := Lib.hid (show c.fz = if c.raw then c.n else c.n % 9 - 1 from rfl)
  have HS9 := Lib.hid (small_any c.n 9 wx HC.out.ok.n.1 HC.out.ok.n.2 (by omega) (by omega))
  clear y0 y4 y6
  cases hraw : c.raw with
  | true =>
    rw [hraw] at y7
    have HFE := Lib.hid (show c.fz = c.n by rw [HFZ.out, hraw]; rfl)
    rw [HFE.out] at hcp HCR HCS HCT
    clear hraw
    go_wp2_with fail
    go_at_call 30
    refine hcp.mono ?_
    rintro e w1 ⟨rfl, hn1⟩
    have hcr := HCR.out w1 hn1
    have HN := Lib.hid hn1
    unfold ptr at hcr
    clear hn1 hcp
    go_wp2_with fail
    go_at_call 57
    refine hcr.mono ?_
    rintro e w2 ⟨rfl, hn2⟩
    have HM := Lib.hid (Both.of_below HB1.out (both_of HRW.out HA.out HN.out hn2))
    clear hn2 hcr
    go_wp2
    go_ret
    exact ⟨by rw [HCS.out, HCT.out]; rfl, by rw [HCS.out, HCT.out]; exact HM.out⟩
  | false =>
    rw [hraw] at y7
    have HFE := Lib.hid (show c.fz = c.n % 9 - 1 by rw [HFZ.out, hraw]; rfl)
    rw [HFE.out] at hcp HCR HCS HCT
    have q1 : IntKind.i64.wrap (c.n % 9 - 1) = c.n % 9 - 1 := IntWalk.i64_in _ (by omega)
    clear hraw
    go_wp2_with fail
    go_at_call 23
    refine HS9.out.mono ?_
    rintro e w' ⟨rfl, rfl⟩
    generalize c.n % 9 = z at *
    go_wp2_with fail
    go_at_call 30
    refine hcp.mono ?_
    rintro e w1 ⟨rfl, hn1⟩
    have hcr := HCR.out w1 hn1
    have HN := Lib.hid hn1
    unfold ptr at hcr
    clear hn1 hcp
    go_wp2_with fail
    go_at_call 57
    refine hcr.mono ?_
    rintro e w2 ⟨rfl, hn2⟩
    have HM := Lib.hid (Both.of_below HB1.out (both_of HRW.out HA.out HN.out hn2))
    clear hn2 hcr
    go_wp2
    go_ret
    exact ⟨by rw [HCS.out, HCT.out]; rfl, by rw [HCS.out, HCT.out]; exact HM.out⟩

end Go.Proofs.Ytbfgkcgnhgfkmaa.Dk
