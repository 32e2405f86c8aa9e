/-
  The law's do. (Written by wip/gen/gen_do.py.)
-/
import Derived.Test.YtbfgkcgnhgfkmaaDkDo
import Derived.Test.YtbfgkcgnhgfkmaaFactsB
namespace Go.Proofs.Ytbfgkcgnhgfkmaa.Dk
open Go Go.Maps Go.RowKit Go.Proofs.Ytbfgkcgnhgfkmaa.Slc
set_option linter.unusedVariables false
set_option linter.unusedSimpArgs false

set_option maxHeartbeats 4000000 in
set_option maxRecDepth 20000 in
theorem do_5 (w : World) (d r : Nat) (s t : St) (F R G Q : Nat → Prop) (c : Cl) (hP : RepP w d s F R) (hR : RepR w r t G Q) (hA : Apart F R G Q) (hc : c.Fit) (hs : s.Fit) (ht : t.Fit) (hk : c.kind % 6 = 5) :
    Calls Try.prog 28 #[ptr d, ptr r, .agg c.cells.toArray] w fun e w' => e = .returned (.bool ((s.call c).2 == (t.call c).2)) ∧ Both w w' d r (s.call c).1 (t.call c).1 F R G Q := by
  have hbW : Below w.heap.size w (w.alloc (boxC c)) := (Below.refl _ w).alloc (Nat.le_refl _) _
  have hbox := heap_alloc_new w (boxC c)
  have hcl : ∀ e : Ext (w.alloc (boxC c)), e.out.heap[w.heap.size]? = some (boxC c) := fun e => (e.bel.block _ (by simp)).trans hbox
  have m0 := fun e => (boxC_cells (hcl e)).1
  have m1 := fun e => (boxC_cells (hcl e)).2.1
  have m2 := fun e => (boxC_cells (hcl e)).2.2.1
  have m3 := fun e => (boxC_cells (hcl e)).2.2.2.1
  have m4 := fun e => (boxC_cells (hcl e)).2.2.2.2.1
  have m5 := fun e => (boxC_cells (hcl e)).2.2.2.2.2.1
  have m6 := fun e => (boxC_cells (hcl e)).2.2.2.2.2.2.1
  have m7 := fun e => (boxC_cells (hcl e)).2.2.2.2.2.2.2
  have HN1 := Lib.hid (fun W : World => name_any c c.frm W hc.ok.frm)
  have HN2 := Lib.hid (fun W : World => name_any c c.tgt W hc.ok.tgt)
  have HSM := Lib.hid (fun W : World => small_any c.kind 6 W hc.ok.kind.1 hc.ok.kind.2 (by omega) (by omega))
  have HLN := Lib.hid (c.nm_len c.frm hc.name)
  have HLT := Lib.hid (c.nm_len c.tgt hc.name)
  have HC := Lib.hid hc
  have HS := Lib.hid hs
  have HT := Lib.hid ht
  have HP := Lib.hid hP
  have HRR := Lib.hid hR
  have HA := Lib.hid hA
  have HBX := Lib.hid hcl
  have HBW := Lib.hid hbW
  have HK := Lib.hid hk
  have HSZ := Lib.hid (show (w.alloc (boxC c)).heap.size = w.heap.size + 1 by simp)
  clear hP hR hA hs ht hc hcl hbW hbox hk
  unfold ptr
  go_enter Try.func28, Try.ntmps28
  go_wp2_with fail
  change Code.wp _ _ _ _ (w.alloc (boxC c))
  generalize hWd : w.alloc (boxC c) = W at *
  clear hWd
  refine wp_region_self (by kernel_rfl) (by kernel_rfl) ?_
  repeat (go_big_quiet_step (fail))
  go_big_quiet_step ((go_at_call 34; exact ext_of (HN1.out _)))
  repeat (go_big_quiet_step (fail))
  go_big_quiet_step ((go_at_call 34; exact ext_of (HN2.out _)))
  repeat (go_big_quiet_step (fail))
  refine wpQuiet_nil ?_
  rintro _ ⟨e1, rfl⟩
  have HB1 := Lib.hid (HBW.out.trans (e1.bel.mono HBW.out.size))
  have y0 := m0 e1
  have y3 := m3 e1
  have y4 := m4 e1
  have y6 := m6 e1
  have y7 := m7 e1
  have HBOX := Lib.hid (HBX.out e1)
  clear m0 m1 m2 m3 m4 m5 m6 m7
  have HPW := Lib.hid (HP.out.below HB1.out)
  have HRW := Lib.hid (HRR.out.below HB1.out)
  generalize e1.out = wx at *
  go_wp2_with fail
  go_at_call 23
  refine (HSM.out wx).mono ?_
  rw [HK.out]
  rintro e w' ⟨rfl, rfl⟩
  clear e1 HBX
  have HCS := Lib.hid (show s.call c = (s.crash c.ck c.cm, 0) by have hk := HK.out; unfold St.call; rw [if_neg (by omega), if_neg (by omega), if_neg (by omega), if_neg (by omega), if_neg (by omega)])
  have HCT := Lib.hid (show t.call c = (t.crash c.ck c.cm, 0) by have hk := HK.out; unfold St.call; rw [if_neg (by omega), if_neg (by omega), if_neg (by omega), if_neg (by omega), if_neg (by omega)])
  have HCP := Lib.hid (fun (w0 : World) (hb : Below wx.heap.size wx w0) => crash_any w0 d s F R c.ck c.cm (HPW.out.below hb) HS.out.ops HC.out.ck.1 HC.out.ck.2 HC.out.cm.1 HC.out.cm.2)
  have HCR := Lib.hid (fun (w0 w1 : World) (hb : Below wx.heap.size wx w0) (h : NextP w0 w1 d (s.crash c.ck c.cm) F R) => rcrash_any w1 r t G Q c.ck c.cm (keepR (HRW.out.below hb) HA.out h) HT.out.ops (by have := HT.out.wt; omega) HC.out.ck.1 HC.out.ck.2 HC.out.cm.1 HC.out.cm.2)
  have HS7 := Lib.hid (fun W : World => small_any c.n 7 W HC.out.ok.n.1 HC.out.ok.n.2 (by omega) (by omega))
  have HS7m := Lib.hid (fun W : World => small_any c.m 7 W HC.out.ok.m.1 HC.out.ok.m.2 (by omega) (by omega))
  have HCK := Lib.hid (show c.ck = if c.raw then c.n else c.n % 7 - 1 from rfl)
  have HCM := Lib.hid (show c.cm = if c.raw then c.m else c.m % 7 - 1 from rfl)
  have hbx := HBOX.out
  have n3 : ∀ e : Ext wx, e.out.cell? ⟨w.heap.size, 3, none⟩ = some (.int .i64 c.n) := fun e => (e.cell (lt_of_block hbx)).trans y3
  have n4 : ∀ e : Ext wx, e.out.cell? ⟨w.heap.size, 4, none⟩ = some (.int .i64 c.m) := fun e => (e.cell (lt_of_block hbx)).trans y4
  have n7 : ∀ e : Ext wx, e.out.cell? ⟨w.heap.size, 7, none⟩ = some (.bool c.raw) := fun e => (e.cell (lt_of_block hbx)).trans y7
  clear y0 y3 y4 y6 y7 hbx
  go_wp2_with fail
  refine wp_region_self (by kernel_rfl) (by kernel_rfl) ?_
  repeat (go_big_quiet_step (fail))
  refine wpQuiet_nil ?_
  rintro _ ⟨e2, rfl⟩
  have y7 := n7 e2
  cases hraw : c.raw with
  | true =>
    rw [hraw] at y7
    have HCKE := Lib.hid (show c.ck = c.n by rw [HCK.out, hraw]; rfl)
    have HCME := Lib.hid (show c.cm = c.m by rw [HCM.out, hraw]; rfl)
    rw [HCKE.out, HCME.out] at HCP HCR HCS HCT
    clear hraw n3 n4 n7
    go_wp2_with fail
    go_at_call 24
    refine (HCP.out _ e2.bel).mono ?_
    rintro e w1 ⟨rfl, hn1⟩
    have HCR1 := Lib.hid (HCR.out _ w1 e2.bel hn1)
    have HN := Lib.hid hn1
    clear hn1
    go_wp2_with fail
    go_at_call 59
    refine HCR1.out.mono ?_
    rintro e w2 ⟨rfl, hn2⟩
    have HM := Lib.hid (Both.of_below HB1.out (Both.of_below e2.bel (both_of (HRW.out.below e2.bel) HA.out HN.out hn2)))
    clear hn2
    go_wp2
    go_ret
    exact ⟨by rw [HCS.out, HCT.out]; rfl, by rw [HCS.out, HCT.out]; exact HM.out⟩
  | false =>
    rw [hraw] at y7
    have HCKE := Lib.hid (show c.ck = c.n % 7 - 1 by rw [HCK.out, hraw]; rfl)
    have HCME := Lib.hid (show c.cm = c.m % 7 - 1 by rw [HCM.out, hraw]; rfl)
    rw [HCKE.out, HCME.out] at HCP HCR HCS HCT
    have q1 : IntKind.i64.wrap (c.n % 7 - 1) = c.n % 7 - 1 := IntWalk.i64_in _ (by omega)
    have q2 : IntKind.i64.wrap (c.m % 7 - 1) = c.m % 7 - 1 := IntWalk.i64_in _ (by omega)
    clear hraw n7
    generalize c.n % 7 = zn at *
    generalize c.m % 7 = zm at *
    go_wp2_with fail
    refine wp_region_ext e2 (by kernel_rfl) (by kernel_rfl) ?_
    repeat (go_big_quiet_step (fail))
    go_big_quiet_step ((go_at_call 23; exact ext_of_same (HS7.out _)))
    repeat (go_big_quiet_step (fail))
    go_big_quiet_step ((go_at_call 23; exact ext_of_same (HS7m.out _)))
    repeat (go_big_quiet_step (fail))
    refine wpQuiet_nil ?_
    rintro _ ⟨e3, rfl⟩
    clear n3 n4 y7
    go_wp2_with fail
    go_at_call 24
    refine (HCP.out _ e3.bel).mono ?_
    rintro e w1 ⟨rfl, hn1⟩
    have HCR1 := Lib.hid (HCR.out _ w1 e3.bel hn1)
    have HN := Lib.hid hn1
    clear hn1
    go_wp2_with fail
    go_at_call 59
    refine HCR1.out.mono ?_
    rintro e w2 ⟨rfl, hn2⟩
    have HM := Lib.hid (Both.of_below HB1.out (Both.of_below e3.bel (both_of (HRW.out.below e3.bel) HA.out HN.out hn2)))
    clear hn2
    go_wp2
    go_ret
    exact ⟨by rw [HCS.out, HCT.out]; rfl, by rw [HCS.out, HCT.out]; exact HM.out⟩

end Go.Proofs.Ytbfgkcgnhgfkmaa.Dk
