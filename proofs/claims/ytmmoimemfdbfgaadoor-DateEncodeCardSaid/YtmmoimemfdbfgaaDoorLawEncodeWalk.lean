/-
  The walk of DateEncode: it returns true.
-/
import Derived.Test.YtmmoimemfdbfgaaDoorDateT
namespace Go.Proofs.YtmmoimemfdbfgaaDoor
open Go.RowKit
set_option linter.unusedSimpArgs false

set_option maxHeartbeats 2000000 in
set_option maxRecDepth 20000 in
theorem law_encode (t k d : Int) (w : World) (ht : Tab w) (hk0 : 0 ≤ k) (hk1 : k ≤ 65535) (hd0 : -128 ≤ d) (hd1 : d ≤ 127) :
    Calls Tryd.prog 8 #[.int .i64 t, .int .u16 k, .int .i8 d] w fun e w' => e = .returned (.bool true) ∧ Below w.heap.size w w' := by
  have hA := awake_any
  go_enter Tryd.func8, Tryd.ntmps8
  go_wp2_with fail
  go_at_call 9
  refine (near_any t k d _ hk0 hk1 hd0 hd1).mono ?_
  rintro e w1 ⟨x1, rfl, hb1⟩
  have hcell := three_cell t x1 (3155760000 + d) w1
  have ht1 := ht.below hb1
  have hT : ∀ e : Ext (w1.alloc (three t x1 (3155760000 + d))), Tab e.out := fun e => (ht1.alloc ht1.size _).ext (by have := ht1.size; simp; try omega) e
  have hB : ∀ e : Ext (w1.alloc (three t x1 (3155760000 + d))), Below w.heap.size w e.out := fun e => hb1.trans ((box_below w1 _ e).mono hb1.size)
  clear ht ht1
  go_wp2
  change Code.wp _ _ _ _ (w1.alloc (three t x1 (3155760000 + d)))
  obtain ⟨e0, he0⟩ : ∃ e : Ext (w1.alloc (three t x1 (3155760000 + d))), w1.alloc (three t x1 (3155760000 + d)) = e.out := ⟨Ext.self _, rfl⟩
  rw [he0]; clear he0
  generalize w1.alloc (three t x1 (3155760000 + d)) = W at *
  go_loopw [25] (fun i wr => ∃ j : Nat, j ≤ 3 ∧ i = .int .i64 j ∧ ∃ e : Ext W, wr = e.out) (fun i _ => 3 - (intOf i).toNat)
  case atStart => exact ⟨0, by omega, rfl, e0, rfl⟩
  case round =>
    obtain ⟨j, hj, rfl, e1, rfl⟩ := hrel
    by_cases hlt : j < 3
    · obtain ⟨x, hx⟩ := hcell j hlt
      clear hA hcell
      by_cases hr : 0 ≤ x ∧ x ≤ 254033452799
      · obtain ⟨T, C, g, hbo, hs, hsm, hix, hsl, hg0, hg1, hdec⟩ := enc_both_good x hr.1 hr.2
        have hL := hbo.left
        have hR := hbo.right
        have u1 : decide ((T.size : Int) < 2) = false := decide_eq_false (by omega)
        clear hbo hr
        go_wp2_with fail
        go_at_call 22
        refine (hL _ (hT _)).mono ?_
        rintro _ w2 ⟨rfl, hb⟩
        obtain ⟨e2, rfl⟩ := e1.next hb
        clear hb hL
        go_wp2_with fail
        go_at_call 23
        refine (hR _).mono ?_
        rintro _ w3 ⟨rfl, hb⟩
        obtain ⟨e3, rfl⟩ := e2.next hb
        clear hb hR
        go_wp2_with fail
        refine wp_region_ext e3 (by kernel_rfl) (by kernel_rfl) ?_
        repeat (go_big_quiet_step (fail))
        go_big_quiet_step ((go_at_call 16; exact ext_of (hdec _ (hT _))))
        repeat (go_big_quiet_step (fail))
        refine wpQuiet_nil ?_
        rintro _ ⟨e4, rfl⟩
        clear hdec hix hsl
        go_wp2
        go_roundw
        case rel => exact ⟨j + 1, by omega, by go_num, e4, rfl⟩
        case measure => simp [intOf]; omega
      · have hbo := enc_both_bad x hr
        have hL := hbo.left
        have hR := hbo.right
        clear hbo hr
        go_wp2_with fail
        go_at_call 22
        refine (hL _ (hT _)).mono ?_
        rintro _ w2 ⟨rfl, hb⟩
        obtain ⟨e2, rfl⟩ := e1.next hb
        clear hb hL
        go_wp2_with fail
        go_at_call 23
        refine (hR _).mono ?_
        rintro _ w3 ⟨rfl, hb⟩
        obtain ⟨e3, rfl⟩ := e2.next hb
        clear hb hR
        go_wp2
        go_roundw
        case rel => exact ⟨j + 1, by omega, by go_num, e3, rfl⟩
        case measure => simp [intOf]; omega
    · go_wp2_with fail
      go_at_call 13
      refine (hA _ (hT _)).mono ?_
      rintro _ w2 ⟨rfl, hb⟩
      obtain ⟨e2, rfl⟩ := e1.next hb
      go_wp2
      go_ret
      exact ⟨rfl, hB e2⟩

end Go.Proofs.YtmmoimemfdbfgaaDoor
