/-
  The walk of DateDecode: it returns true.
-/
import Derived.Test.YtmmoimemfdbfgaaDoorDateTxt
namespace Go.Proofs.YtmmoimemfdbfgaaDoor
open Go.RowKit
set_option linter.unusedSimpArgs false

set_option maxHeartbeats 2000000 in
set_option maxRecDepth 20000 in
theorem law_decode (tag : Int) (c : ByteArray) (t k d p b h : Int) (w : World) (ht : Tab w) (hk0 : 0 ≤ k) (hk1 : k ≤ 65535) (hd0 : -128 ≤ d) (hd1 : d ≤ 127) (hp0 : 0 ≤ p) (hp1 : p ≤ 255) (hb0 : 0 ≤ b) (hb1 : b ≤ 255) (hh0 : 0 ≤ h) (hh1 : h ≤ 255) :
    Calls Tryd.prog 5 #[.int .i64 tag, .string c, .int .i64 t, .int .u16 k, .int .i8 d, .int .u8 p, .int .u8 b, .int .u8 h] w fun e w' => e = .returned (.bool true) ∧ Below w.heap.size w w' := by
  have hA := awake_any
  by_cases h60 : 60 < c.size
  · have t0 : decide (60 < (c.size : Int)) = true := by simp; omega
    clear h60
    go_enter Tryd.func5, Tryd.ntmps5
    go_wp2_with fail
    go_at_call 13
    refine (hA _ ht).mono ?_
    rintro _ w1 ⟨rfl, hB⟩
    go_wp2
    go_ret
    exact ⟨rfl, hB⟩
  · have t0 : decide (60 < (c.size : Int)) = false := by simp; omega
    have hcell := three_cell tag 23 24 w
    have hT : ∀ e : Ext (w.alloc (three tag 23 24)), Tab e.out := fun e => (ht.alloc ht.size _).ext (by have := ht.size; simp; try omega) e
    have hB : ∀ e : Ext (w.alloc (three tag 23 24)), Below w.heap.size w e.out := fun e => box_below w _ e
    have hN := fun W => near_any t k d W hk0 hk1 hd0 hd1
    have hX := fun t' tag' W => text_any t' tag' p b h W hp0 hp1 hb0 hb1 hh0 hh1
    clear h60
    go_enter Tryd.func5, Tryd.ntmps5
    go_wp2
    change Code.wp _ _ _ _ (w.alloc (three tag 23 24))
    obtain ⟨e0, he0⟩ : ∃ e : Ext (w.alloc (three tag 23 24)), w.alloc (three tag 23 24) = e.out := ⟨Ext.self _, rfl⟩
    rw [he0]; clear he0
    generalize w.alloc (three tag 23 24) = W at *
    go_loopw [32] (fun i wr => ∃ j : Nat, j ≤ 3 ∧ i = .int .i64 j ∧ ∃ e : Ext W, wr = e.out) (fun i _ => 3 - (intOf i).toNat)
    case atStart => exact ⟨0, by omega, rfl, e0, rfl⟩
    case round =>
      obtain ⟨j, hj, rfl, e1, rfl⟩ := hrel
      by_cases hlt : j < 3
      · obtain ⟨x, hx⟩ := hcell j hlt
        clear hA hcell
        go_wp2_with fail
        go_at_call 9
        refine (hN _).mono ?_
        rintro _ w2 ⟨n, rfl, hb⟩
        obtain ⟨e2, rfl⟩ := e1.next hb
        clear hb hN
        go_wp2_with fail
        go_at_call 15
        refine (hX _ _ _).mono ?_
        rintro _ w3 ⟨z, rfl, hz, hb⟩
        obtain ⟨e3, rfl⟩ := e2.next hb
        clear hb hX hz
        have hc2 := two_cell c z e3.out
        have hup : ∀ e : Ext (e3.out.alloc (.cells #[.string c, .string z] 9)), ∃ e' : Ext W, e.out = e'.out := fun e => e3.next (box_below e3.out _ e)
        have hT2 : ∀ e : Ext (e3.out.alloc (.cells #[.string c, .string z] 9)), Tab e.out := fun e => by obtain ⟨e', he'⟩ := hup e; rw [he']; exact hT e'
        have hg3 : W.heap.size ≤ e3.out.heap.size := e3.bel.size
        go_wp2
        obtain ⟨f0, hf0⟩ : ∃ e : Ext (e3.out.alloc (.cells #[.string c, .string z] 9)), e3.out.alloc (.cells #[.string c, .string z] 9) = e.out := ⟨Ext.self _, rfl⟩
        rw [hf0]; clear hf0
        generalize e3.out.alloc (.cells #[.string c, .string z] 9) = W2 at *
        go_loopw [48] (fun i wr => ∃ l : Nat, l ≤ 2 ∧ i = .int .i64 l ∧ ∃ e : Ext W2, wr = e.out) (fun i _ => 2 - (intOf i).toNat)
        case atStart => exact ⟨0, by omega, rfl, f0, rfl⟩
        case round =>
          obtain ⟨l, hl, rfl, f1, rfl⟩ := hrel
          by_cases hlt2 : l < 2
          · obtain ⟨y, hy⟩ := hc2 l hlt2
            obtain ⟨v, er, hbo⟩ := both_any x y
            have hL := hbo.1
            have hR := hbo.2
            clear hbo hc2
            go_wp2_with fail
            go_at_call 16
            refine (hL _ (hT2 _)).mono ?_
            rintro _ w4 ⟨rfl, hb⟩
            obtain ⟨f2, rfl⟩ := f1.next hb
            clear hb hL
            go_wp2_with fail
            go_at_call 17
            refine (hR _).mono ?_
            rintro _ w5 ⟨rfl, hb⟩
            obtain ⟨f3, rfl⟩ := f2.next hb
            clear hb hR
            go_wp2
            go_roundw
            case rel => exact ⟨l + 1, by omega, by go_num, f3, rfl⟩
            case measure => simp [intOf]; omega
          · obtain ⟨e5, he5⟩ := hup f1
            have HE := Lib.hid he5
            clear hc2 he5
            go_wp2
            go_roundw
            case rel => exact ⟨j + 1, by omega, by go_num, e5, HE.out⟩
            case measure => simp [intOf]; omega
      · clear hN hX
        go_wp2_with fail
        go_at_call 13
        refine (hA _ (hT _)).mono ?_
        rintro _ w2 ⟨rfl, hb⟩
        obtain ⟨e2, rfl⟩ := e1.next hb
        go_wp2
        go_ret
        exact ⟨rfl, hB e2⟩

end Go.Proofs.YtmmoimemfdbfgaaDoor
