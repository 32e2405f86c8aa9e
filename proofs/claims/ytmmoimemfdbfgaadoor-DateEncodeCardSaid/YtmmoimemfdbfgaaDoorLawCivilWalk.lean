/-
  The walk of DateCivil: it returns true.
-/
import Derived.Test.YtmmoimemfdbfgaaDoorDateN
namespace Go.Proofs.YtmmoimemfdbfgaaDoor
open Go.RowKit

/-- both texts of Civil return the same, and Seconds inverts them -/
structure CivilBoth (x : Int) (v : Value) (r : Int) : Prop where
  left : ∀ w, Tab w → Calls Tryd.prog 10 #[.int .i64 x] w fun e w' => e = .returned (.tuple #[v, .int .i64 r]) ∧ Below w.heap.size w w'
  right : ∀ w, Calls Tryd.prog 11 #[.int .i64 x] w fun e w' => e = .returned (.tuple #[v, .int .i64 r]) ∧ Below w.heap.size w w'

theorem civil_both_good (x : Int) (h0 : 0 ≤ x) (h1 : x ≤ 254033452799) : ∃ y m d h n s, Cal.Vld y m d h n s ∧ Cal.sec y m d h n s = x ∧
    CivilBoth x (.agg #[.int .i64 y, .int .i64 m, .int .i64 d, .int .i64 h, .int .i64 n, .int .i64 s]) 0 := by
  -- the date of this time: one exists, since the definition's Civil returns one in some world
  obtain ⟨y, m, d, h, n, s, v, hs⟩ : ∃ y m d h n s, Cal.Vld y m d h n s ∧ Cal.sec y m d h n s = x := by
    obtain ⟨e, w', fr, hR, _⟩ := rcivil_good x default h0 h1 []
    obtain ⟨y, m, d, h, n, s, _, v, hs, _⟩ := hR
    exact ⟨y, m, d, h, n, s, v, hs⟩
  refine ⟨y, m, d, h, n, s, v, hs, ⟨fun w ht => ?_, fun w => ?_⟩⟩
  · refine (civil_good x w ht h0 h1).mono ?_
    rintro e w' ⟨y', m', d', h', n', s', rfl, v', hs', hb⟩
    obtain ⟨rfl, rfl, rfl, rfl, rfl, rfl⟩ := Cal.sec_inj v' v (hs'.trans hs.symm)
    exact ⟨rfl, hb⟩
  · refine (rcivil_good x w h0 h1).mono ?_
    rintro e w' ⟨y', m', d', h', n', s', rfl, v', hs', hb⟩
    obtain ⟨rfl, rfl, rfl, rfl, rfl, rfl⟩ := Cal.sec_inj v' v (hs'.trans hs.symm)
    exact ⟨rfl, hb⟩
theorem civil_both_bad (x : Int) (h : x < 0 ∨ 254033452799 < x) : CivilBoth x (.agg #[.int .i64 0, .int .i64 0, .int .i64 0, .int .i64 0, .int .i64 0, .int .i64 0]) 1 :=
  ⟨fun w _ => civil_bad x w h, fun w => rcivil_bad x w h⟩

def three (a b c : Int) : Obj := .cells #[.int .i64 a, .int .i64 b, .int .i64 c] 3
theorem three_cell (a b c : Int) (w : World) (k : Nat) (hk : k < 3) : ∃ x : Int, ∀ e : Ext (w.alloc (three a b c)), e.out.cell? ⟨w.heap.size, k, none⟩ = some (.int .i64 x) := by
  have hz : w.heap.size < (w.alloc (three a b c)).heap.size := by simp
  have : k = 0 ∨ k = 1 ∨ k = 2 := by omega
  rcases this with rfl | rfl | rfl
  · exact ⟨a, fun e => by rw [e.cell hz]; unfold three; rw [World.cell?_alloc_at _ _ _ _ rfl]; rfl⟩
  · exact ⟨b, fun e => by rw [e.cell hz]; unfold three; rw [World.cell?_alloc_at _ _ _ _ rfl]; rfl⟩
  · exact ⟨c, fun e => by rw [e.cell hz]; unfold three; rw [World.cell?_alloc_at _ _ _ _ rfl]; rfl⟩

set_option maxHeartbeats 1000000 in
theorem law_civil (t k d : Int) (w : World) (ht : Tab w) (hk0 : 0 ≤ k) (hk1 : k ≤ 65535) (hd0 : -128 ≤ d) (hd1 : d ≤ 127) :
    Calls Tryd.prog 3 #[.int .i64 t, .int .u16 k, .int .i8 d] w fun e w' => e = .returned (.bool true) ∧ Below w.heap.size w w' := by
  go_enter Tryd.func3, Tryd.ntmps3
  go_wp2_with fail
  go_at_call 9
  refine (near_any t k d _ hk0 hk1 hd0 hd1).mono ?_
  rintro e w1 ⟨x1, rfl, hb1⟩
  have hcell := three_cell t x1 (254033452799 + d) w1
  have ht1 := ht.below hb1
  have hT : ∀ e : Ext (w1.alloc (three t x1 (254033452799 + d))), Tab e.out := fun e => (ht1.alloc ht1.size _).ext (by have := ht1.size; simp; try omega) e
  have hB : ∀ e : Ext (w1.alloc (three t x1 (254033452799 + d))), Below w.heap.size w e.out := fun e => hb1.trans ((box_below w1 _ e).mono hb1.size)
  clear ht ht1
  go_wp2
  change Code.wp _ _ _ _ (w1.alloc (three t x1 (254033452799 + d)))
  obtain ⟨e0, he0⟩ : ∃ e : Ext (w1.alloc (three t x1 (254033452799 + d))), w1.alloc (three t x1 (254033452799 + d)) = e.out := ⟨Ext.self _, rfl⟩
  rw [he0]; clear he0
  generalize w1.alloc (three t x1 (254033452799 + d)) = W at *
  go_loopw [25] (fun i wr => ∃ j : Nat, j ≤ 3 ∧ i = .int .i64 j ∧ ∃ e : Ext W, wr = e.out) (fun i _ => 3 - (intOf i).toNat)
  case atStart => exact ⟨0, by omega, rfl, e0, rfl⟩
  case round =>
    obtain ⟨j, hj, rfl, e1, rfl⟩ := hrel
    by_cases hlt : j < 3
    · obtain ⟨x, hx⟩ := hcell j hlt
      by_cases hr : 0 ≤ x ∧ x ≤ 254033452799
      · obtain ⟨y, m, dd, h, n, s, v, hs, hcb⟩ := civil_both_good x hr.1 hr.2
        have HCB := Lib.hid hcb
        have HV := Lib.hid v
        have HS := Lib.hid hs
        clear hcb v hs hcell
        go_wp2_with fail
        go_at_call 10
        refine (HCB.out.left _ (hT _)).mono ?_
        rintro e w2 ⟨rfl, hb2⟩
        obtain ⟨e2, rfl⟩ := e1.next hb2
        clear hb2
        go_wp2_with fail
        change Calls _ _ _ (e2.out.alloc (dateBlock y m dd h n s)) _
        go_at_call 11
        refine (HCB.out.right _).mono ?_
        rintro e w3 ⟨rfl, hb3⟩
        have hz3 : e2.out.heap.size < w3.heap.size := by have := hb3.size; simp at this; omega
        have hc := date_cell y m dd h n s e2.out
        have hzz : e2.out.heap.size < (e2.out.alloc (dateBlock y m dd h n s)).heap.size := by simp
        have c0 := (hb3.cell (p := ⟨e2.out.heap.size, 0, none⟩) hzz).trans hc.1
        have c1 := (hb3.cell (p := ⟨e2.out.heap.size, 1, none⟩) hzz).trans hc.2.1
        have c2 := (hb3.cell (p := ⟨e2.out.heap.size, 2, none⟩) hzz).trans hc.2.2.1
        have c3 := (hb3.cell (p := ⟨e2.out.heap.size, 3, none⟩) hzz).trans hc.2.2.2.1
        have c4 := (hb3.cell (p := ⟨e2.out.heap.size, 4, none⟩) hzz).trans hc.2.2.2.2.1
        have c5 := (hb3.cell (p := ⟨e2.out.heap.size, 5, none⟩) hzz).trans hc.2.2.2.2.2
        have hb23 : Below e2.out.heap.size e2.out w3 := ((Below.refl _ _).alloc (Nat.le_refl _) _).trans (hb3.mono (by simp))
        have ht3 : Tab w3 := (hT e2).below hb23
        clear hb3 hc hzz
        go_wp2_with fail
        go_at_call 12
        refine (secs_good y m dd h n s _ (ht3.alloc ht3.size _) HV.out).mono ?_
        rintro e w4 ⟨rfl, hb4⟩
        rw [HS.out]
        obtain ⟨e4, rfl⟩ := e2.next (hb23.trans (((Below.refl w3.heap.size w3).alloc (Nat.le_refl _) _).trans (hb4.mono (by simp)) |>.mono hb23.size))
        clear hb4 hb23 ht3 c0 c1 c2 c3 c4 c5 hz3
        go_wp2
        go_roundw
        case rel => exact ⟨j + 1, by omega, by go_num, e4, rfl⟩
        case measure => simp [intOf]; omega
      · have hcb := civil_both_bad x (by omega)
        have HCB := Lib.hid hcb
        clear hcb hcell
        go_wp2_with fail
        go_at_call 10
        refine (HCB.out.left _ (hT _)).mono ?_
        rintro e w2 ⟨rfl, hb2⟩
        obtain ⟨e2, rfl⟩ := e1.next hb2
        clear hb2
        go_wp2_with fail
        change Calls _ _ _ (e2.out.alloc (dateBlock 0 0 0 0 0 0)) _
        go_at_call 11
        refine (HCB.out.right _).mono ?_
        rintro e w3 ⟨rfl, hb3⟩
        have hz3 : e2.out.heap.size < w3.heap.size := by have := hb3.size; simp at this; omega
        have hc := date_cell 0 0 0 0 0 0 e2.out
        have hzz : e2.out.heap.size < (e2.out.alloc (dateBlock 0 0 0 0 0 0)).heap.size := by simp
        have c0 := (hb3.cell (p := ⟨e2.out.heap.size, 0, none⟩) hzz).trans hc.1
        have c1 := (hb3.cell (p := ⟨e2.out.heap.size, 1, none⟩) hzz).trans hc.2.1
        have c2 := (hb3.cell (p := ⟨e2.out.heap.size, 2, none⟩) hzz).trans hc.2.2.1
        have c3 := (hb3.cell (p := ⟨e2.out.heap.size, 3, none⟩) hzz).trans hc.2.2.2.1
        have c4 := (hb3.cell (p := ⟨e2.out.heap.size, 4, none⟩) hzz).trans hc.2.2.2.2.1
        have c5 := (hb3.cell (p := ⟨e2.out.heap.size, 5, none⟩) hzz).trans hc.2.2.2.2.2
        have hb23 : Below e2.out.heap.size e2.out w3 := ((Below.refl _ _).alloc (Nat.le_refl _) _).trans (hb3.mono (by simp))
        obtain ⟨e4, he4⟩ := e2.next (hb23.alloc hb23.size (dateBlock 0 0 0 0 0 0))
        have HE4 := Lib.hid he4
        clear hb3 hc hzz he4 hb23
        go_wp2
        go_roundw
        case rel => exact ⟨j + 1, by omega, by go_num, e4, HE4.out⟩
        case measure => simp [intOf]; omega
    · go_wp2_with fail
      go_at_call 13
      refine (awake_any _ (hT _)).mono ?_
      rintro e w2 ⟨rfl, hb2⟩
      obtain ⟨e2, rfl⟩ := e1.next hb2
      go_wp2
      go_ret
      exact ⟨rfl, hB e2⟩

end Go.Proofs.YtmmoimemfdbfgaaDoor
