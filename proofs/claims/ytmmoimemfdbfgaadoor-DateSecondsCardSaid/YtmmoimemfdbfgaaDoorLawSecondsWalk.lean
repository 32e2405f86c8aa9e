/-
  The walk of DateSeconds: it returns true.
-/
import Derived.Test.YtmmoimemfdbfgaaDoorLawCivilWalk
namespace Go.Proofs.YtmmoimemfdbfgaaDoor
open Go.RowKit

theorem civil_of (y m d h n s : Int) (w : World) (ht : Tab w) (v : Cal.Vld y m d h n s) :
    Calls Tryd.prog 10 #[.int .i64 (Cal.sec y m d h n s)] w fun e w' => e = .returned (.tuple #[.agg #[.int .i64 y, .int .i64 m, .int .i64 d, .int .i64 h, .int .i64 n, .int .i64 s], .int .i64 0]) ∧ Below w.heap.size w w' := by
  refine (civil_good _ w ht (Cal.sec_bd v).1 (Cal.sec_bd v).2).mono ?_
  rintro e w' ⟨y', m', d', h', n', s', rfl, v', hs', hb⟩
  obtain ⟨rfl, rfl, rfl, rfl, rfl, rfl⟩ := Cal.sec_inj v' v hs'
  exact ⟨rfl, hb⟩

def dates3 (a0 a1 a2 a3 a4 a5 a6 a7 a8 a9 a10 a11 a12 a13 a14 a15 a16 a17 : Int) : Obj := .cells #[.int .i64 a0, .int .i64 a1, .int .i64 a2, .int .i64 a3, .int .i64 a4, .int .i64 a5, .int .i64 a6, .int .i64 a7, .int .i64 a8, .int .i64 a9, .int .i64 a10, .int .i64 a11, .int .i64 a12, .int .i64 a13, .int .i64 a14, .int .i64 a15, .int .i64 a16, .int .i64 a17] 27
theorem dates3_cells (a0 a1 a2 a3 a4 a5 a6 a7 a8 a9 a10 a11 a12 a13 a14 a15 a16 a17 : Int) (w : World) : ∀ e : Ext (w.alloc (dates3 a0 a1 a2 a3 a4 a5 a6 a7 a8 a9 a10 a11 a12 a13 a14 a15 a16 a17)), e.out.cell? ⟨w.heap.size, 0, none⟩ = some (.int .i64 a0) ∧ e.out.cell? ⟨w.heap.size, 1, none⟩ = some (.int .i64 a1) ∧ e.out.cell? ⟨w.heap.size, 2, none⟩ = some (.int .i64 a2) ∧ e.out.cell? ⟨w.heap.size, 3, none⟩ = some (.int .i64 a3) ∧ e.out.cell? ⟨w.heap.size, 4, none⟩ = some (.int .i64 a4) ∧ e.out.cell? ⟨w.heap.size, 5, none⟩ = some (.int .i64 a5) ∧ e.out.cell? ⟨w.heap.size, 6, none⟩ = some (.int .i64 a6) ∧ e.out.cell? ⟨w.heap.size, 7, none⟩ = some (.int .i64 a7) ∧ e.out.cell? ⟨w.heap.size, 8, none⟩ = some (.int .i64 a8) ∧ e.out.cell? ⟨w.heap.size, 9, none⟩ = some (.int .i64 a9) ∧ e.out.cell? ⟨w.heap.size, 10, none⟩ = some (.int .i64 a10) ∧ e.out.cell? ⟨w.heap.size, 11, none⟩ = some (.int .i64 a11) ∧ e.out.cell? ⟨w.heap.size, 12, none⟩ = some (.int .i64 a12) ∧ e.out.cell? ⟨w.heap.size, 13, none⟩ = some (.int .i64 a13) ∧ e.out.cell? ⟨w.heap.size, 14, none⟩ = some (.int .i64 a14) ∧ e.out.cell? ⟨w.heap.size, 15, none⟩ = some (.int .i64 a15) ∧ e.out.cell? ⟨w.heap.size, 16, none⟩ = some (.int .i64 a16) ∧ e.out.cell? ⟨w.heap.size, 17, none⟩ = some (.int .i64 a17) := by
  intro e
  have hz : w.heap.size < (w.alloc (dates3 a0 a1 a2 a3 a4 a5 a6 a7 a8 a9 a10 a11 a12 a13 a14 a15 a16 a17)).heap.size := by simp
  refine ⟨?_, ?_, ?_, ?_, ?_, ?_, ?_, ?_, ?_, ?_, ?_, ?_, ?_, ?_, ?_, ?_, ?_, ?_⟩ <;> (rw [e.cell hz]; unfold dates3; rw [World.cell?_alloc_at _ _ _ _ rfl]; rfl)

set_option maxHeartbeats 4000000 in
theorem law_seconds (r0 r1 r2 r3 r4 r5 y m d h n s : Int) (w : World) (ht : Tab w) (hy0 : 0 ≤ y) (hy1 : y ≤ 65535) (hm0 : 0 ≤ m) (hm1 : m ≤ 255) (hd0 : 0 ≤ d) (hd1 : d ≤ 255) (hh0 : 0 ≤ h) (hh1 : h ≤ 255) (hn0 : 0 ≤ n) (hn1 : n ≤ 255) (hs0 : 0 ≤ s) (hs1 : s ≤ 255) :
    Calls Tryd.prog 4 #[.agg #[.int .i64 r0, .int .i64 r1, .int .i64 r2, .int .i64 r3, .int .i64 r4, .int .i64 r5], .int .u16 y, .int .u8 m, .int .u8 d, .int .u8 h, .int .u8 n, .int .u8 s] w fun e w' => e = .returned (.bool true) ∧ Below w.heap.size w w' := by
  go_enter Tryd.func4, Tryd.ntmps4
  go_wp2
  have hcells := dates3_cells r0 r1 r2 r3 r4 r5 (1948 + y % 8055) (m % 14) (26 + d % 8) (h % 25) (n % 61) (s % 61) (1900 + y % 500) 2 (28 + d % 3) 0 0 0 (w.alloc (dateBlock r0 r1 r2 r3 r4 r5))
  have hsz : (w.alloc (dateBlock r0 r1 r2 r3 r4 r5)).heap.size = w.heap.size + 1 := by simp
  rw [hsz] at hcells
  have ht1 : Tab (w.alloc (dateBlock r0 r1 r2 r3 r4 r5)) := ht.alloc ht.size _
  have hb1 : Below w.heap.size w (w.alloc (dateBlock r0 r1 r2 r3 r4 r5)) := (Below.refl _ _).alloc (Nat.le_refl _) _
  have hT : ∀ e : Ext ((w.alloc (dateBlock r0 r1 r2 r3 r4 r5)).alloc (dates3 r0 r1 r2 r3 r4 r5 (1948 + y % 8055) (m % 14) (26 + d % 8) (h % 25) (n % 61) (s % 61) (1900 + y % 500) 2 (28 + d % 3) 0 0 0)), Tab e.out := fun e => (ht1.alloc ht1.size _).ext (by have := ht1.size; simp) e
  have hB : ∀ e : Ext ((w.alloc (dateBlock r0 r1 r2 r3 r4 r5)).alloc (dates3 r0 r1 r2 r3 r4 r5 (1948 + y % 8055) (m % 14) (26 + d % 8) (h % 25) (n % 61) (s % 61) (1900 + y % 500) 2 (28 + d % 3) 0 0 0)), Below w.heap.size w e.out := fun e => hb1.trans ((box_below _ _ e).mono hb1.size)
  clear ht ht1 hb1 hsz
  change Code.wp _ _ _ _ ((w.alloc (dateBlock r0 r1 r2 r3 r4 r5)).alloc (dates3 r0 r1 r2 r3 r4 r5 (1948 + y % 8055) (m % 14) (26 + d % 8) (h % 25) (n % 61) (s % 61) (1900 + y % 500) 2 (28 + d % 3) 0 0 0))
  obtain ⟨e0, he0⟩ : ∃ e : Ext ((w.alloc (dateBlock r0 r1 r2 r3 r4 r5)).alloc (dates3 r0 r1 r2 r3 r4 r5 (1948 + y % 8055) (m % 14) (26 + d % 8) (h % 25) (n % 61) (s % 61) (1900 + y % 500) 2 (28 + d % 3) 0 0 0)), (w.alloc (dateBlock r0 r1 r2 r3 r4 r5)).alloc (dates3 r0 r1 r2 r3 r4 r5 (1948 + y % 8055) (m % 14) (26 + d % 8) (h % 25) (n % 61) (s % 61) (1900 + y % 500) 2 (28 + d % 3) 0 0 0) = e.out := ⟨Ext.self _, rfl⟩
  rw [he0]; clear he0
  generalize (w.alloc (dateBlock r0 r1 r2 r3 r4 r5)).alloc (dates3 r0 r1 r2 r3 r4 r5 (1948 + y % 8055) (m % 14) (26 + d % 8) (h % 25) (n % 61) (s % 61) (1900 + y % 500) 2 (28 + d % 3) 0 0 0) = W at *
  go_loopw [56] (fun i wr => ∃ j : Nat, j ≤ 3 ∧ i = .int .i64 j ∧ ∃ e : Ext W, wr = e.out) (fun i _ => 3 - (intOf i).toNat)
  case atStart => exact ⟨0, by omega, rfl, e0, rfl⟩
  case round =>
    obtain ⟨j, hj, rfl, e1, rfl⟩ := hrel
    have hc := hcells e1
    clear hcells
    by_cases hlt : j < 3
    · have hjj : j = 0 ∨ j = 1 ∨ j = 2 := by omega
      rcases hjj with rfl | rfl | rfl

      · 
        have k0 := hc.1
        have k1 := hc.2.1
        have k2 := hc.2.2.1
        have k3 := hc.2.2.2.1
        have k4 := hc.2.2.2.2.1
        have k5 := hc.2.2.2.2.2.1
        clear hc
        by_cases v : Cal.Vld r0 r1 r2 r3 r4 r5
        · go_wp2_with fail
          change Calls _ _ _ (e1.out.alloc (dateBlock r0 r1 r2 r3 r4 r5)) _
          have hX := date_cells r0 r1 r2 r3 r4 r5 e1.out
          have x0 := fun e => (hX e).1
          have x1 := fun e => (hX e).2.1
          have x2 := fun e => (hX e).2.2.1
          have x3 := fun e => (hX e).2.2.2.1
          have x4 := fun e => (hX e).2.2.2.2.1
          have x5 := fun e => (hX e).2.2.2.2.2
          have hN : ∀ e : Ext (e1.out.alloc (dateBlock r0 r1 r2 r3 r4 r5)), ∃ e' : Ext W, e.out = e'.out := fun e => e1.next (box_below _ _ e)
          have hzN : ∀ e : Ext (e1.out.alloc (dateBlock r0 r1 r2 r3 r4 r5)), e1.out.heap.size < e.out.heap.size := fun e => by have := e.bel.size; simp at this; omega
          have hTN : ∀ e : Ext (e1.out.alloc (dateBlock r0 r1 r2 r3 r4 r5)), Tab e.out := fun e => by obtain ⟨e', he'⟩ := hN e; rw [he']; exact hT e'
          obtain ⟨f0, hf0⟩ : ∃ e : Ext (e1.out.alloc (dateBlock r0 r1 r2 r3 r4 r5)), e1.out.alloc (dateBlock r0 r1 r2 r3 r4 r5) = e.out := ⟨Ext.self _, rfl⟩
          rw [hf0]; clear hf0 hX
          generalize e1.out.alloc (dateBlock r0 r1 r2 r3 r4 r5) = X at *
          go_at_call 12
          refine (secs_good r0 r1 r2 r3 r4 r5 _ (hTN _) v).mono ?_
          rintro e w2 ⟨rfl, hb2⟩
          obtain ⟨f1, rfl⟩ := f0.next hb2
          clear hb2
          go_wp2_with fail
          go_at_call 14
          refine (rsecs_good r0 r1 r2 r3 r4 r5 _ v).mono ?_
          rintro e w3 ⟨rfl, hb3⟩
          obtain ⟨f2, rfl⟩ := f1.next hb3
          clear hb3
          go_wp2_with fail
          go_at_call 10
          refine (civil_of r0 r1 r2 r3 r4 r5 _ (hTN _) v).mono ?_
          rintro e w4 ⟨rfl, hb4⟩
          obtain ⟨f3, rfl⟩ := f2.next hb4
          clear hb4
          have y0 := x0 f3
          have y1 := x1 f3
          have y2 := x2 f3
          have y3 := x3 f3
          have y4 := x4 f3
          have y5 := x5 f3
          have yz := hzN f3
          obtain ⟨e5, he5⟩ := hN f3
          have he6 := e5.next ((Below.refl e5.out.heap.size e5.out).alloc (Nat.le_refl _) (dateBlock r0 r1 r2 r3 r4 r5))
          rw [← he5] at he6
          have HE := Lib.hid he6
          clear x0 x1 x2 x3 x4 x5 hN hzN hTN he5 he6 e5
          go_wp2
          go_roundw
          case rel => exact ⟨0 + 1, by omega, rfl, HE.out⟩
          case measure => simp [intOf]
        · go_wp2_with fail
          change Calls _ _ _ (e1.out.alloc (dateBlock r0 r1 r2 r3 r4 r5)) _
          have hX := date_cells r0 r1 r2 r3 r4 r5 e1.out
          have x0 := fun e => (hX e).1
          have x1 := fun e => (hX e).2.1
          have x2 := fun e => (hX e).2.2.1
          have x3 := fun e => (hX e).2.2.2.1
          have x4 := fun e => (hX e).2.2.2.2.1
          have x5 := fun e => (hX e).2.2.2.2.2
          have hN : ∀ e : Ext (e1.out.alloc (dateBlock r0 r1 r2 r3 r4 r5)), ∃ e' : Ext W, e.out = e'.out := fun e => e1.next (box_below _ _ e)
          have hzN : ∀ e : Ext (e1.out.alloc (dateBlock r0 r1 r2 r3 r4 r5)), e1.out.heap.size < e.out.heap.size := fun e => by have := e.bel.size; simp at this; omega
          have hTN : ∀ e : Ext (e1.out.alloc (dateBlock r0 r1 r2 r3 r4 r5)), Tab e.out := fun e => by obtain ⟨e', he'⟩ := hN e; rw [he']; exact hT e'
          obtain ⟨f0, hf0⟩ : ∃ e : Ext (e1.out.alloc (dateBlock r0 r1 r2 r3 r4 r5)), e1.out.alloc (dateBlock r0 r1 r2 r3 r4 r5) = e.out := ⟨Ext.self _, rfl⟩
          rw [hf0]; clear hf0 hX
          generalize e1.out.alloc (dateBlock r0 r1 r2 r3 r4 r5) = X at *
          go_at_call 12
          refine (secs_bad r0 r1 r2 r3 r4 r5 _ (hTN _) v).mono ?_
          rintro e w2 ⟨rfl, hb2⟩
          obtain ⟨f1, rfl⟩ := f0.next hb2
          clear hb2
          go_wp2_with fail
          go_at_call 14
          refine (rsecs_bad r0 r1 r2 r3 r4 r5 _ v).mono ?_
          rintro e w3 ⟨rfl, hb3⟩
          obtain ⟨f2, rfl⟩ := f1.next hb3
          clear hb3
          have HE := Lib.hid (hN f2)
          clear x0 x1 x2 x3 x4 x5 hN hzN hTN
          go_wp2
          go_roundw
          case rel => exact ⟨0 + 1, by omega, rfl, HE.out⟩
          case measure => simp [intOf]
      · 
        have k0 := hc.2.2.2.2.2.2.1
        have k1 := hc.2.2.2.2.2.2.2.1
        have k2 := hc.2.2.2.2.2.2.2.2.1
        have k3 := hc.2.2.2.2.2.2.2.2.2.1
        have k4 := hc.2.2.2.2.2.2.2.2.2.2.1
        have k5 := hc.2.2.2.2.2.2.2.2.2.2.2.1
        clear hc
        by_cases v : Cal.Vld (1948 + y % 8055) (m % 14) (26 + d % 8) (h % 25) (n % 61) (s % 61)
        · go_wp2_with fail
          change Calls _ _ _ (e1.out.alloc (dateBlock (1948 + y % 8055) (m % 14) (26 + d % 8) (h % 25) (n % 61) (s % 61))) _
          have hX := date_cells (1948 + y % 8055) (m % 14) (26 + d % 8) (h % 25) (n % 61) (s % 61) e1.out
          have x0 := fun e => (hX e).1
          have x1 := fun e => (hX e).2.1
          have x2 := fun e => (hX e).2.2.1
          have x3 := fun e => (hX e).2.2.2.1
          have x4 := fun e => (hX e).2.2.2.2.1
          have x5 := fun e => (hX e).2.2.2.2.2
          have hN : ∀ e : Ext (e1.out.alloc (dateBlock (1948 + y % 8055) (m % 14) (26 + d % 8) (h % 25) (n % 61) (s % 61))), ∃ e' : Ext W, e.out = e'.out := fun e => e1.next (box_below _ _ e)
          have hzN : ∀ e : Ext (e1.out.alloc (dateBlock (1948 + y % 8055) (m % 14) (26 + d % 8) (h % 25) (n % 61) (s % 61))), e1.out.heap.size < e.out.heap.size := fun e => by have := e.bel.size; simp at this; omega
          have hTN : ∀ e : Ext (e1.out.alloc (dateBlock (1948 + y % 8055) (m % 14) (26 + d % 8) (h % 25) (n % 61) (s % 61))), Tab e.out := fun e => by obtain ⟨e', he'⟩ := hN e; rw [he']; exact hT e'
          obtain ⟨f0, hf0⟩ : ∃ e : Ext (e1.out.alloc (dateBlock (1948 + y % 8055) (m % 14) (26 + d % 8) (h % 25) (n % 61) (s % 61))), e1.out.alloc (dateBlock (1948 + y % 8055) (m % 14) (26 + d % 8) (h % 25) (n % 61) (s % 61)) = e.out := ⟨Ext.self _, rfl⟩
          rw [hf0]; clear hf0 hX
          generalize e1.out.alloc (dateBlock (1948 + y % 8055) (m % 14) (26 + d % 8) (h % 25) (n % 61) (s % 61)) = X at *
          go_at_call 12
          refine (secs_good (1948 + y % 8055) (m % 14) (26 + d % 8) (h % 25) (n % 61) (s % 61) _ (hTN _) v).mono ?_
          rintro e w2 ⟨rfl, hb2⟩
          obtain ⟨f1, rfl⟩ := f0.next hb2
          clear hb2
          go_wp2_with fail
          go_at_call 14
          refine (rsecs_good (1948 + y % 8055) (m % 14) (26 + d % 8) (h % 25) (n % 61) (s % 61) _ v).mono ?_
          rintro e w3 ⟨rfl, hb3⟩
          obtain ⟨f2, rfl⟩ := f1.next hb3
          clear hb3
          go_wp2_with fail
          go_at_call 10
          refine (civil_of (1948 + y % 8055) (m % 14) (26 + d % 8) (h % 25) (n % 61) (s % 61) _ (hTN _) v).mono ?_
          rintro e w4 ⟨rfl, hb4⟩
          obtain ⟨f3, rfl⟩ := f2.next hb4
          clear hb4
          have y0 := x0 f3
          have y1 := x1 f3
          have y2 := x2 f3
          have y3 := x3 f3
          have y4 := x4 f3
          have y5 := x5 f3
          have yz := hzN f3
          obtain ⟨e5, he5⟩ := hN f3
          have he6 := e5.next ((Below.refl e5.out.heap.size e5.out).alloc (Nat.le_refl _) (dateBlock (1948 + y % 8055) (m % 14) (26 + d % 8) (h % 25) (n % 61) (s % 61)))
          rw [← he5] at he6
          have HE := Lib.hid he6
          clear x0 x1 x2 x3 x4 x5 hN hzN hTN he5 he6 e5
          go_wp2
          go_roundw
          case rel => exact ⟨1 + 1, by omega, rfl, HE.out⟩
          case measure => simp [intOf]
        · go_wp2_with fail
          change Calls _ _ _ (e1.out.alloc (dateBlock (1948 + y % 8055) (m % 14) (26 + d % 8) (h % 25) (n % 61) (s % 61))) _
          have hX := date_cells (1948 + y % 8055) (m % 14) (26 + d % 8) (h % 25) (n % 61) (s % 61) e1.out
          have x0 := fun e => (hX e).1
          have x1 := fun e => (hX e).2.1
          have x2 := fun e => (hX e).2.2.1
          have x3 := fun e => (hX e).2.2.2.1
          have x4 := fun e => (hX e).2.2.2.2.1
          have x5 := fun e => (hX e).2.2.2.2.2
          have hN : ∀ e : Ext (e1.out.alloc (dateBlock (1948 + y % 8055) (m % 14) (26 + d % 8) (h % 25) (n % 61) (s % 61))), ∃ e' : Ext W, e.out = e'.out := fun e => e1.next (box_below _ _ e)
          have hzN : ∀ e : Ext (e1.out.alloc (dateBlock (1948 + y % 8055) (m % 14) (26 + d % 8) (h % 25) (n % 61) (s % 61))), e1.out.heap.size < e.out.heap.size := fun e => by have := e.bel.size; simp at this; omega
          have hTN : ∀ e : Ext (e1.out.alloc (dateBlock (1948 + y % 8055) (m % 14) (26 + d % 8) (h % 25) (n % 61) (s % 61))), Tab e.out := fun e => by obtain ⟨e', he'⟩ := hN e; rw [he']; exact hT e'
          obtain ⟨f0, hf0⟩ : ∃ e : Ext (e1.out.alloc (dateBlock (1948 + y % 8055) (m % 14) (26 + d % 8) (h % 25) (n % 61) (s % 61))), e1.out.alloc (dateBlock (1948 + y % 8055) (m % 14) (26 + d % 8) (h % 25) (n % 61) (s % 61)) = e.out := ⟨Ext.self _, rfl⟩
          rw [hf0]; clear hf0 hX
          generalize e1.out.alloc (dateBlock (1948 + y % 8055) (m % 14) (26 + d % 8) (h % 25) (n % 61) (s % 61)) = X at *
          go_at_call 12
          refine (secs_bad (1948 + y % 8055) (m % 14) (26 + d % 8) (h % 25) (n % 61) (s % 61) _ (hTN _) v).mono ?_
          rintro e w2 ⟨rfl, hb2⟩
          obtain ⟨f1, rfl⟩ := f0.next hb2
          clear hb2
          go_wp2_with fail
          go_at_call 14
          refine (rsecs_bad (1948 + y % 8055) (m % 14) (26 + d % 8) (h % 25) (n % 61) (s % 61) _ v).mono ?_
          rintro e w3 ⟨rfl, hb3⟩
          obtain ⟨f2, rfl⟩ := f1.next hb3
          clear hb3
          have HE := Lib.hid (hN f2)
          clear x0 x1 x2 x3 x4 x5 hN hzN hTN
          go_wp2
          go_roundw
          case rel => exact ⟨1 + 1, by omega, rfl, HE.out⟩
          case measure => simp [intOf]
      · 
        have k0 := hc.2.2.2.2.2.2.2.2.2.2.2.2.1
        have k1 := hc.2.2.2.2.2.2.2.2.2.2.2.2.2.1
        have k2 := hc.2.2.2.2.2.2.2.2.2.2.2.2.2.2.1
        have k3 := hc.2.2.2.2.2.2.2.2.2.2.2.2.2.2.2.1
        have k4 := hc.2.2.2.2.2.2.2.2.2.2.2.2.2.2.2.2.1
        have k5 := hc.2.2.2.2.2.2.2.2.2.2.2.2.2.2.2.2.2
        clear hc
        by_cases v : Cal.Vld (1900 + y % 500) 2 (28 + d % 3) 0 0 0
        · go_wp2_with fail
          change Calls _ _ _ (e1.out.alloc (dateBlock (1900 + y % 500) 2 (28 + d % 3) 0 0 0)) _
          have hX := date_cells (1900 + y % 500) 2 (28 + d % 3) 0 0 0 e1.out
          have x0 := fun e => (hX e).1
          have x1 := fun e => (hX e).2.1
          have x2 := fun e => (hX e).2.2.1
          have x3 := fun e => (hX e).2.2.2.1
          have x4 := fun e => (hX e).2.2.2.2.1
          have x5 := fun e => (hX e).2.2.2.2.2
          have hN : ∀ e : Ext (e1.out.alloc (dateBlock (1900 + y % 500) 2 (28 + d % 3) 0 0 0)), ∃ e' : Ext W, e.out = e'.out := fun e => e1.next (box_below _ _ e)
          have hzN : ∀ e : Ext (e1.out.alloc (dateBlock (1900 + y % 500) 2 (28 + d % 3) 0 0 0)), e1.out.heap.size < e.out.heap.size := fun e => by have := e.bel.size; simp at this; omega
          have hTN : ∀ e : Ext (e1.out.alloc (dateBlock (1900 + y % 500) 2 (28 + d % 3) 0 0 0)), Tab e.out := fun e => by obtain ⟨e', he'⟩ := hN e; rw [he']; exact hT e'
          obtain ⟨f0, hf0⟩ : ∃ e : Ext (e1.out.alloc (dateBlock (1900 + y % 500) 2 (28 + d % 3) 0 0 0)), e1.out.alloc (dateBlock (1900 + y % 500) 2 (28 + d % 3) 0 0 0) = e.out := ⟨Ext.self _, rfl⟩
          rw [hf0]; clear hf0 hX
          generalize e1.out.alloc (dateBlock (1900 + y % 500) 2 (28 + d % 3) 0 0 0) = X at *
          go_at_call 12
          refine (secs_good (1900 + y % 500) 2 (28 + d % 3) 0 0 0 _ (hTN _) v).mono ?_
          rintro e w2 ⟨rfl, hb2⟩
          obtain ⟨f1, rfl⟩ := f0.next hb2
          clear hb2
          go_wp2_with fail
          go_at_call 14
          refine (rsecs_good (1900 + y % 500) 2 (28 + d % 3) 0 0 0 _ v).mono ?_
          rintro e w3 ⟨rfl, hb3⟩
          obtain ⟨f2, rfl⟩ := f1.next hb3
          clear hb3
          go_wp2_with fail
          go_at_call 10
          refine (civil_of (1900 + y % 500) 2 (28 + d % 3) 0 0 0 _ (hTN _) v).mono ?_
          rintro e w4 ⟨rfl, hb4⟩
          obtain ⟨f3, rfl⟩ := f2.next hb4
          clear hb4
          have y0 := x0 f3
          have y1 := x1 f3
          have y2 := x2 f3
          have y3 := x3 f3
          have y4 := x4 f3
          have y5 := x5 f3
          have yz := hzN f3
          obtain ⟨e5, he5⟩ := hN f3
          have he6 := e5.next ((Below.refl e5.out.heap.size e5.out).alloc (Nat.le_refl _) (dateBlock (1900 + y % 500) 2 (28 + d % 3) 0 0 0))
          rw [← he5] at he6
          have HE := Lib.hid he6
          clear x0 x1 x2 x3 x4 x5 hN hzN hTN he5 he6 e5
          go_wp2
          go_roundw
          case rel => exact ⟨2 + 1, by omega, rfl, HE.out⟩
          case measure => simp [intOf]
        · go_wp2_with fail
          change Calls _ _ _ (e1.out.alloc (dateBlock (1900 + y % 500) 2 (28 + d % 3) 0 0 0)) _
          have hX := date_cells (1900 + y % 500) 2 (28 + d % 3) 0 0 0 e1.out
          have x0 := fun e => (hX e).1
          have x1 := fun e => (hX e).2.1
          have x2 := fun e => (hX e).2.2.1
          have x3 := fun e => (hX e).2.2.2.1
          have x4 := fun e => (hX e).2.2.2.2.1
          have x5 := fun e => (hX e).2.2.2.2.2
          have hN : ∀ e : Ext (e1.out.alloc (dateBlock (1900 + y % 500) 2 (28 + d % 3) 0 0 0)), ∃ e' : Ext W, e.out = e'.out := fun e => e1.next (box_below _ _ e)
          have hzN : ∀ e : Ext (e1.out.alloc (dateBlock (1900 + y % 500) 2 (28 + d % 3) 0 0 0)), e1.out.heap.size < e.out.heap.size := fun e => by have := e.bel.size; simp at this; omega
          have hTN : ∀ e : Ext (e1.out.alloc (dateBlock (1900 + y % 500) 2 (28 + d % 3) 0 0 0)), Tab e.out := fun e => by obtain ⟨e', he'⟩ := hN e; rw [he']; exact hT e'
          obtain ⟨f0, hf0⟩ : ∃ e : Ext (e1.out.alloc (dateBlock (1900 + y % 500) 2 (28 + d % 3) 0 0 0)), e1.out.alloc (dateBlock (1900 + y % 500) 2 (28 + d % 3) 0 0 0) = e.out := ⟨Ext.self _, rfl⟩
          rw [hf0]; clear hf0 hX
          generalize e1.out.alloc (dateBlock (1900 + y % 500) 2 (28 + d % 3) 0 0 0) = X at *
          go_at_call 12
          refine (secs_bad (1900 + y % 500) 2 (28 + d % 3) 0 0 0 _ (hTN _) v).mono ?_
          rintro e w2 ⟨rfl, hb2⟩
          obtain ⟨f1, rfl⟩ := f0.next hb2
          clear hb2
          go_wp2_with fail
          go_at_call 14
          refine (rsecs_bad (1900 + y % 500) 2 (28 + d % 3) 0 0 0 _ v).mono ?_
          rintro e w3 ⟨rfl, hb3⟩
          obtain ⟨f2, rfl⟩ := f1.next hb3
          clear hb3
          have HE := Lib.hid (hN f2)
          clear x0 x1 x2 x3 x4 x5 hN hzN hTN
          go_wp2
          go_roundw
          case rel => exact ⟨2 + 1, by omega, rfl, HE.out⟩
          case measure => simp [intOf]
    · clear hc
      go_wp2_with fail
      go_at_call 13
      refine (awake_any _ (hT _)).mono ?_
      rintro e w2 ⟨rfl, hb2⟩
      obtain ⟨e2, rfl⟩ := e1.next hb2
      go_wp2
      go_ret
      exact ⟨rfl, hB e2⟩

end Go.Proofs.YtmmoimemfdbfgaaDoor