/-
  made2.Change. (Written by wip/gen/gen_pbch.py.)
-/
import Derived.Test.YtpagoinnkknkfaaPbOpen
import Derived.Test.YtpagoinnkknkfaaDeck
namespace Go.Proofs.Ytpagoinnkknkfaa.Pb
open Go Go.RowKit Go.Shelf Go.Proofs.Ytpagoinnkknkfaa.Slc
set_option linter.unusedVariables false
set_option linter.unusedSimpArgs false
attribute [local go_sem] Oper.semAt_some

theorem grown_row {w w' : World} {g p : Nat} {c : Array Value} {t : TypeId} (h : w.grownBy w' (some g)) (hr : w.heap[p]? = some (.cells c t (0, 0))) (hne : p ≠ g) : w'.heap[p]? = some (.cells c t (0, 0)) :=
  (h.block p (lt_of_block hr) (fun e => hne (by simpa using e))).trans hr
theorem grown_alloc {w w' : World} {g : Nat} (h : w.grownBy w' (some g)) (o : Obj) : w.grownBy (w'.alloc o) (some g) := h.trans (World.grownBy_alloc _ _ _)
theorem grown_new {w w' : World} {g q : Nat} (h : w.grownBy w' (some g)) (hq : w.heap.size ≤ q) (i : Nat) (u : Value) : w.grownBy (w'.setCell ⟨q, i, none⟩ u) (some g) :=
  ⟨h.os, h.tape, h.output, by have := h.size; simp [World.setCell]; exact this, fun k hk hne => (Below.heap_setCell w' ⟨q, i, none⟩ u k (fun e => by simp at e; omega)).trans (h.block k hk hne)⟩
theorem deck_set {W0 : World} {v : Value} {zs : List Int} {w : World} {g q i : Nat} {u : Value} (h : Deck W0 v zs w g) (hne : q ≠ g) (hq : W0.heap.size ≤ q) : Deck W0 v zs (w.setCell ⟨q, i, none⟩ u) g := by
  have hb : (w.setCell ⟨q, i, none⟩ u).heap[g]? = w.heap[g]? := Below.heap_setCell w ⟨q, i, none⟩ u g (fun e => hne (by simp at e; exact e.symm))
  obtain ⟨k, hk, hc⟩ := h.c1
  exact ⟨h.ints, h.bel.setCell hq _, h.ge, by have := h.c0; unfold World.cell? at this ⊢; rw [hb]; exact this, ⟨k, hk, by unfold World.cell? at hc ⊢; rw [hb]; exact hc⟩, fun k => by have := h.fr k; unfold World.frozen? at this ⊢; rw [hb]; exact this, by simpa using h.lt⟩
/-- the serials that made2 writes -/
def I5 (s : Int) : Prop := 0 ≤ s ∧ s ≤ 5
theorem I5.i64 {s : Int} (h : I5 s) : I64 s := ⟨by have := h.1; omega, by have := h.2; omega⟩
set_option maxRecDepth 100000 in
set_option maxHeartbeats 8000000 in
theorem change_any (W0 : World) (v : Value) (zs : List Int) (w : World) (g : Nat) (last : Int) (h : Deck W0 v zs w g) :
    Calls Try.prog 15 #[.pointer (some ⟨g, 0, none⟩), .int .i64 last] w fun e w' => ∃ c : Ch, e = .returned (chV c) ∧ I5 c.s ∧ Deck W0 v zs w' g ∧ w.grownBy w' (some g) := by
  have hgl := h.lt
  have hw0 := h.bel.size
  obtain ⟨wa, hwa⟩ : ∃ wa, wa = w.alloc (.cells #[.int .i64 0, .int .i64 0, .int .i64 0, .int .i64 0] 24) := ⟨_, rfl⟩
  have hDa : Deck W0 v zs wa g := by rw [hwa]; exact h.below ((Below.refl _ _).alloc (Nat.le_refl _) _)
  have hga : w.grownBy wa (some g) := by rw [hwa]; exact World.grownBy_alloc _ _ _
  have hra : wa.heap[w.heap.size]? = some (.cells #[.int .i64 0, .int .i64 0, .int .i64 0, .int .i64 0] 24 (0, 0)) := by rw [hwa]; exact heap_alloc_new _ _
  go_enter Try.func15, Try.ntmps15
  go_wp2_with fail
  rw [← hwa]
  clear hwa h
  obtain ⟨p, hp⟩ : ∃ p, p = w.heap.size := ⟨_, rfl⟩
  have HP := Bx.mk hp
  rw [← hp] at hra hgl hw0 ⊢
  clear hp
  refine (next_any W0 v zs wa g 5 hDa (by omega) (by omega)).mono ?_
  rintro e w1 ⟨r1, rfl, a1, b1, hD1, hg1⟩
  have hr1 := grown_row hg1 hra (by omega)
  have hg1 := hga.trans hg1
  clear hDa hga hra
  go_wp2_with fail
  refine (next_any W0 v zs w1 g 4 hD1 (by omega) (by omega)).mono ?_
  rintro e w2 ⟨r2, rfl, a2, b2, hD2, hg2⟩
  have hr2 := grown_row hg2 hr1 (by omega)
  have hg2 := hg1.trans hg2
  clear hD1 hg1 hr1
  obtain ⟨wb, hwb⟩ : ∃ wb, wb = w2.alloc (.cells #[.int .i64 6, .int .i64 8, .int .i64 1, .int .i64 0, .int .i64 6, .int .i64 8, .int .i64 4, .int .i64 9, .int .i64 10, .int .i64 5, .int .i64 2, .int .i64 3, .int .i64 7, .int .i64 11] 3) := ⟨_, rfl⟩
  have hDb : Deck W0 v zs wb g := by rw [hwb]; exact hD2.below ((Below.refl _ _).alloc (Nat.le_refl _) _)
  have hgb : w.grownBy wb (some g) := by rw [hwb]; exact grown_alloc hg2 _
  have hrb : wb.heap[p]? = some (.cells #[.int .i64 0, .int .i64 0, .int .i64 0, .int .i64 0] 24 (0, 0)) := by rw [hwb]; exact alloc_keep hr2
  have hqb : wb.heap[w2.heap.size]? = some (.cells #[.int .i64 6, .int .i64 8, .int .i64 1, .int .i64 0, .int .i64 6, .int .i64 8, .int .i64 4, .int .i64 9, .int .i64 10, .int .i64 5, .int .i64 2, .int .i64 3, .int .i64 7, .int .i64 11] 3 (0, 0)) := by rw [hwb]; exact heap_alloc_new _ _
  go_wp2_with fail
  rw [← hwb]
  clear hwb
  have hgw2 := hD2.lt
  refine (next_any W0 v zs wb g 14 hDb (by omega) (by omega)).mono ?_
  rintro e w3 ⟨r3, rfl, a3, b3, hD3, hg3⟩
  have hr3 := grown_row hg3 hrb (by omega)
  have hq3 := grown_row hg3 hqb (by omega)
  have hg3 := hgb.trans hg3
  obtain ⟨n3, rfl⟩ : ∃ n3 : Nat, r3 = (n3 : Int) := ⟨r3.toNat, by omega⟩
  obtain ⟨R, hR⟩ : ∃ R : Int, w3.cell? ⟨w2.heap.size, n3, none⟩ = some (.int .i64 R) := by
    rw [cell_of_row _ _ n3 _ _ _ hq3]
    have : n3 = 0 ∨ n3 = 1 ∨ n3 = 2 ∨ n3 = 3 ∨ n3 = 4 ∨ n3 = 5 ∨ n3 = 6 ∨ n3 = 7 ∨ n3 = 8 ∨ n3 = 9 ∨ n3 = 10 ∨ n3 = 11 ∨ n3 = 12 ∨ n3 = 13 := by omega
    rcases this with rfl | rfl | rfl | rfl | rfl | rfl | rfl | rfl | rfl | rfl | rfl | rfl | rfl | rfl <;> exact ⟨_, rfl⟩
  clear hDb hgb hrb hqb hq3 hD2 hg2 hr2
  have hA : I5 (1 + r1) := ⟨by omega, by omega⟩
  have hpw3 := lt_of_block hr3
  have hgw3 := hD3.lt
  have hwp : w.heap.size ≤ p := by have := HP.out; omega
  go_wp2_with fail
  generalize 1 + r1 = A at *
  generalize wrap64 (last + r2) = T at *
  obtain ⟨x, hx⟩ : ∃ x, x = w3.heap.size := ⟨_, rfl⟩
  obtain ⟨wc, hwc⟩ : ∃ wc, wc = w3.alloc (.cells #[.int .i64 A, .int .i64 T, .int .i64 R, .int .i64 (-1)] 24) := ⟨_, rfl⟩
  have hDc : Deck W0 v zs wc g := by rw [hwc]; exact hD3.below ((Below.refl _ _).alloc (Nat.le_refl _) _)
  have hgc : w.grownBy wc (some g) := by rw [hwc]; exact grown_alloc hg3 _
  have hrc : wc.heap[p]? = some (.cells #[.int .i64 0, .int .i64 0, .int .i64 0, .int .i64 0] 24 (0, 0)) := by rw [hwc]; exact alloc_keep hr3
  have hxc : wc.heap[x]? = some (.cells #[.int .i64 A, .int .i64 T, .int .i64 R, .int .i64 (-1)] 24 (0, 0)) := by rw [hwc, hx]; exact heap_alloc_new _ _
  rw [← hwc]
  rw [← hx] at hpw3 hgw3 ⊢
  clear hwc hx hD3 hg3 hr3 hR a1 b1 a2 b2 a3 b3
  have hxp : x ≠ p := by omega
  have hpx : p ≠ x := by omega
  refine (next_any W0 v zs wc g 5 hDc (by omega) (by omega)).mono ?_
  rintro e w4 ⟨r4, rfl, a4, b4, hD4, hg4⟩
  have hr4 := grown_row hg4 hrc (by omega)
  have hx4 := grown_row hg4 hxc (by omega)
  have hg4 := hgc.trans hg4
  clear hDc hgc hrc hxc
  by_cases k4 : r4 = 1
  · have t4 : (r4 == 1) = true := by simp [k4]
    clear k4
    go_wp2_with fail
    refine (next_any W0 v zs w4 g 20 hD4 (by omega) (by omega)).mono ?_
    rintro e w5 ⟨r5, rfl, a5, b5, hD5, hg5⟩
    have hr5 := grown_row hg5 hr4 (by omega)
    have hx5 := grown_row hg5 hx4 (by omega)
    have hg5 := hg4.trans hg5
    clear hD4 hg4 hr4 hx4
    have x0 := cell_of_row _ _ 0 _ _ _ hx5
    have x1 := cell_of_row _ _ 1 _ _ _ hx5
    have x2 := cell_of_row _ _ 2 _ _ _ hx5
    have x3 := cell_of_row _ _ 3 _ _ _ hx5
    simp only [List.getElem?_toArray, List.getElem?_cons_zero, List.getElem?_cons_succ] at x0 x1 x2 x3
    have y0 := frozen_row (i := 0) hx5
    have y1 := frozen_row (i := 1) hx5
    have y2 := frozen_row (i := 2) hx5
    have y3 := frozen_row (i := 3) hx5
    have hxw5 := lt_of_block hx5
    go_wp2_with fail
    clear x0 x1 x2 x3 y0 y1 y2 y3
    obtain ⟨w6, hw6⟩ : ∃ w6, w6 = w5.setCell ⟨x, 3, none⟩ (.int .i64 r5) := ⟨_, rfl⟩
    have hD6 : Deck W0 v zs w6 g := by rw [hw6]; exact deck_set hD5 (by omega) (by omega)
    have hg6 : w.grownBy w6 (some g) := by rw [hw6]; exact grown_new hg5 (by omega) _ _
    have hr6 : w6.heap[p]? = some (.cells #[.int .i64 0, .int .i64 0, .int .i64 0, .int .i64 0] 24 (0, 0)) := by rw [hw6]; exact row_other hr5 (by omega) _
    have hx6 : w6.heap[x]? = some (.cells #[.int .i64 A, .int .i64 T, .int .i64 R, .int .i64 r5] 24 (0, 0)) := by rw [hw6]; exact row_set hx5 _
    rw [← hw6]
    clear hw6 hD5 hg5 hr5 hx5
    refine (next_any W0 v zs w6 g 40 hD6 (by omega) (by omega)).mono ?_
    rintro e w7 ⟨r7, rfl, a7, b7, hD7, hg7⟩
    have hr7 := grown_row hg7 hr6 (by omega)
    have hx7 := grown_row hg7 hx6 (by omega)
    have hg7 := hg6.trans hg7
    clear hD6 hg6 hr6 hx6
    have x0 := cell_of_row _ _ 0 _ _ _ hx7
    have x1 := cell_of_row _ _ 1 _ _ _ hx7
    have x2 := cell_of_row _ _ 2 _ _ _ hx7
    have x3 := cell_of_row _ _ 3 _ _ _ hx7
    simp only [List.getElem?_toArray, List.getElem?_cons_zero, List.getElem?_cons_succ] at x0 x1 x2 x3
    have y0 := frozen_row (i := 0) hx7
    have y1 := frozen_row (i := 1) hx7
    have y2 := frozen_row (i := 2) hx7
    have y3 := frozen_row (i := 3) hx7
    have p0 := cell_of_row _ _ 0 _ _ _ hr7
    have p1 := cell_of_row _ _ 1 _ _ _ hr7
    have p2 := cell_of_row _ _ 2 _ _ _ hr7
    have p3 := cell_of_row _ _ 3 _ _ _ hr7
    simp only [List.getElem?_toArray, List.getElem?_cons_zero, List.getElem?_cons_succ] at p0 p1 p2 p3
    have z0 := frozen_row (i := 0) hr7
    have z1 := frozen_row (i := 1) hr7
    have z2 := frozen_row (i := 2) hr7
    have z3 := frozen_row (i := 3) hr7
    by_cases k1 : r7 = 1
    · have t1 : (r7 == 1) = true := by simp [k1]
      clear k1
      go_wp2_with fail
      refine bodyPost_ret (v := .agg #[.int .i64 A, .int .i64 (wrap64 (last - 1)), .int .i64 R, .int .i64 r5]) (by simp [results, Try.results15, go_sem, p0, p1, p2, p3, hxp, hpx]) rfl ⟨⟨A, (wrap64 (last - 1)), R, r5⟩, rfl, hA, ?_, ?_⟩
      · repeat' first | exact hD7 | refine deck_set ?_ (by omega) (by omega)
      · repeat' first | exact hg7 | refine grown_new ?_ (by omega) _ _
    have t1 : (r7 == 1) = false := by simpa using k1
    by_cases k2 : r7 = 2
    · have t2 : (r7 == 2) = true := by simp [k2]
      clear k1 k2
      go_wp2_with fail
      refine bodyPost_ret (v := .agg #[.int .i64 0, .int .i64 T, .int .i64 R, .int .i64 r5]) (by simp [results, Try.results15, go_sem, p0, p1, p2, p3, hxp, hpx]) rfl ⟨⟨0, T, R, r5⟩, rfl, (show I5 0 from ⟨by decide, by decide⟩), ?_, ?_⟩
      · repeat' first | exact hD7 | refine deck_set ?_ (by omega) (by omega)
      · repeat' first | exact hg7 | refine grown_new ?_ (by omega) _ _
    have t2 : (r7 == 2) = false := by simpa using k2
    clear k1 k2
    go_wp2_with fail
    refine bodyPost_ret (v := .agg #[.int .i64 A, .int .i64 T, .int .i64 R, .int .i64 r5]) (by simp [results, Try.results15, go_sem, p0, p1, p2, p3, hxp, hpx]) rfl ⟨⟨A, T, R, r5⟩, rfl, hA, ?_, ?_⟩
    · repeat' first | exact hD7 | refine deck_set ?_ (by omega) (by omega)
    · repeat' first | exact hg7 | refine grown_new ?_ (by omega) _ _
  · have t4 : (r4 == 1) = false := by simpa using k4
    clear k4
    go_wp2_with fail
    refine (next_any W0 v zs w4 g 40 hD4 (by omega) (by omega)).mono ?_
    rintro e w7 ⟨r7, rfl, a7, b7, hD7, hg7⟩
    have hr7 := grown_row hg7 hr4 (by omega)
    have hx7 := grown_row hg7 hx4 (by omega)
    have hg7 := hg4.trans hg7
    clear hD4 hg4 hr4 hx4
    have x0 := cell_of_row _ _ 0 _ _ _ hx7
    have x1 := cell_of_row _ _ 1 _ _ _ hx7
    have x2 := cell_of_row _ _ 2 _ _ _ hx7
    have x3 := cell_of_row _ _ 3 _ _ _ hx7
    simp only [List.getElem?_toArray, List.getElem?_cons_zero, List.getElem?_cons_succ] at x0 x1 x2 x3
    have y0 := frozen_row (i := 0) hx7
    have y1 := frozen_row (i := 1) hx7
    have y2 := frozen_row (i := 2) hx7
    have y3 := frozen_row (i := 3) hx7
    have p0 := cell_of_row _ _ 0 _ _ _ hr7
    have p1 := cell_of_row _ _ 1 _ _ _ hr7
    have p2 := cell_of_row _ _ 2 _ _ _ hr7
    have p3 := cell_of_row _ _ 3 _ _ _ hr7
    simp only [List.getElem?_toArray, List.getElem?_cons_zero, List.getElem?_cons_succ] at p0 p1 p2 p3
    have z0 := frozen_row (i := 0) hr7
    have z1 := frozen_row (i := 1) hr7
    have z2 := frozen_row (i := 2) hr7
    have z3 := frozen_row (i := 3) hr7
    by_cases k1 : r7 = 1
    · have t1 : (r7 == 1) = true := by simp [k1]
      clear k1
      go_wp2_with fail
      refine bodyPost_ret (v := .agg #[.int .i64 A, .int .i64 (wrap64 (last - 1)), .int .i64 R, .int .i64 (-1)]) (by simp [results, Try.results15, go_sem, p0, p1, p2, p3, hxp, hpx]) rfl ⟨⟨A, (wrap64 (last - 1)), R, (-1)⟩, rfl, hA, ?_, ?_⟩
      · repeat' first | exact hD7 | refine deck_set ?_ (by omega) (by omega)
      · repeat' first | exact hg7 | refine grown_new ?_ (by omega) _ _
    have t1 : (r7 == 1) = false := by simpa using k1
    by_cases k2 : r7 = 2
    · have t2 : (r7 == 2) = true := by simp [k2]
      clear k1 k2
      go_wp2_with fail
      refine bodyPost_ret (v := .agg #[.int .i64 0, .int .i64 T, .int .i64 R, .int .i64 (-1)]) (by simp [results, Try.results15, go_sem, p0, p1, p2, p3, hxp, hpx]) rfl ⟨⟨0, T, R, (-1)⟩, rfl, (show I5 0 from ⟨by decide, by decide⟩), ?_, ?_⟩
      · repeat' first | exact hD7 | refine deck_set ?_ (by omega) (by omega)
      · repeat' first | exact hg7 | refine grown_new ?_ (by omega) _ _
    have t2 : (r7 == 2) = false := by simpa using k2
    clear k1 k2
    go_wp2_with fail
    refine bodyPost_ret (v := .agg #[.int .i64 A, .int .i64 T, .int .i64 R, .int .i64 (-1)]) (by simp [results, Try.results15, go_sem, p0, p1, p2, p3, hxp, hpx]) rfl ⟨⟨A, T, R, (-1)⟩, rfl, hA, ?_, ?_⟩
    · repeat' first | exact hD7 | refine deck_set ?_ (by omega) (by omega)
    · repeat' first | exact hg7 | refine grown_new ?_ (by omega) _ _
end Go.Proofs.Ytpagoinnkknkfaa.Pb
