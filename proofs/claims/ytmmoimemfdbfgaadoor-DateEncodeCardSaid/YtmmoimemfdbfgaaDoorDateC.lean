/-
  The contracts of Seconds, of both texts: what it returns for a date whose fields are in range, and that it returns ErrTime for every other.
-/
import Derived.Test.YtmmoimemfdbfgaaDoorDateB
import Derived.Test.YtmmoimemfdbfgaaDoorWorlds
namespace Go.Proofs.YtmmoimemfdbfgaaDoor
open Go.RowKit

theorem Tab.ext {w : World} (ht : Tab w) (h0 : 0 < w.heap.size) (e : Ext w) : Tab e.out := fun m h1 h2 => (e.cell h0).trans (ht m h1 h2)
theorem Tab.alloc {w : World} (ht : Tab w) (h0 : 0 < w.heap.size) (o : Obj) : Tab (w.alloc o) := fun m h1 h2 => (World.cell?_alloc_past _ _ _ h0).trans (ht m h1 h2)
theorem Tab.size {w : World} (ht : Tab w) : 0 < w.heap.size := by
  have h := ht 1 (by omega) (by omega)
  rcases Nat.lt_or_ge 0 w.heap.size with q | q
  · exact q
  · simp [World.cell?, Array.getElem?_eq_none q] at h
theorem Tab.below {w w' : World} (ht : Tab w) (hb : Below w.heap.size w w') : Tab w' := fun m h1 h2 => (hb.cell (p := ⟨0, m.toNat - 1, none⟩) ht.size).trans (ht m h1 h2)

theorem ret_pair {a b c : Int} (h : a = b) : Ending.returned (.tuple #[.int .i64 a, .int .i64 c]) = Ending.returned (.tuple #[.int .i64 b, .int .i64 c]) := by rw [h]

/-- the block of a date -/
def dateBlock (y m d h n s : Int) : Obj := .cells #[.int .i64 y, .int .i64 m, .int .i64 d, .int .i64 h, .int .i64 n, .int .i64 s] 27

/-- the cells of the boxed date, in every later world -/
theorem date_cells (y m d h n s : Int) (w : World) : ∀ e : Ext (w.alloc (dateBlock y m d h n s)),
    e.out.cell? ⟨w.heap.size, 0, none⟩ = some (.int .i64 y) ∧ e.out.cell? ⟨w.heap.size, 1, none⟩ = some (.int .i64 m) ∧ e.out.cell? ⟨w.heap.size, 2, none⟩ = some (.int .i64 d) ∧
    e.out.cell? ⟨w.heap.size, 3, none⟩ = some (.int .i64 h) ∧ e.out.cell? ⟨w.heap.size, 4, none⟩ = some (.int .i64 n) ∧ e.out.cell? ⟨w.heap.size, 5, none⟩ = some (.int .i64 s) := by
  intro e
  have hz : w.heap.size < (w.alloc (dateBlock y m d h n s)).heap.size := by simp
  refine ⟨?_, ?_, ?_, ?_, ?_, ?_⟩ <;> (rw [e.cell hz]; unfold dateBlock; rw [World.cell?_alloc_at _ _ _ _ rfl]; rfl)
theorem box_below (w : World) (o : Obj) (e : Ext (w.alloc o)) : Below w.heap.size w e.out :=
  ((Below.refl _ _).alloc (Nat.le_refl _) o).trans (e.bel.mono (by simp))

set_option linter.unusedVariables false in
theorem secs_bad0 (y m d h n s : Int) (w : World) (ht : Tab w)  (h0 : y < 1950) :
    Calls Tryd.prog 12 #[.agg #[.int .i64 y, .int .i64 m, .int .i64 d, .int .i64 h, .int .i64 n, .int .i64 s]] w fun e w' => e = .returned (.tuple #[.int .i64 0, .int .i64 12]) ∧ Below w.heap.size w w' := by
  have hd := date_cells y m d h n s w
  have c0 := fun e => (hd e).1
  have c1 := fun e => (hd e).2.1
  have c2 := fun e => (hd e).2.2.1
  have c3 := fun e => (hd e).2.2.2.1
  have c4 := fun e => (hd e).2.2.2.2.1
  have c5 := fun e => (hd e).2.2.2.2.2
  clear hd
  have hB : ∀ e : Ext (w.alloc (dateBlock y m d h n s)), Below w.heap.size w e.out := fun e => box_below w _ e
  have hT : ∀ e : Ext (w.alloc (dateBlock y m d h n s)), Tab e.out := fun e => (ht.alloc ht.size _).ext (by have := ht.size; simp; try omega) e
  have t0 : decide (y < 1950) = true := by simp; omega
  go_enter Tryd.func12, Tryd.ntmps12
  go_wp2
  change Code.wp _ _ _ _ (w.alloc (dateBlock y m d h n s))
  generalize w.alloc (dateBlock y m d h n s) = W at *
  refine wp_region_self (by kernel_rfl) (by kernel_rfl) ?_
  repeat (go_big_quiet_step (fail))
  refine wpQuiet_nil ?_
  rintro _ ⟨e1, rfl⟩
  go_wp2
  go_ret2
  exact ⟨rfl, hB e1⟩

set_option linter.unusedVariables false in
theorem secs_bad1 (y m d h n s : Int) (w : World) (ht : Tab w) (h0 : 1950 ≤ y) (h1 : 9999 < y) :
    Calls Tryd.prog 12 #[.agg #[.int .i64 y, .int .i64 m, .int .i64 d, .int .i64 h, .int .i64 n, .int .i64 s]] w fun e w' => e = .returned (.tuple #[.int .i64 0, .int .i64 12]) ∧ Below w.heap.size w w' := by
  have hd := date_cells y m d h n s w
  have c0 := fun e => (hd e).1
  have c1 := fun e => (hd e).2.1
  have c2 := fun e => (hd e).2.2.1
  have c3 := fun e => (hd e).2.2.2.1
  have c4 := fun e => (hd e).2.2.2.2.1
  have c5 := fun e => (hd e).2.2.2.2.2
  clear hd
  have hB : ∀ e : Ext (w.alloc (dateBlock y m d h n s)), Below w.heap.size w e.out := fun e => box_below w _ e
  have hT : ∀ e : Ext (w.alloc (dateBlock y m d h n s)), Tab e.out := fun e => (ht.alloc ht.size _).ext (by have := ht.size; simp; try omega) e
  have t0 : decide (y < 1950) = false := by simp; omega
  have t1 : decide (9999 < y) = true := by simp; omega
  go_enter Tryd.func12, Tryd.ntmps12
  go_wp2
  change Code.wp _ _ _ _ (w.alloc (dateBlock y m d h n s))
  generalize w.alloc (dateBlock y m d h n s) = W at *
  refine wp_region_self (by kernel_rfl) (by kernel_rfl) ?_
  repeat (go_big_quiet_step (fail))
  refine wpQuiet_nil ?_
  rintro _ ⟨e1, rfl⟩
  go_wp2
  go_ret2
  exact ⟨rfl, hB e1⟩

set_option linter.unusedVariables false in
theorem secs_bad2 (y m d h n s : Int) (w : World) (ht : Tab w) (h0 : 1950 ≤ y) (h1 : y ≤ 9999) (h2 : m < 1) :
    Calls Tryd.prog 12 #[.agg #[.int .i64 y, .int .i64 m, .int .i64 d, .int .i64 h, .int .i64 n, .int .i64 s]] w fun e w' => e = .returned (.tuple #[.int .i64 0, .int .i64 12]) ∧ Below w.heap.size w w' := by
  have hd := date_cells y m d h n s w
  have c0 := fun e => (hd e).1
  have c1 := fun e => (hd e).2.1
  have c2 := fun e => (hd e).2.2.1
  have c3 := fun e => (hd e).2.2.2.1
  have c4 := fun e => (hd e).2.2.2.2.1
  have c5 := fun e => (hd e).2.2.2.2.2
  clear hd
  have hB : ∀ e : Ext (w.alloc (dateBlock y m d h n s)), Below w.heap.size w e.out := fun e => box_below w _ e
  have hT : ∀ e : Ext (w.alloc (dateBlock y m d h n s)), Tab e.out := fun e => (ht.alloc ht.size _).ext (by have := ht.size; simp; try omega) e
  have t0 : decide (y < 1950) = false := by simp; omega
  have t1 : decide (9999 < y) = false := by simp; omega
  have t2 : decide (m < 1) = true := by simp; omega
  go_enter Tryd.func12, Tryd.ntmps12
  go_wp2
  change Code.wp _ _ _ _ (w.alloc (dateBlock y m d h n s))
  generalize w.alloc (dateBlock y m d h n s) = W at *
  refine wp_region_self (by kernel_rfl) (by kernel_rfl) ?_
  repeat (go_big_quiet_step (fail))
  refine wpQuiet_nil ?_
  rintro _ ⟨e1, rfl⟩
  go_wp2
  go_ret2
  exact ⟨rfl, hB e1⟩

set_option linter.unusedVariables false in
theorem secs_bad3 (y m d h n s : Int) (w : World) (ht : Tab w) (h0 : 1950 ≤ y) (h1 : y ≤ 9999) (h2 : 1 ≤ m) (h3 : 12 < m) :
    Calls Tryd.prog 12 #[.agg #[.int .i64 y, .int .i64 m, .int .i64 d, .int .i64 h, .int .i64 n, .int .i64 s]] w fun e w' => e = .returned (.tuple #[.int .i64 0, .int .i64 12]) ∧ Below w.heap.size w w' := by
  have hd := date_cells y m d h n s w
  have c0 := fun e => (hd e).1
  have c1 := fun e => (hd e).2.1
  have c2 := fun e => (hd e).2.2.1
  have c3 := fun e => (hd e).2.2.2.1
  have c4 := fun e => (hd e).2.2.2.2.1
  have c5 := fun e => (hd e).2.2.2.2.2
  clear hd
  have hB : ∀ e : Ext (w.alloc (dateBlock y m d h n s)), Below w.heap.size w e.out := fun e => box_below w _ e
  have hT : ∀ e : Ext (w.alloc (dateBlock y m d h n s)), Tab e.out := fun e => (ht.alloc ht.size _).ext (by have := ht.size; simp; try omega) e
  have t0 : decide (y < 1950) = false := by simp; omega
  have t1 : decide (9999 < y) = false := by simp; omega
  have t2 : decide (m < 1) = false := by simp; omega
  have t3 : decide (12 < m) = true := by simp; omega
  go_enter Tryd.func12, Tryd.ntmps12
  go_wp2
  change Code.wp _ _ _ _ (w.alloc (dateBlock y m d h n s))
  generalize w.alloc (dateBlock y m d h n s) = W at *
  refine wp_region_self (by kernel_rfl) (by kernel_rfl) ?_
  repeat (go_big_quiet_step (fail))
  refine wpQuiet_nil ?_
  rintro _ ⟨e1, rfl⟩
  go_wp2
  go_ret2
  exact ⟨rfl, hB e1⟩

set_option linter.unusedVariables false in
theorem secs_bad4 (y m d h n s : Int) (w : World) (ht : Tab w) (h0 : 1950 ≤ y) (h1 : y ≤ 9999) (h2 : 1 ≤ m) (h3 : m ≤ 12) (h4 : d < 1) :
    Calls Tryd.prog 12 #[.agg #[.int .i64 y, .int .i64 m, .int .i64 d, .int .i64 h, .int .i64 n, .int .i64 s]] w fun e w' => e = .returned (.tuple #[.int .i64 0, .int .i64 12]) ∧ Below w.heap.size w w' := by
  have hd := date_cells y m d h n s w
  have c0 := fun e => (hd e).1
  have c1 := fun e => (hd e).2.1
  have c2 := fun e => (hd e).2.2.1
  have c3 := fun e => (hd e).2.2.2.1
  have c4 := fun e => (hd e).2.2.2.2.1
  have c5 := fun e => (hd e).2.2.2.2.2
  clear hd
  have hB : ∀ e : Ext (w.alloc (dateBlock y m d h n s)), Below w.heap.size w e.out := fun e => box_below w _ e
  have hT : ∀ e : Ext (w.alloc (dateBlock y m d h n s)), Tab e.out := fun e => (ht.alloc ht.size _).ext (by have := ht.size; simp; try omega) e
  have t0 : decide (y < 1950) = false := by simp; omega
  have t1 : decide (9999 < y) = false := by simp; omega
  have t2 : decide (m < 1) = false := by simp; omega
  have t3 : decide (12 < m) = false := by simp; omega
  have t4 : decide (d < 1) = true := by simp; omega
  go_enter Tryd.func12, Tryd.ntmps12
  go_wp2
  change Code.wp _ _ _ _ (w.alloc (dateBlock y m d h n s))
  generalize w.alloc (dateBlock y m d h n s) = W at *
  refine wp_region_self (by kernel_rfl) (by kernel_rfl) ?_
  repeat (go_big_quiet_step (fail))
  refine wpQuiet_nil ?_
  rintro _ ⟨e1, rfl⟩
  go_wp2
  go_ret2
  exact ⟨rfl, hB e1⟩

set_option linter.unusedVariables false in
theorem secs_bad5 (y m d h n s : Int) (w : World) (ht : Tab w) (h0 : 1950 ≤ y) (h1 : y ≤ 9999) (h2 : 1 ≤ m) (h3 : m ≤ 12) (h4 : 1 ≤ d) (h5 : Cal.mlen y m < d) :
    Calls Tryd.prog 12 #[.agg #[.int .i64 y, .int .i64 m, .int .i64 d, .int .i64 h, .int .i64 n, .int .i64 s]] w fun e w' => e = .returned (.tuple #[.int .i64 0, .int .i64 12]) ∧ Below w.heap.size w w' := by
  have hd := date_cells y m d h n s w
  have c0 := fun e => (hd e).1
  have c1 := fun e => (hd e).2.1
  have c2 := fun e => (hd e).2.2.1
  have c3 := fun e => (hd e).2.2.2.1
  have c4 := fun e => (hd e).2.2.2.2.1
  have c5 := fun e => (hd e).2.2.2.2.2
  clear hd
  have hB : ∀ e : Ext (w.alloc (dateBlock y m d h n s)), Below w.heap.size w e.out := fun e => box_below w _ e
  have hT : ∀ e : Ext (w.alloc (dateBlock y m d h n s)), Tab e.out := fun e => (ht.alloc ht.size _).ext (by have := ht.size; simp; try omega) e
  have t0 : decide (y < 1950) = false := by simp; omega
  have t1 : decide (9999 < y) = false := by simp; omega
  have t2 : decide (m < 1) = false := by simp; omega
  have t3 : decide (12 < m) = false := by simp; omega
  have t4 : decide (d < 1) = false := by simp; omega
  have t5 : decide (Cal.mlen y m < d) = true := by simp; omega
  go_enter Tryd.func12, Tryd.ntmps12
  go_wp2
  change Code.wp _ _ _ _ (w.alloc (dateBlock y m d h n s))
  generalize w.alloc (dateBlock y m d h n s) = W at *
  refine wp_region_self (by kernel_rfl) (by kernel_rfl) ?_
  repeat (go_big_quiet_step ((go_at_call 25; exact ext_of_same (length_any _ _ _ (by omega) (by omega) (by omega) (by omega) (hT _)))))
  refine wpQuiet_nil ?_
  rintro _ ⟨e1, rfl⟩
  go_wp2
  go_ret2
  exact ⟨rfl, hB e1⟩

set_option linter.unusedVariables false in
theorem secs_bad6 (y m d h n s : Int) (w : World) (ht : Tab w) (h0 : 1950 ≤ y) (h1 : y ≤ 9999) (h2 : 1 ≤ m) (h3 : m ≤ 12) (h4 : 1 ≤ d) (h5 : d ≤ Cal.mlen y m) (h6 : h < 0) :
    Calls Tryd.prog 12 #[.agg #[.int .i64 y, .int .i64 m, .int .i64 d, .int .i64 h, .int .i64 n, .int .i64 s]] w fun e w' => e = .returned (.tuple #[.int .i64 0, .int .i64 12]) ∧ Below w.heap.size w w' := by
  have hd := date_cells y m d h n s w
  have c0 := fun e => (hd e).1
  have c1 := fun e => (hd e).2.1
  have c2 := fun e => (hd e).2.2.1
  have c3 := fun e => (hd e).2.2.2.1
  have c4 := fun e => (hd e).2.2.2.2.1
  have c5 := fun e => (hd e).2.2.2.2.2
  clear hd
  have hB : ∀ e : Ext (w.alloc (dateBlock y m d h n s)), Below w.heap.size w e.out := fun e => box_below w _ e
  have hT : ∀ e : Ext (w.alloc (dateBlock y m d h n s)), Tab e.out := fun e => (ht.alloc ht.size _).ext (by have := ht.size; simp; try omega) e
  have t0 : decide (y < 1950) = false := by simp; omega
  have t1 : decide (9999 < y) = false := by simp; omega
  have t2 : decide (m < 1) = false := by simp; omega
  have t3 : decide (12 < m) = false := by simp; omega
  have t4 : decide (d < 1) = false := by simp; omega
  have t5 : decide (Cal.mlen y m < d) = false := by simp; omega
  have t6 : decide (h < 0) = true := by simp; omega
  go_enter Tryd.func12, Tryd.ntmps12
  go_wp2
  change Code.wp _ _ _ _ (w.alloc (dateBlock y m d h n s))
  generalize w.alloc (dateBlock y m d h n s) = W at *
  refine wp_region_self (by kernel_rfl) (by kernel_rfl) ?_
  repeat (go_big_quiet_step ((go_at_call 25; exact ext_of_same (length_any _ _ _ (by omega) (by omega) (by omega) (by omega) (hT _)))))
  refine wpQuiet_nil ?_
  rintro _ ⟨e1, rfl⟩
  go_wp2
  go_ret2
  exact ⟨rfl, hB e1⟩

set_option linter.unusedVariables false in
theorem secs_bad7 (y m d h n s : Int) (w : World) (ht : Tab w) (h0 : 1950 ≤ y) (h1 : y ≤ 9999) (h2 : 1 ≤ m) (h3 : m ≤ 12) (h4 : 1 ≤ d) (h5 : d ≤ Cal.mlen y m) (h6 : 0 ≤ h) (h7 : 23 < h) :
    Calls Tryd.prog 12 #[.agg #[.int .i64 y, .int .i64 m, .int .i64 d, .int .i64 h, .int .i64 n, .int .i64 s]] w fun e w' => e = .returned (.tuple #[.int .i64 0, .int .i64 12]) ∧ Below w.heap.size w w' := by
  have hd := date_cells y m d h n s w
  have c0 := fun e => (hd e).1
  have c1 := fun e => (hd e).2.1
  have c2 := fun e => (hd e).2.2.1
  have c3 := fun e => (hd e).2.2.2.1
  have c4 := fun e => (hd e).2.2.2.2.1
  have c5 := fun e => (hd e).2.2.2.2.2
  clear hd
  have hB : ∀ e : Ext (w.alloc (dateBlock y m d h n s)), Below w.heap.size w e.out := fun e => box_below w _ e
  have hT : ∀ e : Ext (w.alloc (dateBlock y m d h n s)), Tab e.out := fun e => (ht.alloc ht.size _).ext (by have := ht.size; simp; try omega) e
  have t0 : decide (y < 1950) = false := by simp; omega
  have t1 : decide (9999 < y) = false := by simp; omega
  have t2 : decide (m < 1) = false := by simp; omega
  have t3 : decide (12 < m) = false := by simp; omega
  have t4 : decide (d < 1) = false := by simp; omega
  have t5 : decide (Cal.mlen y m < d) = false := by simp; omega
  have t6 : decide (h < 0) = false := by simp; omega
  have t7 : decide (23 < h) = true := by simp; omega
  go_enter Tryd.func12, Tryd.ntmps12
  go_wp2
  change Code.wp _ _ _ _ (w.alloc (dateBlock y m d h n s))
  generalize w.alloc (dateBlock y m d h n s) = W at *
  refine wp_region_self (by kernel_rfl) (by kernel_rfl) ?_
  repeat (go_big_quiet_step ((go_at_call 25; exact ext_of_same (length_any _ _ _ (by omega) (by omega) (by omega) (by omega) (hT _)))))
  refine wpQuiet_nil ?_
  rintro _ ⟨e1, rfl⟩
  go_wp2
  go_ret2
  exact ⟨rfl, hB e1⟩

set_option linter.unusedVariables false in
theorem secs_bad8 (y m d h n s : Int) (w : World) (ht : Tab w) (h0 : 1950 ≤ y) (h1 : y ≤ 9999) (h2 : 1 ≤ m) (h3 : m ≤ 12) (h4 : 1 ≤ d) (h5 : d ≤ Cal.mlen y m) (h6 : 0 ≤ h) (h7 : h ≤ 23) (h8 : n < 0) :
    Calls Tryd.prog 12 #[.agg #[.int .i64 y, .int .i64 m, .int .i64 d, .int .i64 h, .int .i64 n, .int .i64 s]] w fun e w' => e = .returned (.tuple #[.int .i64 0, .int .i64 12]) ∧ Below w.heap.size w w' := by
  have hd := date_cells y m d h n s w
  have c0 := fun e => (hd e).1
  have c1 := fun e => (hd e).2.1
  have c2 := fun e => (hd e).2.2.1
  have c3 := fun e => (hd e).2.2.2.1
  have c4 := fun e => (hd e).2.2.2.2.1
  have c5 := fun e => (hd e).2.2.2.2.2
  clear hd
  have hB : ∀ e : Ext (w.alloc (dateBlock y m d h n s)), Below w.heap.size w e.out := fun e => box_below w _ e
  have hT : ∀ e : Ext (w.alloc (dateBlock y m d h n s)), Tab e.out := fun e => (ht.alloc ht.size _).ext (by have := ht.size; simp; try omega) e
  have t0 : decide (y < 1950) = false := by simp; omega
  have t1 : decide (9999 < y) = false := by simp; omega
  have t2 : decide (m < 1) = false := by simp; omega
  have t3 : decide (12 < m) = false := by simp; omega
  have t4 : decide (d < 1) = false := by simp; omega
  have t5 : decide (Cal.mlen y m < d) = false := by simp; omega
  have t6 : decide (h < 0) = false := by simp; omega
  have t7 : decide (23 < h) = false := by simp; omega
  have t8 : decide (n < 0) = true := by simp; omega
  go_enter Tryd.func12, Tryd.ntmps12
  go_wp2
  change Code.wp _ _ _ _ (w.alloc (dateBlock y m d h n s))
  generalize w.alloc (dateBlock y m d h n s) = W at *
  refine wp_region_self (by kernel_rfl) (by kernel_rfl) ?_
  repeat (go_big_quiet_step ((go_at_call 25; exact ext_of_same (length_any _ _ _ (by omega) (by omega) (by omega) (by omega) (hT _)))))
  refine wpQuiet_nil ?_
  rintro _ ⟨e1, rfl⟩
  go_wp2
  go_ret2
  exact ⟨rfl, hB e1⟩

set_option linter.unusedVariables false in
theorem secs_bad9 (y m d h n s : Int) (w : World) (ht : Tab w) (h0 : 1950 ≤ y) (h1 : y ≤ 9999) (h2 : 1 ≤ m) (h3 : m ≤ 12) (h4 : 1 ≤ d) (h5 : d ≤ Cal.mlen y m) (h6 : 0 ≤ h) (h7 : h ≤ 23) (h8 : 0 ≤ n) (h9 : 59 < n) :
    Calls Tryd.prog 12 #[.agg #[.int .i64 y, .int .i64 m, .int .i64 d, .int .i64 h, .int .i64 n, .int .i64 s]] w fun e w' => e = .returned (.tuple #[.int .i64 0, .int .i64 12]) ∧ Below w.heap.size w w' := by
  have hd := date_cells y m d h n s w
  have c0 := fun e => (hd e).1
  have c1 := fun e => (hd e).2.1
  have c2 := fun e => (hd e).2.2.1
  have c3 := fun e => (hd e).2.2.2.1
  have c4 := fun e => (hd e).2.2.2.2.1
  have c5 := fun e => (hd e).2.2.2.2.2
  clear hd
  have hB : ∀ e : Ext (w.alloc (dateBlock y m d h n s)), Below w.heap.size w e.out := fun e => box_below w _ e
  have hT : ∀ e : Ext (w.alloc (dateBlock y m d h n s)), Tab e.out := fun e => (ht.alloc ht.size _).ext (by have := ht.size; simp; try omega) e
  have t0 : decide (y < 1950) = false := by simp; omega
  have t1 : decide (9999 < y) = false := by simp; omega
  have t2 : decide (m < 1) = false := by simp; omega
  have t3 : decide (12 < m) = false := by simp; omega
  have t4 : decide (d < 1) = false := by simp; omega
  have t5 : decide (Cal.mlen y m < d) = false := by simp; omega
  have t6 : decide (h < 0) = false := by simp; omega
  have t7 : decide (23 < h) = false := by simp; omega
  have t8 : decide (n < 0) = false := by simp; omega
  have t9 : decide (59 < n) = true := by simp; omega
  go_enter Tryd.func12, Tryd.ntmps12
  go_wp2
  change Code.wp _ _ _ _ (w.alloc (dateBlock y m d h n s))
  generalize w.alloc (dateBlock y m d h n s) = W at *
  refine wp_region_self (by kernel_rfl) (by kernel_rfl) ?_
  repeat (go_big_quiet_step ((go_at_call 25; exact ext_of_same (length_any _ _ _ (by omega) (by omega) (by omega) (by omega) (hT _)))))
  refine wpQuiet_nil ?_
  rintro _ ⟨e1, rfl⟩
  go_wp2
  go_ret2
  exact ⟨rfl, hB e1⟩

set_option linter.unusedVariables false in
theorem secs_bad10 (y m d h n s : Int) (w : World) (ht : Tab w) (h0 : 1950 ≤ y) (h1 : y ≤ 9999) (h2 : 1 ≤ m) (h3 : m ≤ 12) (h4 : 1 ≤ d) (h5 : d ≤ Cal.mlen y m) (h6 : 0 ≤ h) (h7 : h ≤ 23) (h8 : 0 ≤ n) (h9 : n ≤ 59) (h10 : s < 0) :
    Calls Tryd.prog 12 #[.agg #[.int .i64 y, .int .i64 m, .int .i64 d, .int .i64 h, .int .i64 n, .int .i64 s]] w fun e w' => e = .returned (.tuple #[.int .i64 0, .int .i64 12]) ∧ Below w.heap.size w w' := by
  have hd := date_cells y m d h n s w
  have c0 := fun e => (hd e).1
  have c1 := fun e => (hd e).2.1
  have c2 := fun e => (hd e).2.2.1
  have c3 := fun e => (hd e).2.2.2.1
  have c4 := fun e => (hd e).2.2.2.2.1
  have c5 := fun e => (hd e).2.2.2.2.2
  clear hd
  have hB : ∀ e : Ext (w.alloc (dateBlock y m d h n s)), Below w.heap.size w e.out := fun e => box_below w _ e
  have hT : ∀ e : Ext (w.alloc (dateBlock y m d h n s)), Tab e.out := fun e => (ht.alloc ht.size _).ext (by have := ht.size; simp; try omega) e
  have t0 : decide (y < 1950) = false := by simp; omega
  have t1 : decide (9999 < y) = false := by simp; omega
  have t2 : decide (m < 1) = false := by simp; omega
  have t3 : decide (12 < m) = false := by simp; omega
  have t4 : decide (d < 1) = false := by simp; omega
  have t5 : decide (Cal.mlen y m < d) = false := by simp; omega
  have t6 : decide (h < 0) = false := by simp; omega
  have t7 : decide (23 < h) = false := by simp; omega
  have t8 : decide (n < 0) = false := by simp; omega
  have t9 : decide (59 < n) = false := by simp; omega
  have t10 : decide (s < 0) = true := by simp; omega
  go_enter Tryd.func12, Tryd.ntmps12
  go_wp2
  change Code.wp _ _ _ _ (w.alloc (dateBlock y m d h n s))
  generalize w.alloc (dateBlock y m d h n s) = W at *
  refine wp_region_self (by kernel_rfl) (by kernel_rfl) ?_
  repeat (go_big_quiet_step ((go_at_call 25; exact ext_of_same (length_any _ _ _ (by omega) (by omega) (by omega) (by omega) (hT _)))))
  refine wpQuiet_nil ?_
  rintro _ ⟨e1, rfl⟩
  go_wp2
  go_ret2
  exact ⟨rfl, hB e1⟩

set_option linter.unusedVariables false in
theorem secs_bad11 (y m d h n s : Int) (w : World) (ht : Tab w) (h0 : 1950 ≤ y) (h1 : y ≤ 9999) (h2 : 1 ≤ m) (h3 : m ≤ 12) (h4 : 1 ≤ d) (h5 : d ≤ Cal.mlen y m) (h6 : 0 ≤ h) (h7 : h ≤ 23) (h8 : 0 ≤ n) (h9 : n ≤ 59) (h10 : 0 ≤ s) (h11 : 59 < s) :
    Calls Tryd.prog 12 #[.agg #[.int .i64 y, .int .i64 m, .int .i64 d, .int .i64 h, .int .i64 n, .int .i64 s]] w fun e w' => e = .returned (.tuple #[.int .i64 0, .int .i64 12]) ∧ Below w.heap.size w w' := by
  have hd := date_cells y m d h n s w
  have c0 := fun e => (hd e).1
  have c1 := fun e => (hd e).2.1
  have c2 := fun e => (hd e).2.2.1
  have c3 := fun e => (hd e).2.2.2.1
  have c4 := fun e => (hd e).2.2.2.2.1
  have c5 := fun e => (hd e).2.2.2.2.2
  clear hd
  have hB : ∀ e : Ext (w.alloc (dateBlock y m d h n s)), Below w.heap.size w e.out := fun e => box_below w _ e
  have hT : ∀ e : Ext (w.alloc (dateBlock y m d h n s)), Tab e.out := fun e => (ht.alloc ht.size _).ext (by have := ht.size; simp; try omega) e
  have t0 : decide (y < 1950) = false := by simp; omega
  have t1 : decide (9999 < y) = false := by simp; omega
  have t2 : decide (m < 1) = false := by simp; omega
  have t3 : decide (12 < m) = false := by simp; omega
  have t4 : decide (d < 1) = false := by simp; omega
  have t5 : decide (Cal.mlen y m < d) = false := by simp; omega
  have t6 : decide (h < 0) = false := by simp; omega
  have t7 : decide (23 < h) = false := by simp; omega
  have t8 : decide (n < 0) = false := by simp; omega
  have t9 : decide (59 < n) = false := by simp; omega
  have t10 : decide (s < 0) = false := by simp; omega
  have t11 : decide (59 < s) = true := by simp; omega
  go_enter Tryd.func12, Tryd.ntmps12
  go_wp2
  change Code.wp _ _ _ _ (w.alloc (dateBlock y m d h n s))
  generalize w.alloc (dateBlock y m d h n s) = W at *
  refine wp_region_self (by kernel_rfl) (by kernel_rfl) ?_
  repeat (go_big_quiet_step ((go_at_call 25; exact ext_of_same (length_any _ _ _ (by omega) (by omega) (by omega) (by omega) (hT _)))))
  refine wpQuiet_nil ?_
  rintro _ ⟨e1, rfl⟩
  go_wp2
  go_ret2
  exact ⟨rfl, hB e1⟩

theorem secs_good (y m d h n s : Int) (w : World) (ht : Tab w) (v : Cal.Vld y m d h n s) :
    Calls Tryd.prog 12 #[.agg #[.int .i64 y, .int .i64 m, .int .i64 d, .int .i64 h, .int .i64 n, .int .i64 s]] w fun e w' => e = .returned (.tuple #[.int .i64 (Cal.sec y m d h n s), .int .i64 0]) ∧ Below w.heap.size w w' := by
  have hd := date_cells y m d h n s w
  have c0 := fun e => (hd e).1
  have c1 := fun e => (hd e).2.1
  have c2 := fun e => (hd e).2.2.1
  have c3 := fun e => (hd e).2.2.2.1
  have c4 := fun e => (hd e).2.2.2.2.1
  have c5 := fun e => (hd e).2.2.2.2.2
  clear hd
  have hB : ∀ e : Ext (w.alloc (dateBlock y m d h n s)), Below w.heap.size w e.out := fun e => box_below w _ e
  have hT : ∀ e : Ext (w.alloc (dateBlock y m d h n s)), Tab e.out := fun e => (ht.alloc ht.size _).ext (by have := ht.size; simp; try omega) e
  obtain ⟨y1, y2, m1, m2, d1, d2, h1, h2, n1, n2, s1, s2⟩ := v
  have bb := Cal.bef_bd y (by omega) (by omega)
  have bm := Cal.mlen_bd y m
  have t0 : decide (y < 1950) = false := by simp; omega
  have t1 : decide (9999 < y) = false := by simp; omega
  have t2 : decide (m < 1) = false := by simp; omega
  have t3 : decide (12 < m) = false := by simp; omega
  have t4 : decide (d < 1) = false := by simp; omega
  have t5 : decide (Cal.mlen y m < d) = false := by simp; omega
  have t6 : decide (h < 0) = false := by simp; omega
  have t7 : decide (23 < h) = false := by simp; omega
  have t8 : decide (n < 0) = false := by simp; omega
  have t9 : decide (59 < n) = false := by simp; omega
  have t10 : decide (s < 0) = false := by simp; omega
  have t11 : decide (59 < s) = false := by simp; omega
  go_enter Tryd.func12, Tryd.ntmps12
  go_wp2
  change Code.wp _ _ _ _ (w.alloc (dateBlock y m d h n s))
  generalize w.alloc (dateBlock y m d h n s) = W at *
  refine wp_region_self (by kernel_rfl) (by kernel_rfl) ?_
  repeat (go_big_quiet_step ((go_at_call 25; exact ext_of_same (length_any _ _ _ (by omega) (by omega) (by omega) (by omega) (hT _)))))
  refine wpQuiet_nil ?_
  rintro _ ⟨e1, rfl⟩
  go_wp2
  refine wp_region_ext e1 (by kernel_rfl) (by kernel_rfl) ?_
  repeat (go_big_quiet_step ((go_at_call 24; exact ext_of_same (before_any _ _ (by omega) (by omega)))))
  refine wpQuiet_nil ?_
  rintro _ ⟨e2, rfl⟩
  go_wp2
  go_loopw [4, 5] (fun dd i wr => ∃ k : Int, 1 ≤ k ∧ k ≤ m ∧ i = .int .i64 k ∧ dd = .int .i64 (Cal.bef y + d - 1 + Cal.cum y k) ∧ ∃ e : Ext W, wr = e.out) (fun _ i _ => (m - intOf i).toNat)
  case atStart => exact ⟨1, by omega, by omega, rfl, by rw [Cal.cum_one]; go_num, e2, rfl⟩
  case round =>
    obtain ⟨k, k1, k2, rfl, rfl, e3, rfl⟩ := hrel
    have cb := Cal.cum_bd y k k1 (by omega)
    have lb := Cal.lp_01 y
    have mb := Cal.mlen_bd y k
    by_cases hlt : k < m
    · have cs := Cal.cum_succ y k k1 (by omega)
      have CS := Lib.hid cs; clear cs
      go_wp2_with (go_at_call 25; refine (length_any _ _ _ (by omega) (by omega) (by omega) (by omega) (hT _)).mono ?_; rintro e w' ⟨rfl, rfl⟩)
      go_roundw
      case rel => exact ⟨k + 1, by omega, by omega, rfl, by rw [CS.out]; go_num, e3, rfl⟩
      case measure => simp [intOf]; omega
    · obtain rfl : k = m := by omega
      go_wp2_with fail
      go_ret2
      exact ⟨ret_pair (by unfold Cal.sec Cal.dayno; omega), hB e3⟩

theorem secs_bad (y m d h n s : Int) (w : World) (ht : Tab w) (v : ¬ Cal.Vld y m d h n s) :
    Calls Tryd.prog 12 #[.agg #[.int .i64 y, .int .i64 m, .int .i64 d, .int .i64 h, .int .i64 n, .int .i64 s]] w fun e w' => e = .returned (.tuple #[.int .i64 0, .int .i64 12]) ∧ Below w.heap.size w w' := by
  by_cases p0 : y < 1950
  · exact secs_bad0 _ _ _ _ _ _ _ ht p0
  have q0 : 1950 ≤ y := by omega
  by_cases p1 : 9999 < y
  · exact secs_bad1 _ _ _ _ _ _ _ ht q0 p1
  have q1 : y ≤ 9999 := by omega
  by_cases p2 : m < 1
  · exact secs_bad2 _ _ _ _ _ _ _ ht q0 q1 p2
  have q2 : 1 ≤ m := by omega
  by_cases p3 : 12 < m
  · exact secs_bad3 _ _ _ _ _ _ _ ht q0 q1 q2 p3
  have q3 : m ≤ 12 := by omega
  by_cases p4 : d < 1
  · exact secs_bad4 _ _ _ _ _ _ _ ht q0 q1 q2 q3 p4
  have q4 : 1 ≤ d := by omega
  by_cases p5 : Cal.mlen y m < d
  · exact secs_bad5 _ _ _ _ _ _ _ ht q0 q1 q2 q3 q4 p5
  have q5 : d ≤ Cal.mlen y m := by omega
  by_cases p6 : h < 0
  · exact secs_bad6 _ _ _ _ _ _ _ ht q0 q1 q2 q3 q4 q5 p6
  have q6 : 0 ≤ h := by omega
  by_cases p7 : 23 < h
  · exact secs_bad7 _ _ _ _ _ _ _ ht q0 q1 q2 q3 q4 q5 q6 p7
  have q7 : h ≤ 23 := by omega
  by_cases p8 : n < 0
  · exact secs_bad8 _ _ _ _ _ _ _ ht q0 q1 q2 q3 q4 q5 q6 q7 p8
  have q8 : 0 ≤ n := by omega
  by_cases p9 : 59 < n
  · exact secs_bad9 _ _ _ _ _ _ _ ht q0 q1 q2 q3 q4 q5 q6 q7 q8 p9
  have q9 : n ≤ 59 := by omega
  by_cases p10 : s < 0
  · exact secs_bad10 _ _ _ _ _ _ _ ht q0 q1 q2 q3 q4 q5 q6 q7 q8 q9 p10
  have q10 : 0 ≤ s := by omega
  by_cases p11 : 59 < s
  · exact secs_bad11 _ _ _ _ _ _ _ ht q0 q1 q2 q3 q4 q5 q6 q7 q8 q9 q10 p11
  have q11 : s ≤ 59 := by omega
  exact absurd ⟨q0, q1, q2, q3, q4, q5, q6, q7, q8, q9, q10, q11⟩ v

set_option linter.unusedVariables false in
theorem rsecs_bad0 (y m d h n s : Int) (w : World)  (h0 : y < 1950) :
    Calls Tryd.prog 14 #[.agg #[.int .i64 y, .int .i64 m, .int .i64 d, .int .i64 h, .int .i64 n, .int .i64 s]] w fun e w' => e = .returned (.tuple #[.int .i64 0, .int .i64 12]) ∧ Below w.heap.size w w' := by
  have hd := date_cells y m d h n s w
  have c0 := fun e => (hd e).1
  have c1 := fun e => (hd e).2.1
  have c2 := fun e => (hd e).2.2.1
  have c3 := fun e => (hd e).2.2.2.1
  have c4 := fun e => (hd e).2.2.2.2.1
  have c5 := fun e => (hd e).2.2.2.2.2
  clear hd
  have hB : ∀ e : Ext (w.alloc (dateBlock y m d h n s)), Below w.heap.size w e.out := fun e => box_below w _ e
  have t0 : decide (y < 1950) = true := by simp; omega
  go_enter Tryd.func14, Tryd.ntmps14
  go_wp2
  change Code.wp _ _ _ _ (w.alloc (dateBlock y m d h n s))
  generalize w.alloc (dateBlock y m d h n s) = W at *
  refine wp_region_self (by kernel_rfl) (by kernel_rfl) ?_
  repeat (go_big_quiet_step (fail))
  refine wpQuiet_nil ?_
  rintro _ ⟨e1, rfl⟩
  go_wp2
  go_ret2
  exact ⟨rfl, hB e1⟩

set_option linter.unusedVariables false in
theorem rsecs_bad1 (y m d h n s : Int) (w : World) (h0 : 1950 ≤ y) (h1 : 9999 < y) :
    Calls Tryd.prog 14 #[.agg #[.int .i64 y, .int .i64 m, .int .i64 d, .int .i64 h, .int .i64 n, .int .i64 s]] w fun e w' => e = .returned (.tuple #[.int .i64 0, .int .i64 12]) ∧ Below w.heap.size w w' := by
  have hd := date_cells y m d h n s w
  have c0 := fun e => (hd e).1
  have c1 := fun e => (hd e).2.1
  have c2 := fun e => (hd e).2.2.1
  have c3 := fun e => (hd e).2.2.2.1
  have c4 := fun e => (hd e).2.2.2.2.1
  have c5 := fun e => (hd e).2.2.2.2.2
  clear hd
  have hB : ∀ e : Ext (w.alloc (dateBlock y m d h n s)), Below w.heap.size w e.out := fun e => box_below w _ e
  have t0 : decide (y < 1950) = false := by simp; omega
  have t1 : decide (9999 < y) = true := by simp; omega
  go_enter Tryd.func14, Tryd.ntmps14
  go_wp2
  change Code.wp _ _ _ _ (w.alloc (dateBlock y m d h n s))
  generalize w.alloc (dateBlock y m d h n s) = W at *
  refine wp_region_self (by kernel_rfl) (by kernel_rfl) ?_
  repeat (go_big_quiet_step (fail))
  refine wpQuiet_nil ?_
  rintro _ ⟨e1, rfl⟩
  go_wp2
  go_ret2
  exact ⟨rfl, hB e1⟩

set_option linter.unusedVariables false in
theorem rsecs_bad2 (y m d h n s : Int) (w : World) (h0 : 1950 ≤ y) (h1 : y ≤ 9999) (h2 : m < 1) :
    Calls Tryd.prog 14 #[.agg #[.int .i64 y, .int .i64 m, .int .i64 d, .int .i64 h, .int .i64 n, .int .i64 s]] w fun e w' => e = .returned (.tuple #[.int .i64 0, .int .i64 12]) ∧ Below w.heap.size w w' := by
  have hd := date_cells y m d h n s w
  have c0 := fun e => (hd e).1
  have c1 := fun e => (hd e).2.1
  have c2 := fun e => (hd e).2.2.1
  have c3 := fun e => (hd e).2.2.2.1
  have c4 := fun e => (hd e).2.2.2.2.1
  have c5 := fun e => (hd e).2.2.2.2.2
  clear hd
  have hB : ∀ e : Ext (w.alloc (dateBlock y m d h n s)), Below w.heap.size w e.out := fun e => box_below w _ e
  have t0 : decide (y < 1950) = false := by simp; omega
  have t1 : decide (9999 < y) = false := by simp; omega
  have t2 : decide (m < 1) = true := by simp; omega
  go_enter Tryd.func14, Tryd.ntmps14
  go_wp2
  change Code.wp _ _ _ _ (w.alloc (dateBlock y m d h n s))
  generalize w.alloc (dateBlock y m d h n s) = W at *
  refine wp_region_self (by kernel_rfl) (by kernel_rfl) ?_
  repeat (go_big_quiet_step (fail))
  refine wpQuiet_nil ?_
  rintro _ ⟨e1, rfl⟩
  go_wp2
  go_ret2
  exact ⟨rfl, hB e1⟩

set_option linter.unusedVariables false in
theorem rsecs_bad3 (y m d h n s : Int) (w : World) (h0 : 1950 ≤ y) (h1 : y ≤ 9999) (h2 : 1 ≤ m) (h3 : 12 < m) :
    Calls Tryd.prog 14 #[.agg #[.int .i64 y, .int .i64 m, .int .i64 d, .int .i64 h, .int .i64 n, .int .i64 s]] w fun e w' => e = .returned (.tuple #[.int .i64 0, .int .i64 12]) ∧ Below w.heap.size w w' := by
  have hd := date_cells y m d h n s w
  have c0 := fun e => (hd e).1
  have c1 := fun e => (hd e).2.1
  have c2 := fun e => (hd e).2.2.1
  have c3 := fun e => (hd e).2.2.2.1
  have c4 := fun e => (hd e).2.2.2.2.1
  have c5 := fun e => (hd e).2.2.2.2.2
  clear hd
  have hB : ∀ e : Ext (w.alloc (dateBlock y m d h n s)), Below w.heap.size w e.out := fun e => box_below w _ e
  have t0 : decide (y < 1950) = false := by simp; omega
  have t1 : decide (9999 < y) = false := by simp; omega
  have t2 : decide (m < 1) = false := by simp; omega
  have t3 : decide (12 < m) = true := by simp; omega
  go_enter Tryd.func14, Tryd.ntmps14
  go_wp2
  change Code.wp _ _ _ _ (w.alloc (dateBlock y m d h n s))
  generalize w.alloc (dateBlock y m d h n s) = W at *
  refine wp_region_self (by kernel_rfl) (by kernel_rfl) ?_
  repeat (go_big_quiet_step (fail))
  refine wpQuiet_nil ?_
  rintro _ ⟨e1, rfl⟩
  go_wp2
  go_ret2
  exact ⟨rfl, hB e1⟩

set_option linter.unusedVariables false in
theorem rsecs_bad4 (y m d h n s : Int) (w : World) (h0 : 1950 ≤ y) (h1 : y ≤ 9999) (h2 : 1 ≤ m) (h3 : m ≤ 12) (h4 : d < 1) :
    Calls Tryd.prog 14 #[.agg #[.int .i64 y, .int .i64 m, .int .i64 d, .int .i64 h, .int .i64 n, .int .i64 s]] w fun e w' => e = .returned (.tuple #[.int .i64 0, .int .i64 12]) ∧ Below w.heap.size w w' := by
  have hd := date_cells y m d h n s w
  have c0 := fun e => (hd e).1
  have c1 := fun e => (hd e).2.1
  have c2 := fun e => (hd e).2.2.1
  have c3 := fun e => (hd e).2.2.2.1
  have c4 := fun e => (hd e).2.2.2.2.1
  have c5 := fun e => (hd e).2.2.2.2.2
  clear hd
  have hB : ∀ e : Ext (w.alloc (dateBlock y m d h n s)), Below w.heap.size w e.out := fun e => box_below w _ e
  have t0 : decide (y < 1950) = false := by simp; omega
  have t1 : decide (9999 < y) = false := by simp; omega
  have t2 : decide (m < 1) = false := by simp; omega
  have t3 : decide (12 < m) = false := by simp; omega
  have t4 : decide (d < 1) = true := by simp; omega
  go_enter Tryd.func14, Tryd.ntmps14
  go_wp2
  change Code.wp _ _ _ _ (w.alloc (dateBlock y m d h n s))
  generalize w.alloc (dateBlock y m d h n s) = W at *
  refine wp_region_self (by kernel_rfl) (by kernel_rfl) ?_
  repeat (go_big_quiet_step (fail))
  refine wpQuiet_nil ?_
  rintro _ ⟨e1, rfl⟩
  go_wp2
  go_ret2
  exact ⟨rfl, hB e1⟩

set_option linter.unusedVariables false in
theorem rsecs_bad5 (y m d h n s : Int) (w : World) (h0 : 1950 ≤ y) (h1 : y ≤ 9999) (h2 : 1 ≤ m) (h3 : m ≤ 12) (h4 : 1 ≤ d) (h5 : Cal.mlen y m < d) :
    Calls Tryd.prog 14 #[.agg #[.int .i64 y, .int .i64 m, .int .i64 d, .int .i64 h, .int .i64 n, .int .i64 s]] w fun e w' => e = .returned (.tuple #[.int .i64 0, .int .i64 12]) ∧ Below w.heap.size w w' := by
  have hd := date_cells y m d h n s w
  have c0 := fun e => (hd e).1
  have c1 := fun e => (hd e).2.1
  have c2 := fun e => (hd e).2.2.1
  have c3 := fun e => (hd e).2.2.2.1
  have c4 := fun e => (hd e).2.2.2.2.1
  have c5 := fun e => (hd e).2.2.2.2.2
  clear hd
  have hB : ∀ e : Ext (w.alloc (dateBlock y m d h n s)), Below w.heap.size w e.out := fun e => box_below w _ e
  have t0 : decide (y < 1950) = false := by simp; omega
  have t1 : decide (9999 < y) = false := by simp; omega
  have t2 : decide (m < 1) = false := by simp; omega
  have t3 : decide (12 < m) = false := by simp; omega
  have t4 : decide (d < 1) = false := by simp; omega
  have t5 : decide (Cal.mlen y m < d) = true := by simp; omega
  go_enter Tryd.func14, Tryd.ntmps14
  go_wp2
  change Code.wp _ _ _ _ (w.alloc (dateBlock y m d h n s))
  generalize w.alloc (dateBlock y m d h n s) = W at *
  refine wp_region_self (by kernel_rfl) (by kernel_rfl) ?_
  repeat (go_big_quiet_step ((go_at_call 27; exact ext_of (days_any _ _ _ (by omega) (by omega) (by omega) (by omega)))))
  refine wpQuiet_nil ?_
  rintro _ ⟨e1, rfl⟩
  go_wp2
  go_ret2
  exact ⟨rfl, hB e1⟩

set_option linter.unusedVariables false in
theorem rsecs_bad6 (y m d h n s : Int) (w : World) (h0 : 1950 ≤ y) (h1 : y ≤ 9999) (h2 : 1 ≤ m) (h3 : m ≤ 12) (h4 : 1 ≤ d) (h5 : d ≤ Cal.mlen y m) (h6 : h < 0) :
    Calls Tryd.prog 14 #[.agg #[.int .i64 y, .int .i64 m, .int .i64 d, .int .i64 h, .int .i64 n, .int .i64 s]] w fun e w' => e = .returned (.tuple #[.int .i64 0, .int .i64 12]) ∧ Below w.heap.size w w' := by
  have hd := date_cells y m d h n s w
  have c0 := fun e => (hd e).1
  have c1 := fun e => (hd e).2.1
  have c2 := fun e => (hd e).2.2.1
  have c3 := fun e => (hd e).2.2.2.1
  have c4 := fun e => (hd e).2.2.2.2.1
  have c5 := fun e => (hd e).2.2.2.2.2
  clear hd
  have hB : ∀ e : Ext (w.alloc (dateBlock y m d h n s)), Below w.heap.size w e.out := fun e => box_below w _ e
  have t0 : decide (y < 1950) = false := by simp; omega
  have t1 : decide (9999 < y) = false := by simp; omega
  have t2 : decide (m < 1) = false := by simp; omega
  have t3 : decide (12 < m) = false := by simp; omega
  have t4 : decide (d < 1) = false := by simp; omega
  have t5 : decide (Cal.mlen y m < d) = false := by simp; omega
  have t6 : decide (h < 0) = true := by simp; omega
  go_enter Tryd.func14, Tryd.ntmps14
  go_wp2
  change Code.wp _ _ _ _ (w.alloc (dateBlock y m d h n s))
  generalize w.alloc (dateBlock y m d h n s) = W at *
  refine wp_region_self (by kernel_rfl) (by kernel_rfl) ?_
  repeat (go_big_quiet_step ((go_at_call 27; exact ext_of (days_any _ _ _ (by omega) (by omega) (by omega) (by omega)))))
  refine wpQuiet_nil ?_
  rintro _ ⟨e1, rfl⟩
  go_wp2
  go_ret2
  exact ⟨rfl, hB e1⟩

set_option linter.unusedVariables false in
theorem rsecs_bad7 (y m d h n s : Int) (w : World) (h0 : 1950 ≤ y) (h1 : y ≤ 9999) (h2 : 1 ≤ m) (h3 : m ≤ 12) (h4 : 1 ≤ d) (h5 : d ≤ Cal.mlen y m) (h6 : 0 ≤ h) (h7 : 23 < h) :
    Calls Tryd.prog 14 #[.agg #[.int .i64 y, .int .i64 m, .int .i64 d, .int .i64 h, .int .i64 n, .int .i64 s]] w fun e w' => e = .returned (.tuple #[.int .i64 0, .int .i64 12]) ∧ Below w.heap.size w w' := by
  have hd := date_cells y m d h n s w
  have c0 := fun e => (hd e).1
  have c1 := fun e => (hd e).2.1
  have c2 := fun e => (hd e).2.2.1
  have c3 := fun e => (hd e).2.2.2.1
  have c4 := fun e => (hd e).2.2.2.2.1
  have c5 := fun e => (hd e).2.2.2.2.2
  clear hd
  have hB : ∀ e : Ext (w.alloc (dateBlock y m d h n s)), Below w.heap.size w e.out := fun e => box_below w _ e
  have t0 : decide (y < 1950) = false := by simp; omega
  have t1 : decide (9999 < y) = false := by simp; omega
  have t2 : decide (m < 1) = false := by simp; omega
  have t3 : decide (12 < m) = false := by simp; omega
  have t4 : decide (d < 1) = false := by simp; omega
  have t5 : decide (Cal.mlen y m < d) = false := by simp; omega
  have t6 : decide (h < 0) = false := by simp; omega
  have t7 : decide (23 < h) = true := by simp; omega
  go_enter Tryd.func14, Tryd.ntmps14
  go_wp2
  change Code.wp _ _ _ _ (w.alloc (dateBlock y m d h n s))
  generalize w.alloc (dateBlock y m d h n s) = W at *
  refine wp_region_self (by kernel_rfl) (by kernel_rfl) ?_
  repeat (go_big_quiet_step ((go_at_call 27; exact ext_of (days_any _ _ _ (by omega) (by omega) (by omega) (by omega)))))
  refine wpQuiet_nil ?_
  rintro _ ⟨e1, rfl⟩
  go_wp2
  go_ret2
  exact ⟨rfl, hB e1⟩

set_option linter.unusedVariables false in
theorem rsecs_bad8 (y m d h n s : Int) (w : World) (h0 : 1950 ≤ y) (h1 : y ≤ 9999) (h2 : 1 ≤ m) (h3 : m ≤ 12) (h4 : 1 ≤ d) (h5 : d ≤ Cal.mlen y m) (h6 : 0 ≤ h) (h7 : h ≤ 23) (h8 : n < 0) :
    Calls Tryd.prog 14 #[.agg #[.int .i64 y, .int .i64 m, .int .i64 d, .int .i64 h, .int .i64 n, .int .i64 s]] w fun e w' => e = .returned (.tuple #[.int .i64 0, .int .i64 12]) ∧ Below w.heap.size w w' := by
  have hd := date_cells y m d h n s w
  have c0 := fun e => (hd e).1
  have c1 := fun e => (hd e).2.1
  have c2 := fun e => (hd e).2.2.1
  have c3 := fun e => (hd e).2.2.2.1
  have c4 := fun e => (hd e).2.2.2.2.1
  have c5 := fun e => (hd e).2.2.2.2.2
  clear hd
  have hB : ∀ e : Ext (w.alloc (dateBlock y m d h n s)), Below w.heap.size w e.out := fun e => box_below w _ e
  have t0 : decide (y < 1950) = false := by simp; omega
  have t1 : decide (9999 < y) = false := by simp; omega
  have t2 : decide (m < 1) = false := by simp; omega
  have t3 : decide (12 < m) = false := by simp; omega
  have t4 : decide (d < 1) = false := by simp; omega
  have t5 : decide (Cal.mlen y m < d) = false := by simp; omega
  have t6 : decide (h < 0) = false := by simp; omega
  have t7 : decide (23 < h) = false := by simp; omega
  have t8 : decide (n < 0) = true := by simp; omega
  go_enter Tryd.func14, Tryd.ntmps14
  go_wp2
  change Code.wp _ _ _ _ (w.alloc (dateBlock y m d h n s))
  generalize w.alloc (dateBlock y m d h n s) = W at *
  refine wp_region_self (by kernel_rfl) (by kernel_rfl) ?_
  repeat (go_big_quiet_step ((go_at_call 27; exact ext_of (days_any _ _ _ (by omega) (by omega) (by omega) (by omega)))))
  refine wpQuiet_nil ?_
  rintro _ ⟨e1, rfl⟩
  go_wp2
  go_ret2
  exact ⟨rfl, hB e1⟩

set_option linter.unusedVariables false in
theorem rsecs_bad9 (y m d h n s : Int) (w : World) (h0 : 1950 ≤ y) (h1 : y ≤ 9999) (h2 : 1 ≤ m) (h3 : m ≤ 12) (h4 : 1 ≤ d) (h5 : d ≤ Cal.mlen y m) (h6 : 0 ≤ h) (h7 : h ≤ 23) (h8 : 0 ≤ n) (h9 : 59 < n) :
    Calls Tryd.prog 14 #[.agg #[.int .i64 y, .int .i64 m, .int .i64 d, .int .i64 h, .int .i64 n, .int .i64 s]] w fun e w' => e = .returned (.tuple #[.int .i64 0, .int .i64 12]) ∧ Below w.heap.size w w' := by
  have hd := date_cells y m d h n s w
  have c0 := fun e => (hd e).1
  have c1 := fun e => (hd e).2.1
  have c2 := fun e => (hd e).2.2.1
  have c3 := fun e => (hd e).2.2.2.1
  have c4 := fun e => (hd e).2.2.2.2.1
  have c5 := fun e => (hd e).2.2.2.2.2
  clear hd
  have hB : ∀ e : Ext (w.alloc (dateBlock y m d h n s)), Below w.heap.size w e.out := fun e => box_below w _ e
  have t0 : decide (y < 1950) = false := by simp; omega
  have t1 : decide (9999 < y) = false := by simp; omega
  have t2 : decide (m < 1) = false := by simp; omega
  have t3 : decide (12 < m) = false := by simp; omega
  have t4 : decide (d < 1) = false := by simp; omega
  have t5 : decide (Cal.mlen y m < d) = false := by simp; omega
  have t6 : decide (h < 0) = false := by simp; omega
  have t7 : decide (23 < h) = false := by simp; omega
  have t8 : decide (n < 0) = false := by simp; omega
  have t9 : decide (59 < n) = true := by simp; omega
  go_enter Tryd.func14, Tryd.ntmps14
  go_wp2
  change Code.wp _ _ _ _ (w.alloc (dateBlock y m d h n s))
  generalize w.alloc (dateBlock y m d h n s) = W at *
  refine wp_region_self (by kernel_rfl) (by kernel_rfl) ?_
  repeat (go_big_quiet_step ((go_at_call 27; exact ext_of (days_any _ _ _ (by omega) (by omega) (by omega) (by omega)))))
  refine wpQuiet_nil ?_
  rintro _ ⟨e1, rfl⟩
  go_wp2
  go_ret2
  exact ⟨rfl, hB e1⟩

set_option linter.unusedVariables false in
theorem rsecs_bad10 (y m d h n s : Int) (w : World) (h0 : 1950 ≤ y) (h1 : y ≤ 9999) (h2 : 1 ≤ m) (h3 : m ≤ 12) (h4 : 1 ≤ d) (h5 : d ≤ Cal.mlen y m) (h6 : 0 ≤ h) (h7 : h ≤ 23) (h8 : 0 ≤ n) (h9 : n ≤ 59) (h10 : s < 0) :
    Calls Tryd.prog 14 #[.agg #[.int .i64 y, .int .i64 m, .int .i64 d, .int .i64 h, .int .i64 n, .int .i64 s]] w fun e w' => e = .returned (.tuple #[.int .i64 0, .int .i64 12]) ∧ Below w.heap.size w w' := by
  have hd := date_cells y m d h n s w
  have c0 := fun e => (hd e).1
  have c1 := fun e => (hd e).2.1
  have c2 := fun e => (hd e).2.2.1
  have c3 := fun e => (hd e).2.2.2.1
  have c4 := fun e => (hd e).2.2.2.2.1
  have c5 := fun e => (hd e).2.2.2.2.2
  clear hd
  have hB : ∀ e : Ext (w.alloc (dateBlock y m d h n s)), Below w.heap.size w e.out := fun e => box_below w _ e
  have t0 : decide (y < 1950) = false := by simp; omega
  have t1 : decide (9999 < y) = false := by simp; omega
  have t2 : decide (m < 1) = false := by simp; omega
  have t3 : decide (12 < m) = false := by simp; omega
  have t4 : decide (d < 1) = false := by simp; omega
  have t5 : decide (Cal.mlen y m < d) = false := by simp; omega
  have t6 : decide (h < 0) = false := by simp; omega
  have t7 : decide (23 < h) = false := by simp; omega
  have t8 : decide (n < 0) = false := by simp; omega
  have t9 : decide (59 < n) = false := by simp; omega
  have t10 : decide (s < 0) = true := by simp; omega
  go_enter Tryd.func14, Tryd.ntmps14
  go_wp2
  change Code.wp _ _ _ _ (w.alloc (dateBlock y m d h n s))
  generalize w.alloc (dateBlock y m d h n s) = W at *
  refine wp_region_self (by kernel_rfl) (by kernel_rfl) ?_
  repeat (go_big_quiet_step ((go_at_call 27; exact ext_of (days_any _ _ _ (by omega) (by omega) (by omega) (by omega)))))
  refine wpQuiet_nil ?_
  rintro _ ⟨e1, rfl⟩
  go_wp2
  go_ret2
  exact ⟨rfl, hB e1⟩

set_option linter.unusedVariables false in
theorem rsecs_bad11 (y m d h n s : Int) (w : World) (h0 : 1950 ≤ y) (h1 : y ≤ 9999) (h2 : 1 ≤ m) (h3 : m ≤ 12) (h4 : 1 ≤ d) (h5 : d ≤ Cal.mlen y m) (h6 : 0 ≤ h) (h7 : h ≤ 23) (h8 : 0 ≤ n) (h9 : n ≤ 59) (h10 : 0 ≤ s) (h11 : 59 < s) :
    Calls Tryd.prog 14 #[.agg #[.int .i64 y, .int .i64 m, .int .i64 d, .int .i64 h, .int .i64 n, .int .i64 s]] w fun e w' => e = .returned (.tuple #[.int .i64 0, .int .i64 12]) ∧ Below w.heap.size w w' := by
  have hd := date_cells y m d h n s w
  have c0 := fun e => (hd e).1
  have c1 := fun e => (hd e).2.1
  have c2 := fun e => (hd e).2.2.1
  have c3 := fun e => (hd e).2.2.2.1
  have c4 := fun e => (hd e).2.2.2.2.1
  have c5 := fun e => (hd e).2.2.2.2.2
  clear hd
  have hB : ∀ e : Ext (w.alloc (dateBlock y m d h n s)), Below w.heap.size w e.out := fun e => box_below w _ e
  have t0 : decide (y < 1950) = false := by simp; omega
  have t1 : decide (9999 < y) = false := by simp; omega
  have t2 : decide (m < 1) = false := by simp; omega
  have t3 : decide (12 < m) = false := by simp; omega
  have t4 : decide (d < 1) = false := by simp; omega
  have t5 : decide (Cal.mlen y m < d) = false := by simp; omega
  have t6 : decide (h < 0) = false := by simp; omega
  have t7 : decide (23 < h) = false := by simp; omega
  have t8 : decide (n < 0) = false := by simp; omega
  have t9 : decide (59 < n) = false := by simp; omega
  have t10 : decide (s < 0) = false := by simp; omega
  have t11 : decide (59 < s) = true := by simp; omega
  go_enter Tryd.func14, Tryd.ntmps14
  go_wp2
  change Code.wp _ _ _ _ (w.alloc (dateBlock y m d h n s))
  generalize w.alloc (dateBlock y m d h n s) = W at *
  refine wp_region_self (by kernel_rfl) (by kernel_rfl) ?_
  repeat (go_big_quiet_step ((go_at_call 27; exact ext_of (days_any _ _ _ (by omega) (by omega) (by omega) (by omega)))))
  refine wpQuiet_nil ?_
  rintro _ ⟨e1, rfl⟩
  go_wp2
  go_ret2
  exact ⟨rfl, hB e1⟩

theorem rsecs_good (y m d h n s : Int) (w : World) (v : Cal.Vld y m d h n s) :
    Calls Tryd.prog 14 #[.agg #[.int .i64 y, .int .i64 m, .int .i64 d, .int .i64 h, .int .i64 n, .int .i64 s]] w fun e w' => e = .returned (.tuple #[.int .i64 (Cal.sec y m d h n s), .int .i64 0]) ∧ Below w.heap.size w w' := by
  have hd := date_cells y m d h n s w
  have c0 := fun e => (hd e).1
  have c1 := fun e => (hd e).2.1
  have c2 := fun e => (hd e).2.2.1
  have c3 := fun e => (hd e).2.2.2.1
  have c4 := fun e => (hd e).2.2.2.2.1
  have c5 := fun e => (hd e).2.2.2.2.2
  clear hd
  have hB : ∀ e : Ext (w.alloc (dateBlock y m d h n s)), Below w.heap.size w e.out := fun e => box_below w _ e
  obtain ⟨y1, y2, m1, m2, d1, d2, h1, h2, n1, n2, s1, s2⟩ := v
  have bb := Cal.bef_bd y (by omega) (by omega)
  have bm := Cal.mlen_bd y m
  have t0 : decide (y < 1950) = false := by simp; omega
  have t1 : decide (9999 < y) = false := by simp; omega
  have t2 : decide (m < 1) = false := by simp; omega
  have t3 : decide (12 < m) = false := by simp; omega
  have t4 : decide (d < 1) = false := by simp; omega
  have t5 : decide (Cal.mlen y m < d) = false := by simp; omega
  have t6 : decide (h < 0) = false := by simp; omega
  have t7 : decide (23 < h) = false := by simp; omega
  have t8 : decide (n < 0) = false := by simp; omega
  have t9 : decide (59 < n) = false := by simp; omega
  have t10 : decide (s < 0) = false := by simp; omega
  have t11 : decide (59 < s) = false := by simp; omega
  go_enter Tryd.func14, Tryd.ntmps14
  go_wp2
  change Code.wp _ _ _ _ (w.alloc (dateBlock y m d h n s))
  generalize w.alloc (dateBlock y m d h n s) = W at *
  refine wp_region_self (by kernel_rfl) (by kernel_rfl) ?_
  repeat (go_big_quiet_step ((go_at_call 27; exact ext_of (days_any _ _ _ (by omega) (by omega) (by omega) (by omega)))))
  refine wpQuiet_nil ?_
  rintro _ ⟨e1, rfl⟩
  go_wp2
  refine wp_region_ext e1 (by kernel_rfl) (by kernel_rfl) ?_
  repeat (go_big_quiet_step ((go_at_call 26; exact ext_of_same (rbefore_any _ _ (by omega) (by omega)))))
  refine wpQuiet_nil ?_
  rintro _ ⟨e2, rfl⟩
  go_wp2
  go_loopw [4, 5] (fun dd i wr => ∃ k : Int, 1 ≤ k ∧ k ≤ m ∧ i = .int .i64 k ∧ dd = .int .i64 (Cal.bef y + d - 1 + Cal.cum y k) ∧ ∃ e : Ext W, wr = e.out) (fun _ i _ => (m - intOf i).toNat)
  case atStart => exact ⟨1, by omega, by omega, rfl, by rw [Cal.cum_one]; go_num, e2, rfl⟩
  case round =>
    obtain ⟨k, k1, k2, rfl, rfl, e3, rfl⟩ := hrel
    have cb := Cal.cum_bd y k k1 (by omega)
    have lb := Cal.lp_01 y
    have mb := Cal.mlen_bd y k
    by_cases hlt : k < m
    · have cs := Cal.cum_succ y k k1 (by omega)
      have CS := Lib.hid cs; clear cs
      go_wp2_with fail
      go_at_call 27
      refine (days_any _ _ _ (by omega) (by omega) (by omega) (by omega)).mono ?_
      rintro e w' ⟨rfl, hb⟩
      obtain ⟨e4, rfl⟩ := e3.next hb
      clear hb
      go_wp2
      go_roundw
      case rel => exact ⟨k + 1, by omega, by omega, rfl, by rw [CS.out]; go_num, e4, rfl⟩
      case measure => simp [intOf]; omega
    · obtain rfl : k = m := by omega
      go_wp2_with fail
      go_ret2
      exact ⟨ret_pair (by unfold Cal.sec Cal.dayno; omega), hB e3⟩

theorem rsecs_bad (y m d h n s : Int) (w : World) (v : ¬ Cal.Vld y m d h n s) :
    Calls Tryd.prog 14 #[.agg #[.int .i64 y, .int .i64 m, .int .i64 d, .int .i64 h, .int .i64 n, .int .i64 s]] w fun e w' => e = .returned (.tuple #[.int .i64 0, .int .i64 12]) ∧ Below w.heap.size w w' := by
  by_cases p0 : y < 1950
  · exact rsecs_bad0 _ _ _ _ _ _ _ p0
  have q0 : 1950 ≤ y := by omega
  by_cases p1 : 9999 < y
  · exact rsecs_bad1 _ _ _ _ _ _ _ q0 p1
  have q1 : y ≤ 9999 := by omega
  by_cases p2 : m < 1
  · exact rsecs_bad2 _ _ _ _ _ _ _ q0 q1 p2
  have q2 : 1 ≤ m := by omega
  by_cases p3 : 12 < m
  · exact rsecs_bad3 _ _ _ _ _ _ _ q0 q1 q2 p3
  have q3 : m ≤ 12 := by omega
  by_cases p4 : d < 1
  · exact rsecs_bad4 _ _ _ _ _ _ _ q0 q1 q2 q3 p4
  have q4 : 1 ≤ d := by omega
  by_cases p5 : Cal.mlen y m < d
  · exact rsecs_bad5 _ _ _ _ _ _ _ q0 q1 q2 q3 q4 p5
  have q5 : d ≤ Cal.mlen y m := by omega
  by_cases p6 : h < 0
  · exact rsecs_bad6 _ _ _ _ _ _ _ q0 q1 q2 q3 q4 q5 p6
  have q6 : 0 ≤ h := by omega
  by_cases p7 : 23 < h
  · exact rsecs_bad7 _ _ _ _ _ _ _ q0 q1 q2 q3 q4 q5 q6 p7
  have q7 : h ≤ 23 := by omega
  by_cases p8 : n < 0
  · exact rsecs_bad8 _ _ _ _ _ _ _ q0 q1 q2 q3 q4 q5 q6 q7 p8
  have q8 : 0 ≤ n := by omega
  by_cases p9 : 59 < n
  · exact rsecs_bad9 _ _ _ _ _ _ _ q0 q1 q2 q3 q4 q5 q6 q7 q8 p9
  have q9 : n ≤ 59 := by omega
  by_cases p10 : s < 0
  · exact rsecs_bad10 _ _ _ _ _ _ _ q0 q1 q2 q3 q4 q5 q6 q7 q8 q9 p10
  have q10 : 0 ≤ s := by omega
  by_cases p11 : 59 < s
  · exact rsecs_bad11 _ _ _ _ _ _ _ q0 q1 q2 q3 q4 q5 q6 q7 q8 q9 q10 p11
  have q11 : s ≤ 59 := by omega
  exact absurd ⟨q0, q1, q2, q3, q4, q5, q6, q7, q8, q9, q10, q11⟩ v

end Go.Proofs.YtmmoimemfdbfgaaDoor