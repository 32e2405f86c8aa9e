/-
  PublishFollowsAnything, walked.
-/
import Derived.Test.YtpagoinnkknkfaaPbOpen
namespace Go.Proofs.Ytpagoinnkknkfaa.Pb
open Go Go.RowKit Go.Shelf Go.Proofs.Ytpagoinnkknkfaa.Slc
set_option linter.unusedVariables false
set_option linter.unusedSimpArgs false
attribute [local go_sem] Oper.semAt_some

set_option maxRecDepth 100000 in
set_option maxHeartbeats 4000000 in
theorem law_follany (v : Value) (l : List Ch) (c : Ch) (w : World) (hA : Rd w encC v l) (hl : l.length ≤ 9223372036854775807) :
    Calls Try.prog 4 #[v, chV c] w fun e w' => e = .returned (.bool true) ∧ Below w.heap.size w w' := by
  obtain ⟨ad, cap, rfl, -⟩ := hA.form
  have haw := awake_any
  by_cases h30 : 30 < l.length
  · have t0 : decide ((l.length : Int) > 30) = true := decide_eq_true (by omega)
    have t1 : decide (30 < l.length) = true := decide_eq_true h30
    have hb := (Below.refl w.heap.size w).alloc (Nat.le_refl _) (.cells #[.int .i64 c.s, .int .i64 c.t, .int .i64 c.r, .int .i64 c.v] 24)
    have HB := Bx.mk hb
    clear hA hl hb
    unfold chV
    go_enter Try.func4, Try.ntmps4
    go_wp2_with (go_at_call 18; refine (haw _).mono ?_; rintro e w2 ⟨rfl, hb2⟩)
    go_ret
    exact ⟨rfl, HB.out.trans (hb2.mono (by simp))⟩
  · have t0 : decide ((l.length : Int) > 30) = false := decide_eq_false (by omega)
    have t1 : decide (30 < l.length) = false := decide_eq_false h30
    obtain ⟨W1, hW1⟩ : ∃ W1, W1 = w.alloc (.cells #[.int .i64 c.s, .int .i64 c.t, .int .i64 c.r, .int .i64 c.v] 24) := ⟨_, rfl⟩
    have hb : Below w.heap.size w W1 := by rw [hW1]; exact (Below.refl w.heap.size w).alloc (Nat.le_refl _) _
    have hr : W1.heap[w.heap.size]? = some (.cells #[.int .i64 c.s, .int .i64 c.t, .int .i64 c.r, .int .i64 c.v] 24 (0, 0)) := by rw [hW1]; exact heap_alloc_new _ _
    have hlt := lt_of_block hr
    have hA1 := hA.below hb
    have HP := Bx.mk (show ∀ e : Ext W1, Calls Try.prog 17 #[.slice ad l.length cap, .agg #[.int .i64 c.s, .int .i64 c.t, .int .i64 c.r, .int .i64 c.v]] e.out fun x w' => x = .returned (.int .i64 (followR l c)) ∧ Below e.out.heap.size e.out w' from fun e => pfollow_any e.out _ l c (hA1.below e.bel) (by omega))
    have HR := Bx.mk (show ∀ e : Ext W1, Calls Try.prog 16 #[.slice ad l.length cap, .agg #[.int .i64 c.s, .int .i64 c.t, .int .i64 c.r, .int .i64 c.v]] e.out fun x w' => x = .returned (.int .i64 (followR l c)) ∧ Below e.out.heap.size e.out w' from fun e => rfollow_any e.out _ l c (hA1.below e.bel) (by omega))
    have q0 := cell_of_row _ _ 0 _ _ _ hr
    have q1 := cell_of_row _ _ 1 _ _ _ hr
    have q2 := cell_of_row _ _ 2 _ _ _ hr
    have q3 := cell_of_row _ _ 3 _ _ _ hr
    simp only [List.getElem?_toArray, List.getElem?_cons_zero, List.getElem?_cons_succ] at q0 q1 q2 q3
    have D0 : ∀ e : Ext W1, _ := fun e => (e.cell hlt).trans q0
    have D1 : ∀ e : Ext W1, _ := fun e => (e.cell hlt).trans q1
    have D2 : ∀ e : Ext W1, _ := fun e => (e.cell hlt).trans q2
    have D3 : ∀ e : Ext W1, _ := fun e => (e.cell hlt).trans q3
    have HB := Bx.mk hb
    generalize followR l c = F at *
    unfold chV
    generalize c.s = S at *
    generalize c.t = T at *
    generalize c.r = R at *
    generalize c.v = V at *
    clear hA hl hb hA1 hr hlt q0 q1 q2 q3
    go_enter Try.func4, Try.ntmps4
    go_wp2_with fail
    rw [← hW1]
    clear hW1
    generalize w.heap.size = p at D0 D1 D2 D3 ⊢
    refine wp_region_self (by kernel_rfl) (by kernel_rfl) ?_
    repeat (go_big_quiet_step (fail))
    go_big_quiet_step ((go_at_call 17; exact ext_of (HP.out _)))
    repeat (go_big_quiet_step (fail))
    go_big_quiet_step ((go_at_call 16; exact ext_of (HR.out _)))
    repeat (go_big_quiet_step (fail))
    go_big_quiet_step ((go_at_call 18; exact ext_of (haw _)))
    repeat (go_big_quiet_step (fail))
    refine wpQuiet_nil ?_
    rintro _ ⟨e1, rfl⟩
    have HB1 := Bx.mk (HB.out.trans (e1.bel.mono HB.out.size))
    clear D0 D1 D2 D3 HP HR
    generalize e1.out = w2 at *
    go_wp2
    go_ret
    exact ⟨rfl, HB1.out⟩
end Go.Proofs.Ytpagoinnkknkfaa.Pb
