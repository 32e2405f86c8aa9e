/-
  A deck of numbers: New, Next.
-/
import Derived.Test.YtmagjdocondmhaaInts
import Derived.Test.YtmagjdocondmhaaTail
import Derived.Deep.QuietTactic
import Derived.IntWalk
namespace Go.Proofs.Ytmagjdocondmhaa
open Go.RowKit
set_option linter.unusedSimpArgs false

theorem below_drewN {B : Nat} {a w : World} (h : Below B a w) (n : Nat) : Below B a (w.drewN n) := ⟨h.os, h.tape, h.output, h.size, h.block⟩
/-- a deck, over numbers that lay in W0 -/
structure Deck (W0 : World) (v : Value) (zs : List Int) (w : World) (g : Nat) : Prop where
  ints : Ints W0 .i64 v zs
  bel : Below W0.heap.size W0 w
  ge : W0.heap.size ≤ g
  c0 : w.cell? ⟨g, 0, none⟩ = some v
  c1 : ∃ k : Nat, k ≤ zs.length ∧ w.cell? ⟨g, 1, none⟩ = some (.int .i64 k)
  fr : ∀ k, w.frozen? ⟨g, k, none⟩ = false
  lt : g < w.heap.size
  ns : ∀ (j : Nat) (s : ByteArray), w.cell? ⟨g, j, none⟩ ≠ some (.string s)
theorem Deck.below {W0 : World} {v : Value} {zs : List Int} {w w' : World} {g : Nat} (h : Deck W0 v zs w g) (hb : Below w.heap.size w w') : Deck W0 v zs w' g := by
  obtain ⟨k, hk, hc⟩ := h.c1
  exact ⟨h.ints, h.bel.trans (hb.mono h.bel.size), h.ge, (hb.cell (p := ⟨g, 0, none⟩) h.lt).trans h.c0, ⟨k, hk, (hb.cell (p := ⟨g, 1, none⟩) h.lt).trans hc⟩, fun k => (hb.frozen (p := ⟨g, k, none⟩) h.lt).trans (h.fr k), Nat.lt_of_lt_of_le h.lt hb.size, fun j s e => h.ns j s ((hb.cell (p := ⟨g, j, none⟩) h.lt).symm.trans e)⟩
theorem Deck.new {W0 : World} {v : Value} {zs : List Int} (h : Ints W0 .i64 v zs) (w : World) (hb : Below W0.heap.size W0 w) : Deck W0 v zs (w.alloc (.cells #[v, .int .i64 0] 58)) w.heap.size :=
  ⟨h, hb.alloc hb.size _, hb.size, by rw [World.cell?_alloc_at _ _ _ _ rfl]; rfl, ⟨0, Nat.zero_le _, by rw [World.cell?_alloc_at _ _ _ _ rfl]; rfl⟩, fun k => World.frozen?_alloc_at _ _ _ _ rfl, by simp, fun j s e => by
    rw [World.cell?_alloc_at _ _ _ _ rfl] at e
    obtain ⟨ad, m, cap, rfl⟩ : ∃ ad m cap, v = .slice ad m cap := by cases h <;> exact ⟨_, _, _, rfl⟩
    match j, e with
    | 0, e => simp at e
    | 1, e => simp at e
    | j + 2, e => simp at e⟩
theorem Deck.drewN {W0 : World} {v : Value} {zs : List Int} {w : World} {g : Nat} (h : Deck W0 v zs w g) (n : Nat) : Deck W0 v zs (w.drewN n) g := h.below (below_drewN (Below.refl _ _) n)
theorem Deck.step {W0 : World} {v : Value} {zs : List Int} {w : World} {g k : Nat} (h : Deck W0 v zs w g) (hk : k ≤ zs.length) : Deck W0 v zs (w.setCell ⟨g, 1, none⟩ (.int .i64 k)) g := by
  obtain ⟨k0, hk0, hc⟩ := h.c1
  refine ⟨h.ints, h.bel.setCell h.ge _, h.ge, ?_, ⟨k, hk, ?_⟩, ?_, ?_, ?_⟩
  · simp [h.c0, go_sem]
  · simp [hc, go_sem]
  · intro j; simp [h.fr]
  · simpa using h.lt
  · intro j s e
    by_cases q : j = 1
    · subst q; simp [hc, go_sem] at e
    · have hh : (w.setCell ⟨g, 1, none⟩ (.int .i64 k)).cell? ⟨g, j, none⟩ = w.cell? ⟨g, j, none⟩ := by
        simp [go_sem, q, Ne.symm q]
      rw [hh] at e; exact h.ns j s e
theorem grown_refl (w : World) (g : Option Nat) : w.grownBy w g := ⟨rfl, rfl, rfl, Nat.le_refl _, fun _ _ _ => rfl⟩
theorem grown_drewN {w w' : World} {g : Option Nat} (h : w.grownBy w' g) (n : Nat) : w.grownBy (w'.drewN n) g := ⟨h.os, h.tape, h.output, h.size, h.block⟩
theorem grown_set {w w' : World} {g : Nat} (h : w.grownBy w' (some g)) (o : Nat) (u : Value) : w.grownBy (w'.setCell ⟨g, o, none⟩ u) (some g) :=
  ⟨h.os, h.tape, h.output, by have := h.size; simp [World.setCell]; exact this, fun k hk hne => (Below.heap_setCell w' ⟨g, o, none⟩ u k (fun e => hne (by rw [e]))).trans (h.block k hk hne)⟩
def NextPost (W0 : World) (v : Value) (zs : List Int) (n : Int) (g : Nat) (w : World) (e : Ending) (w' : World) : Prop :=
  ∃ r : Int, e = .returned (.int .i64 r) ∧ 0 ≤ r ∧ r < n ∧ Deck W0 v zs w' g ∧ w.grownBy w' (some g)

theorem next_none (W0 : World) (v : Value) (zs : List Int) (w : World) (g : Nat) (n : Int) (h : Deck W0 v zs w g) (hn : 0 < n) (hc : w.cell? ⟨g, 1, none⟩ = some (.int .i64 (zs.length : Nat))) :
    Calls Try.prog 32 #[.pointer (some ⟨g, 0, none⟩), .int .i64 n] w (NextPost W0 v zs n g w) := by
  have c0 := h.c0
  obtain ⟨ad, cap, m, rfl, hm⟩ : ∃ ad cap m, v = .slice ad m cap ∧ zs.length = m := by cases h.ints <;> exact ⟨_, _, _, rfl, by simp⟩
  rw [hm] at hc
  clear hm
  go_enter Try.func32, Try.ntmps32
  go_wp2
  go_quiet (fail)
  go_wp2
  go_ret
  exact ⟨0, rfl, by omega, hn, h.drewN _, grown_drewN (grown_refl _ _) _⟩

theorem next_some (W0 : World) (v : Value) (zs : List Int) (w : World) (g k : Nat) (n : Int) (h : Deck W0 v zs w g) (hn : 0 < n) (hn2 : n ≤ 4611686018427387904) (hk : k < zs.length) (hc : w.cell? ⟨g, 1, none⟩ = some (.int .i64 k)) :
    Calls Try.prog 32 #[.pointer (some ⟨g, 0, none⟩), .int .i64 n] w (NextPost W0 v zs n g w) := by
  have c0 := h.c0
  have hf := h.fr
  have hst := h.drewN
  cases h.ints with
  | none a c => simp at hk
  | some bk o c zs hb hl hcl hm hcell =>
    have hbk : bk < w.heap.size := Nat.lt_of_lt_of_le hb h.bel.size
    have hne : bk ≠ g := by have := h.ge; omega
    have hz := (h.bel.cell (p := ⟨bk, o + k, none⟩) hb).trans (hcell k zs[k] (by simp [hk]))
    have hD := fun a b => (Deck.step (h.drewN a) (k := k + 1) hk).drewN b
    unfold maxLen at hm
    clear hcell h hst
    generalize zs[k] = z at *
    have HD := Lib.hid hD
    clear hD
    have t0 : decide ((zs.length : Int) ≤ k) = false := by simp; omega
    go_enter Try.func32, Try.ntmps32
    go_wp2
    go_quiet (fail)
    go_wp2
    go_quiet (fail)
    go_wp2
    go_ret
    have q1 : z.tmod n < n := Int.tmod_lt_of_pos z hn
    have q2 : -n < z.tmod n := by
      have := Int.tmod_lt_of_pos (-z) hn
      rw [Int.neg_tmod] at this
      omega
    have q3 : wrap64 (z.tmod n + n) = z.tmod n + n := IntWalk.wrap64_in _ (by omega)
    refine ⟨(wrap64 (z.tmod n + n)).tmod n, rfl, ?_, ?_, HD.out _ _, grown_drewN (grown_set (grown_drewN (grown_refl _ _) _) _ _) _⟩
    · rw [q3]; exact Int.tmod_nonneg _ (by omega)
    · exact Int.tmod_lt_of_pos _ hn
theorem next_any (W0 : World) (v : Value) (zs : List Int) (w : World) (g : Nat) (n : Int) (h : Deck W0 v zs w g) (hn : 0 < n) (hn2 : n ≤ 4611686018427387904) :
    Calls Try.prog 32 #[.pointer (some ⟨g, 0, none⟩), .int .i64 n] w (NextPost W0 v zs n g w) := by
  obtain ⟨k, hk, hc⟩ := h.c1
  rcases Nat.lt_or_ge k zs.length with hlt | hge
  · exact next_some W0 v zs w g k n h hn hn2 hlt hc
  · obtain rfl : k = zs.length := by omega
    exact next_none W0 v zs w g n h hn hc
theorem new_any (W0 : World) (v : Value) (zs : List Int) (w : World) (h : Ints W0 .i64 v zs) (hb : Below W0.heap.size W0 w) :
    Calls Try.prog 12 #[v] w fun e w' => e = .returned (.pointer (some ⟨w.heap.size, 0, none⟩)) ∧ Below w.heap.size w w' ∧ Deck W0 v zs w' w.heap.size := by
  have hD := Deck.new h w hb
  have hB := (Below.refl w.heap.size w).alloc (Nat.le_refl _) (.cells #[v, .int .i64 0] 58)
  obtain ⟨ad, cap, m, rfl⟩ : ∃ ad cap m, v = .slice ad m cap := by cases h <;> exact ⟨_, _, _, rfl⟩
  clear h
  go_enter Try.func12, Try.ntmps12
  go_wp2
  go_ret
  exact ⟨rfl, hB, hD⟩

end Go.Proofs.Ytmagjdocondmhaa
