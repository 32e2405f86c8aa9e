/-
  Slices of whatever elements: one cell of an owned one is stored to.
-/
import Derived.Test.YtbfgkcgnhgfkmaaFresh
import Derived.OneCell
import Derived.Laws.Rows
namespace Go.Proofs.Ytbfgkcgnhgfkmaa.Slc
open Go Go.RowKit
set_option linter.unusedVariables false

section
variable {α : Type} {P : Program} {t T : TypeId} {z : Nat} {enc : α → List Value}
theorem flat_set (E : Enc z enc) (y : α) (x : Value) (j : Nat) (hj : j < z) : ∀ (l : List α) (k : Nat) (hk : k < l.length) (_ : enc y = (enc l[k]).set j x), (l.set k y).flatMap enc = (l.flatMap enc).set (k * z + j) x
  | [], k, hk, _ => by simp at hk
  | a :: l, 0, hk, he => by
    have ha := E.len a
    rw [List.set_cons_zero, List.flatMap_cons, List.flatMap_cons, Nat.zero_mul, Nat.zero_add, List.set_append_left _ _ (by omega), he]; rfl
  | a :: l, k + 1, hk, he => by
    have ha := E.len a
    have e : (k + 1) * z + j = z + (k * z + j) := by rw [Nat.succ_mul]; omega
    rw [List.set_cons_succ, List.flatMap_cons, List.flatMap_cons, flat_set E y x j hj l k (by simpa using hk) (by simpa using he), e, List.set_append_right _ _ (by omega), ha]
    congr 2; omega
theorem take_set (l : List Value) (n k : Nat) (x : Value) : (l.set k x).take n = (l.take n).set k x := by
  apply List.ext_getElem?
  intro i
  rw [List.getElem?_take, List.getElem?_set, List.getElem?_set, List.getElem?_take]
  by_cases h1 : i < n
  · simp only [h1, if_true, List.length_take]
    by_cases h2 : k = i
    · subst h2
      simp only [if_true]
      by_cases h3 : k < l.length
      · rw [if_pos h3, if_pos (by omega)]
      · rw [if_neg h3, if_neg (by omega)]
    · simp [h2]
  · simp only [h1, if_false, List.length_take]
    by_cases h2 : k = i
    · subst h2; simp; omega
    · simp [h2]
/-- the cell that is stored to -/
theorem Own.set1 {w : World} {B : Nat} {v : Value} {l : List α} (E : Enc z enc) (h : Own w B t z enc v l) (k j : Nat) (hk : k < l.length) (hj : j < z) (x : Value) (y : α) (he : enc y = (enc l[k]).set j x) :
    ∃ g cap, v = .slice (some ⟨g, 0, none⟩) l.length cap ∧ B ≤ g ∧ g < w.heap.size ∧ (∀ i, w.frozen? ⟨g, i, none⟩ = false) ∧ Own (w.setCell ⟨g, k * z + j, none⟩ x) B t z enc v (l.set k y) ∧ w.grownBy (w.setCell ⟨g, k * z + j, none⟩ x) (some g) := by
  rcases h.2 with ⟨_, hn⟩ | ⟨g, cap, cur, rfl, hb, hg, hc, hm, hcs, htake⟩
  · omega
  · refine ⟨g, cap, rfl, hb, lt_of_block hg, fun i => ?_, ?_, ⟨rfl, rfl, rfl, by simp, fun k' _ hk' => heap_setCell_other w _ k' x fun e => hk' (by rw [e])⟩⟩
    · simp [World.frozen?, hg]
    · unfold Own World.ownsRow
      rw [List.length_set]
      refine ⟨by rw [flat_len E, List.length_set], .inr ⟨g, cap, cur.setIfInBounds (k * z + j) x, rfl, hb, heap_setCell_same w g _ cur t x hg, hc, hm, by simpa using hcs, ?_⟩⟩
      rw [Array.toList_setIfInBounds, take_set, htake, flat_set E y x j hj l k hk he]
/-- the cells of an owned slice -/
theorem Own.cell {w : World} {B g n c : Nat} {l : List α} (E : Enc z enc) (h : Own w B t z enc (.slice (some ⟨g, 0, none⟩) n c) l) (k : Nat) (hk : k < l.length) (j : Nat) (hj : j < z) (u : Value) (hu : (enc l[k])[j]? = some u) : w.cell? ⟨g, k * z + j, none⟩ = some u := by
  have := World.ownsRow.cells h (g := g) rfl (k * z + j) u (by rw [flat_at E l k j hk hj]; exact hu)
  rw [add_at, Nat.zero_add] at this
  exact this
theorem Own.src {w : World} {B : Nat} {v : Value} {l : List α} (E : Enc z enc) (h : Own w B t z enc v l) : SrcV w z v l.length (l.flatMap enc) := h.rd.src E
theorem Own.of {w : World} {B : Nat} {v : Value} {l : List α} {n : Nat} {xs : List Value} (h : w.ownsRow B t z v n xs) (hn : n = l.length) (hx : xs = l.flatMap enc) : Own w B t z enc v l := by subst hn hx; exact h
theorem Own.below' {w w' : World} {B : Nat} {v : Value} {l : List α} (h : Own w B t z enc v l) (hb : Below w.heap.size w w') : Own w' B t z enc v l := h.below hb
end

end Go.Proofs.Ytbfgkcgnhgfkmaa.Slc
