/-
  Insertion gives the sorted list: in plain Lean.
-/
import Derived.Sort.Walk0
import Derived.Sort.EncStr
namespace Go.Proofs.Ytmagjdocondmhaa.Ins
open Go

abbrev B := List UInt8
def le (x y : B) : Bool := decide (x ≤ y)
theorem le_total (a b : B) : (le a b || le b a) = true := by
  simp only [le, Bool.or_eq_true, decide_eq_true_eq]; exact List.le_total a b
theorem le_trans (a b c : B) (h : le a b = true) (k : le b c = true) : le a c = true := by
  simp only [le, decide_eq_true_eq] at *; exact List.le_trans h k
theorem le_anti (a b : B) (h : le a b = true) (k : le b a = true) : a = b := by
  simp only [le, decide_eq_true_eq] at *; exact List.le_antisymm h k
/-- how far one goes -/
def place (x : B) : List B → Nat
  | [] => 0
  | y :: s => if le y x then place x s + 1 else 0
def insP (x : B) (s : List B) : List B := s.take (place x s) ++ [x] ++ s.drop (place x s)
theorem place_le (x : B) : ∀ s, place x s ≤ s.length
  | [] => Nat.le_refl _
  | y :: s => by
    rw [place]; split
    · have := place_le x s; simp; omega
    · simp
theorem place_lt (x : B) : ∀ (s : List B) (k : Nat) (hk : k < place x s), le (s[k]'(Nat.lt_of_lt_of_le hk (place_le x s))) x = true
  | [], k, hk => by simp [place] at hk
  | y :: s, k, hk => by
    rw [place] at hk
    split at hk
    · cases k with
      | zero => assumption
      | succ k => exact place_lt x s k (by omega)
    · omega
theorem place_at (x : B) : ∀ (s : List B) (hk : place x s < s.length), le (s[place x s]) x = false
  | [], hk => by simp at hk
  | y :: s, hk => by
    by_cases h : le y x = true
    · have e : place x (y :: s) = place x s + 1 := by rw [place, if_pos h]
      simp only [e, List.getElem_cons_succ]
      exact place_at x s (by rw [e] at hk; simpa using hk)
    · have e : place x (y :: s) = 0 := by rw [place, if_neg h]
      simp only [e, List.getElem_cons_zero]
      simpa using h
theorem insP_cons (x y : B) (s : List B) : insP x (y :: s) = if le y x then y :: insP x s else x :: y :: s := by
  by_cases h : le y x = true
  · rw [if_pos h]; unfold insP; rw [place, if_pos h]; simp
  · rw [if_neg h]; unfold insP; rw [place, if_neg h]; simp
theorem insP_perm (x : B) (s : List B) : (insP x s).Perm (x :: s) := by
  unfold insP
  rw [List.append_assoc, List.singleton_append]
  refine List.perm_middle.trans ?_
  rw [List.take_append_drop]
theorem insP_sorted (x : B) : ∀ (s : List B), s.Pairwise (fun a b => le a b = true) → (insP x s).Pairwise (fun a b => le a b = true)
  | [], _ => by simp [insP]
  | y :: s, h => by
    rw [insP_cons]
    have h' := List.pairwise_cons.1 h
    split
    · rename_i hy
      refine List.pairwise_cons.2 ⟨fun z hz => ?_, insP_sorted x s h'.2⟩
      rcases List.mem_cons.1 ((insP_perm x s).mem_iff.1 hz) with rfl | hz'
      · exact hy
      · exact h'.1 z hz'
    · rename_i hy
      have hxy : le x y = true := by
        have := le_total x y
        cases hh : le x y
        · rw [hh, Bool.false_or] at this; exact absurd this hy
        · rfl
      refine List.pairwise_cons.2 ⟨fun z hz => ?_, h⟩
      rcases List.mem_cons.1 hz with rfl | hz'
      · exact hxy
      · exact le_trans _ _ _ hxy (h'.1 z hz')
def isort (l : List B) : List B := l.foldl (fun s x => insP x s) []
theorem isort_snoc (l : List B) (x : B) : isort (l ++ [x]) = insP x (isort l) := by simp [isort, List.foldl_append]
theorem isort_inv (l : List B) : ∀ s, s.Pairwise (fun a b => le a b = true) → (l.foldl (fun s x => insP x s) s).Pairwise (fun a b => le a b = true) ∧ (l.foldl (fun s x => insP x s) s).Perm (l ++ s) := by
  induction l with
  | nil => intro s h; exact ⟨h, List.Perm.refl _⟩
  | cons x l ih =>
    intro s h
    obtain ⟨h1, h2⟩ := ih (insP x s) (insP_sorted x s h)
    refine ⟨h1, h2.trans ?_⟩
    exact ((List.Perm.refl l).append (insP_perm x s)).trans List.perm_middle
theorem isort_eq (l : List B) : isort l = l.mergeSort fun x y => decide (x ≤ y) := by
  obtain ⟨h1, h2⟩ := isort_inv l [] List.Pairwise.nil
  rw [List.append_nil] at h2
  refine List.Perm.eq_of_pairwise (le := fun a b => le a b = true) (fun a b _ _ => le_anti a b) h1 ?_ (h2.trans (List.mergeSort_perm l _).symm)
  exact List.pairwise_mergeSort (le := le) (fun a b c => le_trans a b c) le_total l
theorem isort_length (l : List B) : (isort l).length = l.length := by rw [isort_eq]; simp

end Go.Proofs.Ytmagjdocondmhaa.Ins
