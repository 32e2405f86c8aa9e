/-
  The sort's array as a list: exchanges; Go's insertion sort keeps the classes and sorts.
-/
import Derived.Test.YtmagjdocondmhaaStPlain
import Derived.Sort.WalkA
namespace Go.Proofs.Ytmagjdocondmhaa.St
open Go.Sort
set_option linter.unusedVariables false
set_option linter.unusedSimpArgs false

section
variable {α : Type} [Inhabited α]
theorem get_list {dk : Array α} {A B : List α} {x : α} (h : dk.toList = A ++ x :: B) {i : Nat} (hi : i = A.length) : dk[i]! = x ∧ i < dk.size := by
  subst hi
  have hl : dk.size = A.length + (B.length + 1) := by rw [← Array.length_toList, h]; simp
  have hlt : A.length < dk.size := by omega
  refine ⟨?_, hlt⟩
  rw [getElem!_pos dk _ hlt]
  have := congrArg (fun l : List α => l[A.length]?) h
  simp only [List.getElem?_append_right (Nat.le_refl _), Nat.sub_self, List.getElem?_cons_zero] at this
  rw [Array.getElem?_toList, Array.getElem?_eq_getElem hlt] at this
  exact Option.some.inj this
theorem swp_list {dk : Array α} {A B C : List α} {x y : α} (h : dk.toList = A ++ x :: (B ++ y :: C)) {i j : Nat} (hi : i = A.length) (hj : j = A.length + 1 + B.length) :
    (swp dk i j).toList = A ++ y :: (B ++ x :: C) ∧ dk[i]! = x ∧ dk[j]! = y ∧ i < dk.size ∧ j < dk.size := by
  have h1 := get_list h hi
  have h' : dk.toList = (A ++ x :: B) ++ y :: C := by rw [h]; simp
  have h2 := get_list h' (i := j) (by rw [hj]; simp; omega)
  refine ⟨?_, h1.1, h2.1, h1.2, h2.2⟩
  unfold swp
  rw [h1.1, h2.1, Array.toList_setIfInBounds, Array.toList_setIfInBounds, h, hi, List.set_append_right _ _ (Nat.le_refl _), Nat.sub_self, List.set_cons_zero, hj,
    List.set_append_right _ _ (by omega), show A.length + 1 + B.length - A.length = B.length + 1 by omega, List.set_cons_succ, List.set_append_right _ _ (Nat.le_refl _), Nat.sub_self, List.set_cons_zero]
theorem swp_list' {dk : Array α} {A B C : List α} {x y : α} (h : dk.toList = A ++ x :: (B ++ y :: C)) {i j : Nat} (hi : i = A.length) (hj : j = A.length + 1 + B.length) :
    (swp dk j i).toList = A ++ y :: (B ++ x :: C) := by
  have h0 := swp_list h hi hj
  have e : swp dk j i = swp dk i j := by
    unfold swp
    have hne : i ≠ j := by omega
    rw [Array.setIfInBounds_comm _ _ (Ne.symm hne)]
  rw [e]; exact h0.1
end

section
variable {α : Type} [Inhabited α] {lt : α → α → Bool}
theorem insInner_list (O : Ord lt) (P : List α) (x : α) : ∀ (n : Nat) (L R : List α) (dk : Array α), L.length = n → dk.toList = P ++ (L ++ x :: R) → Srt lt L →
    ∃ L1 L2, L = L1 ++ L2 ∧ (insInner lt P.length (P.length + L.length) dk).toList = P ++ (L1 ++ x :: (L2 ++ R)) ∧ (∀ y ∈ L2, lt x y = true) ∧ (∀ y ∈ L1, lt x y = false)
  | 0, L, R, dk, hn, hd, hs => by
    obtain rfl : L = [] := List.eq_nil_of_length_eq_zero hn
    refine ⟨[], [], rfl, ?_, (fun y hy => by cases hy), (fun y hy => by cases hy)⟩
    rw [insInner_stop _ _ _ _ (.inl (by simp)), hd]; rfl
  | n + 1, L, R, dk, hn, hd, hs => by
    obtain ⟨L', y, rfl⟩ : ∃ L' y, L = L' ++ [y] := ⟨L.dropLast, L.getLast (by intro h; rw [h] at hn; simp at hn), (List.dropLast_concat_getLast _).symm⟩
    have hn' : L'.length = n := by simpa using hn
    have hd' : dk.toList = (P ++ L') ++ y :: ([] ++ x :: R) := by rw [hd]; simp
    have hsw := swp_list hd' (i := P.length + L'.length) (j := P.length + (L' ++ [y]).length) (by simp) (by simp; omega)
    have hsw' := swp_list' hd' (i := P.length + L'.length) (j := P.length + (L' ++ [y]).length) (by simp) (by simp; omega)
    have hs' := Srt.append.1 hs
    by_cases hl : lt x y = true
    · have hgo := insInner_go lt P.length (P.length + (L' ++ [y]).length) dk (by simp) (by
        rw [hsw.2.2.1, show P.length + (L' ++ [y]).length - 1 = P.length + L'.length by simp, hsw.2.1]; exact hl)
      rw [show P.length + (L' ++ [y]).length - 1 = P.length + L'.length by simp] at hgo
      rw [hgo]
      obtain ⟨L1, L2, h1, h2, h3, h4⟩ := insInner_list O P x n L' (y :: R) (swp dk (P.length + (L' ++ [y]).length) (P.length + L'.length)) hn' (by rw [hsw']; simp) hs'.1
      refine ⟨L1, L2 ++ [y], by rw [h1]; simp, ?_, ?_, h4⟩
      · rw [h2]; simp
      · intro z hz
        rcases List.mem_append.1 hz with q | q
        · exact h3 z q
        · rw [List.mem_singleton] at q; subst q; exact hl
    · have hl' : lt x y = false := by simpa using hl
      have hst := insInner_stop lt P.length (P.length + (L' ++ [y]).length) dk (.inr (by
        rw [hsw.2.2.1, show P.length + (L' ++ [y]).length - 1 = P.length + L'.length by simp, hsw.2.1]; exact hl'))
      rw [hst]
      refine ⟨L' ++ [y], [], by simp, by rw [hd]; simp, (fun z hz => by cases hz), fun z hz => ?_⟩
      rcases List.mem_append.1 hz with q | q
      · exact O.co _ _ _ hl' (hs'.2.2 z q y (by simp))
      · rw [List.mem_singleton] at q; subst q; exact hl'
theorem insOuter_list (O : Ord lt) (P Q : List α) : ∀ (n : Nat) (L R : List α) (dk : Array α), R.length = n → dk.toList = P ++ (L ++ (R ++ Q)) → Srt lt L →
    ∃ S, (insOuter lt P.length (P.length + (L.length + R.length)) (P.length + L.length) dk).toList = P ++ (S ++ Q) ∧ Srt lt S ∧ Stab lt (L ++ R) S
  | 0, L, R, dk, hn, hd, hs => by
    obtain rfl : R = [] := List.eq_nil_of_length_eq_zero hn
    refine ⟨L, ?_, hs, by rw [List.append_nil]; exact Stab.refl _⟩
    rw [insOuter_stop _ _ _ _ _ (by simp), hd]; simp
  | n + 1, L, [], dk, hn, hd, hs => by simp at hn
  | n + 1, L, x :: R, dk, hn, hd, hs => by
    have hn' : R.length = n := by simpa using hn
    rw [insOuter_go _ _ _ _ _ (by simp)]
    obtain ⟨L1, L2, h1, h2, h3, h4⟩ := insInner_list O P x L.length L (R ++ Q) dk rfl (by rw [hd]; simp) hs
    have hs2 : Srt lt (L1 ++ x :: L2) := by
      rw [h1] at hs
      have hs' := Srt.append.1 hs
      refine Srt.append.2 ⟨hs'.1, List.pairwise_cons.2 ⟨fun y hy => O.asym (h3 y hy), hs'.2.1⟩, fun y hy z hz => ?_⟩
      rcases List.mem_cons.1 hz with rfl | hz
      · exact h4 y hy
      · exact hs'.2.2 y hy z hz
    have hst : Stab lt (L ++ [x]) (L1 ++ x :: L2) := by
      rw [h1]
      have e1 : (L1 ++ L2) ++ [x] = L1 ++ (L2 ++ [x]) ++ [] := by simp
      have e2 : L1 ++ x :: L2 = L1 ++ ([x] ++ L2) ++ [] := by simp
      rw [e1, e2]
      exact Stab.mid (Stab.swap O fun u hu v hv => by rw [List.mem_singleton] at hv; subst hv; exact h3 u hu) _ _
    have hlen : (L1 ++ x :: L2).length = L.length + 1 := by rw [h1]; simp; omega
    obtain ⟨S, g1, g2, g3⟩ := insOuter_list O P Q n (L1 ++ x :: L2) R (insInner lt P.length (P.length + L.length) dk) hn' (by rw [h2]; simp) hs2
    refine ⟨S, ?_, g2, ?_⟩
    · rw [← g1, hlen]
      simp only [List.length_cons]
      congr 2 <;> omega
    · have e : L ++ x :: R = (L ++ [x]) ++ R := by simp
      rw [e]
      exact (hst.append (Stab.refl R)).trans g3
/-- Go's insertion sort of a stretch -/
theorem insSort_list (O : Ord lt) (P L Q : List α) (dk : Array α) (hd : dk.toList = P ++ (L ++ Q)) :
    ∃ S, (insertionSort lt dk P.length (P.length + L.length)).toList = P ++ (S ++ Q) ∧ Srt lt S ∧ Stab lt L S := by
  unfold insertionSort
  cases L with
  | nil =>
    refine ⟨[], ?_, Srt.nil, Stab.refl _⟩
    rw [insOuter_stop _ _ _ _ _ (by simp), hd]
  | cons x R =>
    obtain ⟨S, h1, h2, h3⟩ := insOuter_list O P Q R.length [x] R dk rfl (by rw [hd]; simp) (Srt.singleton x)
    refine ⟨S, ?_, h2, h3⟩
    rw [← h1]
    simp only [List.length_cons, List.length_nil]
    congr 2 <;> omega
end
end Go.Proofs.Ytmagjdocondmhaa.St
