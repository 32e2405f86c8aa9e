/-
  The stable sort in plain Lean: lists that are alike class by class (Stab), sorted lists (Srt); a sorted list that is alike is one alone; the merge by rotation.
-/
import Derived.ProofKit
namespace Go.Proofs.Ytmagjdocondmhaa.St
set_option linter.unusedVariables false
set_option linter.unusedSimpArgs false

section
variable {α : Type} (lt : α → α → Bool)

/-- a strict weak order -/
structure Ord : Prop where
  irr : ∀ x, lt x x = false
  tr : ∀ x y z, lt x y = true → lt y z = true → lt x z = true
  co : ∀ x y z, lt x y = false → lt y z = false → lt x z = false

def eqv (x y : α) : Bool := !lt x y && !lt y x
def Stab (l l' : List α) : Prop := ∀ x, l.filter (eqv lt x) = l'.filter (eqv lt x)
def Srt (l : List α) : Prop := l.Pairwise fun x y => lt y x = false
variable {lt}

theorem Ord.asym (O : Ord lt) {x y : α} (h : lt x y = true) : lt y x = false := by
  cases h' : lt y x with
  | false => rfl
  | true => have := O.tr _ _ _ h h'; rw [O.irr] at this; cases this
theorem Ord.lt_of (O : Ord lt) {x y z : α} (h : lt x y = false) (h' : lt x z = true) : lt y z = true := by
  cases q : lt y z with
  | true => rfl
  | false => have := O.co _ _ _ h q; rw [h'] at this; cases this
theorem Ord.lt_of' (O : Ord lt) {x y z : α} (h : lt y z = false) (h' : lt x z = true) : lt x y = true := by
  cases q : lt x y with
  | true => rfl
  | false => have := O.co _ _ _ q h; rw [h'] at this; cases this
theorem eqv_refl (O : Ord lt) (x : α) : eqv lt x x = true := by simp [eqv, O.irr]
theorem eqv_def {x y : α} : eqv lt x y = true ↔ lt x y = false ∧ lt y x = false := by simp [eqv]
theorem Stab.refl (l : List α) : Stab lt l l := fun _ => rfl
theorem Stab.symm {l l' : List α} (h : Stab lt l l') : Stab lt l' l := fun x => (h x).symm
theorem Stab.trans {l l' l'' : List α} (h : Stab lt l l') (h' : Stab lt l' l'') : Stab lt l l'' := fun x => (h x).trans (h' x)
theorem Stab.append {l l' m m' : List α} (h : Stab lt l l') (h' : Stab lt m m') : Stab lt (l ++ m) (l' ++ m') := fun x => by
  rw [List.filter_append, List.filter_append, h x, h' x]
theorem Stab.mid {l l' : List α} (h : Stab lt l l') (p q : List α) : Stab lt (p ++ l ++ q) (p ++ l' ++ q) := ((Stab.refl p).append h).append (Stab.refl q)
theorem Stab.mem {l l' : List α} (O : Ord lt) (h : Stab lt l l') {x : α} (hx : x ∈ l) : x ∈ l' := by
  have : x ∈ l.filter (eqv lt x) := List.mem_filter.2 ⟨hx, eqv_refl O x⟩
  rw [h x] at this
  exact (List.mem_filter.1 this).1
theorem Stab.mem_iff {l l' : List α} (O : Ord lt) (h : Stab lt l l') {x : α} : x ∈ l ↔ x ∈ l' := ⟨h.mem O, h.symm.mem O⟩
/-- two stretches of which every element of the second is less change places -/
theorem Stab.swap (O : Ord lt) {U V : List α} (h : ∀ u ∈ U, ∀ v ∈ V, lt v u = true) : Stab lt (U ++ V) (V ++ U) := fun x => by
  rw [List.filter_append, List.filter_append]
  by_cases hU : U.filter (eqv lt x) = []
  · rw [hU]; simp
  · have hV : V.filter (eqv lt x) = [] := by
      rw [List.filter_eq_nil_iff]
      intro v hv hxv
      obtain ⟨u, hu⟩ := List.exists_mem_of_ne_nil _ hU
      obtain ⟨hu1, hu2⟩ := List.mem_filter.1 hu
      rw [eqv_def] at hu2 hxv
      have h1 := h u hu1 v hv
      have h2 := O.co _ _ _ hxv.2 hu2.1
      rw [h1] at h2; cases h2
    rw [hV]; simp
theorem Srt.nil : Srt lt ([] : List α) := List.Pairwise.nil
theorem Srt.append {l m : List α} : Srt lt (l ++ m) ↔ Srt lt l ∧ Srt lt m ∧ ∀ x ∈ l, ∀ y ∈ m, lt y x = false := List.pairwise_append
theorem Srt.singleton (x : α) : Srt lt [x] := List.pairwise_singleton _ _

theorem Stab.tail (O : Ord lt) {a : α} {l l' : List α} (h : Stab lt (a :: l) (a :: l')) : Stab lt l l' := fun x => by
  have := h x
  rw [List.filter_cons, List.filter_cons] at this
  split at this
  · simpa using this
  · exact this
/-- sorted and alike: one and the same -/
theorem srt_unique (O : Ord lt) : ∀ (l l' : List α), Srt lt l → Srt lt l' → Stab lt l l' → l = l'
  | [], [], _, _, _ => rfl
  | [], b :: l', _, _, h => by have := h.symm.mem O (List.mem_cons_self (a := b) (l := l')); cases this
  | a :: l, [], _, _, h => by have := h.mem O (List.mem_cons_self (a := a) (l := l)); cases this
  | a :: l, b :: l', hs, hs', h => by
    have hs1 := hs
    have hs2 := hs'
    rw [Srt, List.pairwise_cons] at hs1 hs2
    have e : eqv lt a b = true := by
      rw [eqv_def]
      constructor
      · rcases List.mem_cons.1 (h.mem O (List.mem_cons_self (a := a) (l := l))) with q | q
        · subst q; exact O.irr _
        · exact hs2.1 a q
      · rcases List.mem_cons.1 (h.symm.mem O (List.mem_cons_self (a := b) (l := l'))) with q | q
        · subst q; exact O.irr _
        · exact hs1.1 b q
    have h1 := h a
    rw [List.filter_cons, List.filter_cons, if_pos (eqv_refl O a), if_pos e] at h1
    obtain rfl : a = b := (List.cons.inj h1).1
    rw [srt_unique O l l' hs1.2 hs2.2 (h.tail O)]

theorem Stab.perm (O : Ord lt) : ∀ (l l' : List α), Stab lt l l' → l.Perm l'
  | [], [], _ => List.Perm.nil
  | [], b :: l', h => by have := h.symm.mem O (List.mem_cons_self (a := b) (l := l')); cases this
  | a :: l, l', h => by
    obtain ⟨s, r, hs⟩ := List.append_of_mem (h.mem O (List.mem_cons_self (a := a) (l := l)))
    -- the first of a's class in l'
    have h1 := h a
    rw [List.filter_cons, if_pos (eqv_refl O a)] at h1
    obtain ⟨s1, r1, e1, e2, e3⟩ : ∃ s1 r1, l' = s1 ++ a :: r1 ∧ s1.filter (eqv lt a) = [] ∧ r1.filter (eqv lt a) = l.filter (eqv lt a) := by
      clear hs s r h
      induction l' with
      | nil => simp at h1
      | cons b l' ih =>
        rw [List.filter_cons] at h1
        by_cases hb : eqv lt a b = true
        · rw [if_pos hb] at h1
          obtain ⟨rfl, h2⟩ := List.cons.inj h1
          exact ⟨[], l', rfl, rfl, h2.symm⟩
        · rw [if_neg hb] at h1
          obtain ⟨s1, r1, e1, e2, e3⟩ := ih h1
          exact ⟨b :: s1, r1, by rw [e1]; rfl, by rw [List.filter_cons, if_neg hb]; exact e2, e3⟩
    subst e1
    have hst : Stab lt l (s1 ++ r1) := by
      intro x
      have hx := h x
      rw [List.filter_cons, List.filter_append, List.filter_cons] at hx
      rw [List.filter_append]
      by_cases hxa : eqv lt x a = true
      · rw [if_pos hxa, if_pos hxa] at hx
        have hs0 : s1.filter (eqv lt x) = [] := by
          rw [List.filter_eq_nil_iff] at e2 ⊢
          intro y hy hxy
          apply e2 y hy
          rw [eqv_def] at hxa hxy ⊢
          exact ⟨O.co _ _ _ hxa.2 hxy.1, O.co _ _ _ hxy.2 hxa.1⟩
        rw [hs0] at hx ⊢
        simpa using hx
      · rw [if_neg hxa, if_neg hxa] at hx
        exact hx
    exact ((Stab.perm O l (s1 ++ r1) hst).cons a).trans List.perm_middle.symm
theorem Stab.length {l l' : List α} (h : Stab lt l l') (O : Ord lt) : l.length = l'.length := (Stab.perm O l l' h).length_eq

/-- the merge of A1 A2 and B1 B2 by a rotation: A1 B1 A2 B2, then both halves merged -/
theorem merge_rot (O : Ord lt) {A1 A2 B1 B2 C D : List α} (hA : Srt lt (A1 ++ A2)) (hB : Srt lt (B1 ++ B2))
    (h1 : ∀ x ∈ A2, ∀ y ∈ B1, lt y x = true) (h2 : ∀ x ∈ A1, ∀ y ∈ B2, lt y x = false)
    (hC : Srt lt C) (hC' : Stab lt (A1 ++ B1) C) (hD : Srt lt D) (hD' : Stab lt (A2 ++ B2) D) : Srt lt (C ++ D) ∧ Stab lt ((A1 ++ A2) ++ (B1 ++ B2)) (C ++ D) := by
  have hA' := Srt.append.1 hA
  have hB' := Srt.append.1 hB
  constructor
  · refine Srt.append.2 ⟨hC, hD, fun x hx y hy => ?_⟩
    have hx' := hC'.symm.mem O hx
    have hy' := hD'.symm.mem O hy
    rw [List.mem_append] at hx' hy'
    rcases hx' with hx' | hx' <;> rcases hy' with hy' | hy'
    · exact hA'.2.2 x hx' y hy'
    · exact h2 x hx' y hy'
    · exact O.asym (h1 y hy' x hx')
    · exact hB'.2.2 x hx' y hy'
  · have e1 : (A1 ++ A2) ++ (B1 ++ B2) = A1 ++ (A2 ++ B1) ++ B2 := by simp
    have e2 : A1 ++ (B1 ++ A2) ++ B2 = (A1 ++ B1) ++ (A2 ++ B2) := by simp
    rw [e1]
    refine ((Stab.swap O h1).mid A1 B2).trans ?_
    rw [e2]
    exact hC'.append hD'

/-- sorted by insertion, from the left: the specification -/
def ins (x : α) : List α → List α
  | [] => [x]
  | y :: l => if lt x y then x :: y :: l else y :: ins x l
end

section
variable {α : Type} {lt : α → α → Bool}
/-- whether what one's halves are in order, by the last and the first -/
theorem srt_lt_lt (O : Ord lt) {A B : List α} {a b : α} (hA : Srt lt (a :: A)) (hB : Srt lt (B ++ [b])) (h : lt b a = true) : ∀ x ∈ a :: A, ∀ y ∈ B ++ [b], lt y x = true := by
  intro x hx y hy
  have h1 : lt x a = false := by
    rcases List.mem_cons.1 hx with rfl | hx
    · exact O.irr _
    · exact (List.pairwise_cons.1 hA).1 x hx
  have h2 : lt b y = false := by
    rw [List.mem_append, List.mem_singleton] at hy
    rcases hy with hy | rfl
    · exact (Srt.append.1 hB).2.2 y hy b (by simp)
    · exact O.irr _
  exact O.lt_of h2 (O.lt_of' h1 h)
theorem srt_le_le (O : Ord lt) {A B : List α} {a b : α} (hA : Srt lt (A ++ [a])) (hB : Srt lt (b :: B)) (h : lt b a = false) : ∀ x ∈ A ++ [a], ∀ y ∈ b :: B, lt y x = false := by
  intro x hx y hy
  have h1 : lt a x = false := by
    rw [List.mem_append, List.mem_singleton] at hx
    rcases hx with hx | rfl
    · exact (Srt.append.1 hA).2.2 x hx a (by simp)
    · exact O.irr _
  have h2 : lt y b = false := by
    rcases List.mem_cons.1 hy with rfl | hy
    · exact O.irr _
    · exact (List.pairwise_cons.1 hB).1 y hy
  exact O.co _ _ _ h2 (O.co _ _ _ h h1)
end
end Go.Proofs.Ytmagjdocondmhaa.St
