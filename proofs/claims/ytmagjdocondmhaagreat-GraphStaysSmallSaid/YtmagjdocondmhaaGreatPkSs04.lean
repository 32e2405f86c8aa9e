/-
Trees in plain Lean: what both packages compute, and that it is the same.
Maps that the call owns, as functions of their keys: keys of whatever kind (ints, strings), elements by a reader.
ptree.Valid.
-/
import Derived.Test.YtmagjdocondmhaaGreatPkSs03
import Derived.Test.YtmagjdocondmhaaGreatPkSs01
import Derived.Maps.Own
import Derived.Maps.OwnSet
import Derived.Maps.OwnOps
import Derived.Maps.Views
import Derived.Maps.StringElems
import Derived.Maps.RangeWalk
import Derived.StringKeys
import Derived.DataShut
namespace Go.Proofs.YtmagjdocondmhaaGreat.Tr
open Go Go.RowKit Go.Proofs.YtmagjdocondmhaaGreat.St
set_option linter.unusedVariables false
set_option linter.unusedSimpArgs false

/-- strings in ascending order, each once -/
def insS (x : B) : List B → List B
  | [] => [x]
  | y :: l => if x < y then x :: y :: l else if x = y then y :: l else y :: insS x l
def setB (l : List B) : List B := l.foldl (fun a x => insS x a) []
abbrev Asc (l : List B) : Prop := l.Pairwise (· < ·)
theorem insS_mem (x y : B) (l : List B) : y ∈ insS x l ↔ y = x ∨ y ∈ l := by
  induction l with
  | nil => simp [insS]
  | cons z l ih =>
    unfold insS
    by_cases h1 : x < z
    · rw [if_pos h1]; simp
    · rw [if_neg h1]
      by_cases h2 : x = z
      · rw [if_pos h2]; subst h2; simp
      · rw [if_neg h2, List.mem_cons, ih, List.mem_cons]
        constructor
        · rintro (h | h | h) <;> simp [h]
        · rintro (h | h | h) <;> simp [h]
theorem ltB_or {x y : B} (h1 : ¬ x < y) (h2 : x ≠ y) : y < x := by
  rcases Classical.em (y < x) with h | h
  · exact h
  · exact absurd (eqB h1 h) h2
theorem insS_asc (x : B) (l : List B) (h : Asc l) : Asc (insS x l) := by
  induction l with
  | nil => simp [insS, Asc]
  | cons z l ih =>
    rw [Asc, List.pairwise_cons] at h
    unfold insS
    by_cases h1 : x < z
    · rw [if_pos h1]
      refine List.pairwise_cons.2 ⟨fun y hy => ?_, List.pairwise_cons.2 h⟩
      rcases List.mem_cons.1 hy with rfl | hy
      · exact h1
      · exact ltB_tr h1 (h.1 y hy)
    · rw [if_neg h1]
      by_cases h2 : x = z
      · rw [if_pos h2]; exact List.pairwise_cons.2 h
      · rw [if_neg h2]
        refine List.pairwise_cons.2 ⟨fun y hy => ?_, ih h.2⟩
        rcases (insS_mem x y l).1 hy with rfl | hy
        · exact ltB_or h1 h2
        · exact h.1 y hy
theorem foldS_mem (y : B) : ∀ (l a : List B), y ∈ l.foldl (fun a x => insS x a) a ↔ y ∈ a ∨ y ∈ l
  | [], a => by simp
  | x :: l, a => by
    rw [List.foldl_cons, foldS_mem y l, insS_mem, List.mem_cons]
    constructor
    · rintro ((h | h) | h) <;> simp [h]
    · rintro (h | h | h) <;> simp [h]
theorem foldS_asc : ∀ (l a : List B), Asc a → Asc (l.foldl (fun a x => insS x a) a)
  | [], a, h => h
  | x :: l, a, h => foldS_asc l _ (insS_asc x a h)
theorem setB_mem {y : B} {l : List B} : y ∈ setB l ↔ y ∈ l := by
  unfold setB; rw [foldS_mem]; simp
theorem setB_asc (l : List B) : Asc (setB l) := foldS_asc l [] List.Pairwise.nil
theorem asc_unique : ∀ (l m : List B), Asc l → Asc m → (∀ x, x ∈ l ↔ x ∈ m) → l = m
  | [], [], _, _, _ => rfl
  | [], b :: m, _, _, h => by have := (h b).2 (by simp); cases this
  | a :: l, [], _, _, h => by have := (h a).1 (by simp); cases this
  | a :: l, b :: m, h1, h2, h => by
    rw [Asc, List.pairwise_cons] at h1 h2
    have e : a = b := by
      rcases List.mem_cons.1 ((h a).1 (by simp)) with q | q
      · exact q
      · rcases List.mem_cons.1 ((h b).2 (by simp)) with q' | q'
        · exact q'.symm
        · exact absurd (ltB_tr (h1.1 b q') (h2.1 a q)) (ltB_irr _)
    subst e
    rw [asc_unique l m h1.2 h2.2 fun x => ?_]
    have hx := h x
    rw [List.mem_cons, List.mem_cons] at hx
    constructor
    · intro q
      rcases hx.1 (.inr q) with rfl | q'
      · exact absurd (h1.1 _ q) (ltB_irr _)
      · exact q'
    · intro q
      rcases hx.2 (.inr q) with rfl | q'
      · exact absurd (h2.1 _ q) (ltB_irr _)
      · exact q'
theorem setB_eq {l m : List B} (h : Asc m) (hm : ∀ x, x ∈ m ↔ x ∈ l) : m = setB l := asc_unique _ _ h (setB_asc l) fun x => (hm x).trans setB_mem.symm
theorem insS_length (x : B) (l : List B) : (insS x l).length ≤ l.length + 1 := by
  induction l with
  | nil => simp [insS]
  | cons z l ih =>
    unfold insS
    split
    · simp
    · split
      · simp
      · simp only [List.length_cons]; omega
theorem foldS_length : ∀ (l a : List B), (l.foldl (fun a x => insS x a) a).length ≤ a.length + l.length
  | [], a => by simp
  | x :: l, a => by
    rw [List.foldl_cons]
    have := foldS_length l (insS x a)
    have := insS_length x a
    simp only [List.length_cons]; omega
theorem setB_length (l : List B) : (setB l).length ≤ l.length := by
  have := foldS_length l []
  simpa [setB] using this
theorem asc_nodup {l : List B} (h : Asc l) : l.Nodup := List.Pairwise.imp (fun {a b} hab e => by subst e; exact ltB_irr _ hab) h

section
variable {α : Type} {lt : α → α → Bool}
theorem ins_mem (x y : α) (l : List α) : y ∈ ins (lt := lt) x l ↔ y = x ∨ y ∈ l := by
  induction l with
  | nil => simp [ins]
  | cons z l ih =>
    unfold ins
    split
    · simp
    · rw [List.mem_cons, ih, List.mem_cons]
      constructor
      · rintro (h | h | h) <;> simp [h]
      · rintro (h | h | h) <;> simp [h]
theorem ins_srt (O : Ord lt) (x : α) (l : List α) (h : Srt lt l) : Srt lt (ins (lt := lt) x l) := by
  induction l with
  | nil => exact Srt.singleton x
  | cons z l ih =>
    have h' := h
    rw [Srt, List.pairwise_cons] at h'
    unfold ins
    by_cases q : lt x z = true
    · rw [if_pos q]
      refine List.pairwise_cons.2 ⟨fun y hy => ?_, h⟩
      rcases List.mem_cons.1 hy with rfl | hy
      · exact O.asym q
      · have := h'.1 y hy
        cases e : lt y x with
        | false => rfl
        | true => rw [O.tr _ _ _ e q] at this; cases this
    · rw [if_neg q]
      refine List.pairwise_cons.2 ⟨fun y hy => ?_, ih h'.2⟩
      rcases (ins_mem x y l).1 hy with rfl | hy
      · simpa using q
      · exact h'.1 y hy
theorem ins_stab (O : Ord lt) (x : α) (l : List α) (h : Srt lt l) : Stab lt (l ++ [x]) (ins (lt := lt) x l) := by
  induction l with
  | nil => exact Stab.refl _
  | cons z l ih =>
    have h' := h
    rw [Srt, List.pairwise_cons] at h'
    unfold ins
    by_cases q : lt x z = true
    · rw [if_pos q]
      have : ∀ u ∈ z :: l, ∀ v ∈ [x], lt v u = true := by
        intro u hu v hv
        rw [List.mem_singleton] at hv; subst hv
        rcases List.mem_cons.1 hu with rfl | hu
        · exact q
        · exact O.lt_of' (h'.1 u hu) q
      exact Stab.swap O this
    · rw [if_neg q]
      exact (Stab.refl [z]).append (ih h'.2)
def srtL (l : List α) : List α := l.foldl (fun a x => ins (lt := lt) x a) []
theorem fold_srt (O : Ord lt) : ∀ (l a : List α), Srt lt a → Srt lt (l.foldl (fun a x => ins (lt := lt) x a) a)
  | [], a, h => h
  | x :: l, a, h => fold_srt O l _ (ins_srt O x a h)
theorem fold_stab (O : Ord lt) : ∀ (l a : List α), Srt lt a → Stab lt (a ++ l) (l.foldl (fun a x => ins (lt := lt) x a) a)
  | [], a, h => by simpa using Stab.refl a
  | x :: l, a, h => by
    have h1 := fold_stab O l _ (ins_srt O x a h)
    have h2 := (ins_stab O x a h).append (Stab.refl l)
    rw [List.append_assoc] at h2
    exact h2.trans h1
theorem srtL_srt (O : Ord lt) (l : List α) : Srt lt (srtL (lt := lt) l) := fold_srt O l [] List.Pairwise.nil
theorem srtL_stab (O : Ord lt) (l : List α) : Stab lt l (srtL (lt := lt) l) := fold_stab O l [] List.Pairwise.nil
theorem srtL_unique (O : Ord lt) {l l' : List α} (h : Srt lt l') (h' : Stab lt l l') : l' = srtL (lt := lt) l := srt_unique O _ _ h (srtL_srt O l) (h'.symm.trans (srtL_stab O l))
theorem srtL_self (O : Ord lt) {l : List α} (h : Srt lt l) : srtL (lt := lt) l = l := (srtL_unique O h (Stab.refl l)).symm
theorem srtL_append (O : Ord lt) {l m : List α} (h : Srt lt l) : srtL (lt := lt) (l ++ m) = m.foldl (fun a x => ins (lt := lt) x a) l := by
  unfold srtL; rw [List.foldl_append]
  have := srtL_self O h
  unfold srtL at this; rw [this]
theorem fold_length : ∀ (l a : List α), (l.foldl (fun a x => ins (lt := lt) x a) a).length = a.length + l.length
  | [], a => by simp
  | x :: l, a => by
    have e : ∀ a : List α, (ins (lt := lt) x a).length = a.length + 1 := by
      intro a
      induction a with
      | nil => rfl
      | cons z a ih => unfold ins; split <;> simp [ih]
    rw [List.foldl_cons, fold_length l, e]; simp; omega
end
abbrev sortT (l : List Nd) : List Nd := srtL (lt := ltT) l
section
variable {t : List Nd} {D : Int}
end
/-- how many of the first i are marked -/
def rk (m : List Bool) (i : Nat) : Nat := ((List.range i).filter fun j => m[j]!).length
def kpN (m : List Bool) (n : Nd) : Nd := ⟨n.d, if n.p < 0 then n.p else if m[n.p.toNat]! then ((rk m n.p.toNat : Nat) : Int) else 0, n.pol, n.ex⟩
/-- what keep has after k nodes -/
def keepK (t : List Nd) (m : List Bool) (k : Nat) : List Nd := ((List.range k).filter fun j => m[j]!).map fun j => kpN m t[j]!
def keepP (t : List Nd) (m : List Bool) : List Nd := keepK t m t.length
theorem rk_succ (m : List Bool) (k : Nat) : rk m (k + 1) = rk m k + if m[k]! then 1 else 0 := by
  unfold rk
  rw [List.range_succ, List.filter_append, List.length_append]
  cases h : m[k]! <;> simp [List.filter_cons, h, -List.getElem!_eq_getElem?_getD]
theorem rk_le (m : List Bool) : ∀ k, rk m k ≤ k
  | 0 => Nat.le_refl _
  | k + 1 => by rw [rk_succ]; have := rk_le m k; split <;> omega
theorem rk_mono (m : List Bool) {i j : Nat} (h : i ≤ j) : rk m i ≤ rk m j := by
  induction h with
  | refl => exact Nat.le_refl _
  | step _ ih => rw [rk_succ]; omega
theorem rk_lt (m : List Bool) {i j : Nat} (h : i < j) (hm : m[i]! = true) : rk m i < rk m j := by
  have := rk_mono m (show i + 1 ≤ j from h)
  rw [rk_succ, if_pos hm] at this; omega
theorem keepK_succ (t : List Nd) (m : List Bool) (k : Nat) : keepK t m (k + 1) = keepK t m k ++ if m[k]! then [kpN m t[k]!] else [] := by
  unfold keepK
  rw [List.range_succ, List.filter_append, List.map_append]
  cases h : m[k]! <;> simp [List.filter_cons, h, -List.getElem!_eq_getElem?_getD]
theorem keepK_length (t : List Nd) (m : List Bool) (k : Nat) : (keepK t m k).length = rk m k := by unfold keepK rk; rw [List.length_map]
/-- one node of pruning, from the last -/
def stepM (t : List Nd) (D : Int) (m : List Bool) (i : Nat) : List Bool :=
  let m1 := if t[i]!.d = D then m.set i true else m
  if m1[i]! && decide (t[i]!.p ≥ 0) then m1.set t[i]!.p.toNat true else m1
/-- the marks after j nodes, from the last -/
def pmB (t : List Nd) (D : Int) : Nat → List Bool
  | 0 => List.replicate t.length false
  | j + 1 => stepM t D (pmB t D j) (t.length - 1 - j)
def pruneM (t : List Nd) (D : Int) : List Bool := pmB t D t.length
def pruneP (t : List Nd) (D : Int) : List Nd := keepP t (pruneM t D)
theorem stepM_length (t : List Nd) (D : Int) (m : List Bool) (i : Nat) : (stepM t D m i).length = m.length := by
  have e : ∀ (m1 : List Bool), m1.length = m.length → (if m1[i]! && decide (t[i]!.p ≥ 0) then m1.set t[i]!.p.toNat true else m1).length = m.length := by
    intro m1 h
    split
    · rw [List.length_set]; exact h
    · exact h
  unfold stepM
  refine e _ ?_
  split
  · rw [List.length_set]
  · rfl
theorem pmB_length (t : List Nd) (D : Int) : ∀ j, (pmB t D j).length = t.length
  | 0 => by simp [pmB]
  | j + 1 => by rw [pmB, stepM_length]; exact pmB_length t D j
def newN (D i : Int) (p : B) : Nd := ⟨D, i, p, [p]⟩
/-- Map: a mapping is a pair of strings -/
def okM (m : B × B) : Bool := decide (m.1 ≠ anyP) && decide (m.2 ≠ anyP)
def srcL (l : List (B × B)) : List B := setB ((l.filter okM).map (·.1))
def subL (l : List (B × B)) (x : B) : List B := setB ((l.filter fun m => decide (m.1 = x) && okM m).map (·.2))
def kidB (l : List Nd) (k : Int) (p : B) : Bool := l.any fun n => decide (n.p = k) && decide (n.pol = p)
def insL (t xs : List Nd) : List Nd := xs.foldl (fun a x => ins (lt := ltT) x a) t
theorem mem_at {t : List Nd} {n : Nd} : n ∈ t ↔ ∃ i, i < t.length ∧ t[i]! = n := by
  constructor
  · intro h
    obtain ⟨i, hi, e⟩ := List.getElem_of_mem h
    exact ⟨i, hi, by rw [getElem!_pos t i hi]; exact e⟩
  · rintro ⟨i, hi, rfl⟩
    rw [getElem!_pos t i hi]; exact List.getElem_mem hi
theorem insL_length (t xs : List Nd) : (insL t xs).length = t.length + xs.length := fold_length xs t
theorem sort_ins {t : List Nd} (h : Srt ltT t) (xs : List Nd) : sortT (t ++ xs) = insL t xs := srtL_append ltT_ord h
theorem kidB_iff {l : List Nd} {k : Int} {p : B} : kidB l k p = true ↔ ∃ n ∈ l, n.p = k ∧ n.pol = p := by
  unfold kidB; rw [List.any_eq_true]
  simp [-List.getElem!_eq_getElem?_getD]
/-- what the second loop keeps -/
structure R2 (t : List Nd) (D : Int) (S : Nd → Prop) (xs : List Nd) : Prop where
  nd : xs.Nodup
  form : ∀ n ∈ xs, ∃ i p, n = newN D i p
  mem : ∀ n, n ∈ xs ↔ S n
theorem R2.step {t : List Nd} {D : Int} {S : Nd → Prop} {xs : List Nd} (h : R2 t D S xs) (k : Nat) (p : B) (ht : kidB t (k : Nat) p = false) :
    R2 t D (fun n => S n ∨ n = newN D (k : Nat) p) (if kidB (t ++ xs) (k : Nat) p then xs else xs ++ [newN D (k : Nat) p]) := by
  by_cases hk : kidB (t ++ xs) (k : Nat) p = true
  · rw [if_pos hk]
    refine ⟨h.nd, h.form, fun n => ?_⟩
    obtain ⟨n', hn', h1, h2⟩ := kidB_iff.1 hk
    rw [List.mem_append] at hn'
    rcases hn' with hn' | hn'
    · have := kidB_iff.2 ⟨n', hn', h1, h2⟩
      rw [ht] at this; cases this
    · obtain ⟨i, q, rfl⟩ := h.form _ hn'
      unfold newN at h1 h2
      simp only at h1 h2
      subst h1 h2
      rw [h.mem n]
      constructor
      · exact .inl
      · rintro (q | rfl)
        · exact q
        · exact (h.mem _).1 hn'
  · rw [if_neg hk]
    refine ⟨?_, fun n hn => ?_, fun n => ?_⟩
    · rw [List.nodup_append]
      refine ⟨h.nd, by simp, fun a ha b hb e => ?_⟩
      rw [List.mem_singleton] at hb
      subst e hb
      apply hk
      exact kidB_iff.2 ⟨_, List.mem_append.2 (.inr ha), rfl, rfl⟩
    · rw [List.mem_append, List.mem_singleton] at hn
      rcases hn with hn | rfl
      · exact h.form n hn
      · exact ⟨_, _, rfl⟩
    · rw [List.mem_append, List.mem_singleton, h.mem n]
section
variable {t : List Nd} {D : Int}
end
/-- a tree that ends in nodes with a depth; their parents come before them -/
structure Bs (t : List Nd) (D : Int) (a : Nat) : Prop where
  le : a ≤ t.length
  lo : ∀ j, j < a → t[j]!.d < D
  hi : ∀ j, a ≤ j → j < t.length → t[j]!.d = D
  pa : ∀ j, j < t.length → -1 ≤ t[j]!.p ∧ t[j]!.p < a ∧ t[j]!.p < j
theorem ins_lo {x : Nd} : ∀ (A L : List Nd), (∀ n ∈ A, ltT x n = false) → ins (lt := ltT) x (A ++ L) = A ++ ins (lt := ltT) x L
  | [], L, _ => rfl
  | y :: A, L, h => by
    rw [List.cons_append, ins, if_neg (by rw [h y (by simp)]; simp), ins_lo A L fun n hn => h n (by simp [hn])]; rfl
theorem getElem!_append_left' {α : Type} [Inhabited α] {A L : List α} {i : Nat} (h : i < A.length) : (A ++ L)[i]! = A[i]! := by
  rw [List.getElem!_eq_getElem?_getD, List.getElem!_eq_getElem?_getD, List.getElem?_append_left h]
theorem getElem!_append_right' {α : Type} [Inhabited α] {A L : List α} {i : Nat} (h : A.length ≤ i) : (A ++ L)[i]! = L[i - A.length]! := by
  rw [List.getElem!_eq_getElem?_getD, List.getElem!_eq_getElem?_getD, List.getElem?_append_right h]
theorem getElem!_take' {α : Type} [Inhabited α] {l : List α} {a i : Nat} (h : i < a) : (l.take a)[i]! = l[i]! := by
  rw [List.getElem!_eq_getElem?_getD, List.getElem!_eq_getElem?_getD, List.getElem?_take_of_lt h]
theorem Bs.ins {t : List Nd} {D : Int} {a : Nat} (h : Bs t D a) {x : Nd} (hx : x.d = D) (hp : -1 ≤ x.p ∧ x.p < a) :
    Bs (ins (lt := ltT) x t) D a ∧ ∀ j, j < a → (St.ins (lt := ltT) x t)[j]! = t[j]! := by
  have hla : (t.take a).length = a := by rw [List.length_take]; have := h.le; omega
  have e : St.ins (lt := ltT) x t = t.take a ++ St.ins (lt := ltT) x (t.drop a) := by
    conv => lhs; rw [← List.take_append_drop a t]
    apply ins_lo
    intro n hn
    obtain ⟨j, hj, rfl⟩ := mem_at.1 hn
    rw [hla] at hj
    rw [getElem!_take' hj]
    have := h.lo j hj
    rw [ltT_false]
    exact .inl (by omega)
  have hl : (St.ins (lt := ltT) x t).length = t.length + 1 := by
    have := insL_length t [x]; simpa [insL] using this
  have key : ∀ j, j < a → (St.ins (lt := ltT) x t)[j]! = t[j]! := fun j hj => by
    rw [e, getElem!_append_left' (by omega), getElem!_take' hj]
  have hi2 : ∀ j, a ≤ j → j < (St.ins (lt := ltT) x t).length → (St.ins (lt := ltT) x t)[j]!.d = D ∧ -1 ≤ (St.ins (lt := ltT) x t)[j]!.p ∧ (St.ins (lt := ltT) x t)[j]!.p < a := by
    intro j h1 h2
    rw [e, getElem!_append_right' (by omega), hla]
    have hm : (St.ins (lt := ltT) x (t.drop a))[j - a]! ∈ St.ins (lt := ltT) x (t.drop a) := mem_at.2 ⟨j - a, by
      rw [e, List.length_append, hla] at h2; omega, rfl⟩
    rcases (ins_mem _ _ _).1 hm with q | q
    · rw [q]; exact ⟨hx, hp⟩
    · obtain ⟨i, hi, e2⟩ := mem_at.1 q
      rw [List.length_drop] at hi
      have e3 : (t.drop a)[i]! = t[a + i]! := by rw [List.getElem!_eq_getElem?_getD, List.getElem!_eq_getElem?_getD, List.getElem?_drop]
      rw [← e2, e3]
      have := h.pa (a + i) (by omega)
      exact ⟨h.hi _ (by omega) (by omega), this.1, this.2.1⟩
  refine ⟨⟨by have := h.le; omega, fun j hj => by rw [key j hj]; exact h.lo j hj, fun j h1 h2 => (hi2 j h1 h2).1, fun j hj => ?_⟩, key⟩
  rcases Nat.lt_or_ge j a with q | q
  · rw [key j q]; exact h.pa j (by have := h.le; omega)
  · have := hi2 j q hj; exact ⟨this.2.1, this.2.2, by omega⟩
theorem Bs.insL {D : Int} {a : Nat} : ∀ (xs : List Nd) {t : List Nd}, Bs t D a → (∀ x ∈ xs, x.d = D ∧ -1 ≤ x.p ∧ x.p < a) → Bs (insL t xs) D a
  | [], t, h, _ => h
  | x :: xs, t, h, hx => by
    have h1 := (h.ins (hx x (by simp)).1 (hx x (by simp)).2).1
    exact Bs.insL xs h1 fun y hy => hx y (by simp [hy])
theorem Bs.sort {D : Int} {a : Nat} {t : List Nd} (h : Bs t D a) (hs : Srt ltT t) {xs : List Nd} (hx : ∀ x ∈ xs, x.d = D ∧ -1 ≤ x.p ∧ x.p < a) : Bs (sortT (t ++ xs)) D a := by
  rw [sort_ins hs]; exact Bs.insL xs h hx
section
variable {t : List Nd} {D : Int}
end
section
variable {t : List Nd} {D : Int}
end
end Go.Proofs.YtmagjdocondmhaaGreat.Tr
namespace Go.Proofs.YtmagjdocondmhaaGreat.Mp
open Go Go.RowKit Go.Maps
set_option linter.unusedVariables false
set_option linter.unusedSimpArgs false

abbrev DW := DataW Unit
/-- a kind of keys -/
structure Ky (P : Program) (kt : TypeId) (K : Type) where
  lit : K → Lit
  val : K → Value
  ok : K → Prop
  keyed : Keyed P kt
  key : ∀ k, WideAt.IsKeyLit (lit k)
  inj : ∀ a b, lit a = lit b → a = b
  of : ∀ k, ok k → keyOf P kt (val k) = some (lit k)
def I64 (k : Int) : Prop := -9223372036854775808 ≤ k ∧ k ≤ 9223372036854775807
def kyInt {P : Program} {kt : TypeId} (h : P.underlying kt = some (.int .i64)) : Ky P kt Int where
  lit k := .int .i64 k
  val k := .int .i64 k
  ok := I64
  keyed := int_keyed h
  key k := trivial
  inj a b e := by injection e
  of k hk := keyOf_int_mk h ((Lit.wf_int_iff _ _).2 hk)
def kyStr {P : Program} {kt : TypeId} (h : P.underlying kt = some .string) : Ky P kt (List UInt8) where
  lit k := .string k
  val k := .string ⟨k.toArray⟩
  ok k := k.length ≤ maxLen
  keyed := string_keyed h
  key k := trivial
  inj a b e := by injection e
  of k hk := WideMaps.keyOf_string_mk h (by show k.toArray.size ≤ _; simpa using hk)
section
variable {P : Program} {kt e t : TypeId} {K : Type}
structure IsF (Y : Ky P kt K) {γ : Type} (ed : γ → DW) (D : DW) (f : K → Option γ) : Prop where
  tidy : Tidy D
  at_ : ∀ (k : K) z, D.atKey (Y.lit k) z = match f k with | some d => ed d | none => z
  has_ : ∀ k : K, Maps.has D (Y.lit k) = (f k).isSome
variable {γ : Type} {ed : γ → DW} {Y : Ky P kt K}
theorem IsF.empty (Y : Ky P kt K) (ed : γ → DW) : IsF Y ed (.map []) (fun _ => none) := ⟨tidy_empty, fun n z => rfl, fun n => rfl⟩
theorem IsF.put [DecidableEq K] {D : DW} {f : K → Option γ} (h : IsF Y ed D f) (k : K) (x : γ) : IsF Y ed (D.put (Y.lit k) (ed x)) (fun j => if j = k then some x else f j) := by
  refine ⟨h.tidy.put (Y.key k) _, fun m z => ?_, fun m => ?_⟩
  · by_cases q : m = k
    · subst q; rw [atKey_put_same h.tidy.isMap (Y.key _)]; simp
    · rw [atKey_put_other (fun q2 => q (Y.inj _ _ q2)), h.at_ m z]; simp [q]
  · by_cases q : m = k
    · subst q; rw [has_put_same h.tidy.isMap (Y.key _)]; simp
    · rw [has_put_other (fun q2 => q (Y.inj _ _ q2)), h.has_ m]; simp [q]
/-- a block that is a map -/
def OwnF (w : World) (Y : Ky P kt K) (R : Value → Option (DW × List MemPlace)) (ed : γ → DW) (b n : Nat) (f : K → Option γ) : Prop := ∃ D : DW, w.ownsMap P kt R b n D ∧ IsF Y ed D f
variable {R : Value → Option (DW × List MemPlace)} {w : World} {b n : Nat} {f : K → Option γ}
theorem OwnF.lt (h : OwnF w Y R ed b n f) : b < w.heap.size := by obtain ⟨D, h, _⟩ := h; exact h.lt
theorem OwnF.kept {w' : World} {row : Option Nat} (h : OwnF w Y R ed b n f) (hg : w.grownBy w' row) (hne : some b ≠ row) : OwnF w' Y R ed b n f := by
  obtain ⟨D, h, hm⟩ := h; exact ⟨D, h.kept hg hne, hm⟩
theorem OwnF.block {w' : World} (h : OwnF w Y R ed b n f) (hb : w'.heap[b]? = w.heap[b]?) : OwnF w' Y R ed b n f := by
  obtain ⟨D, ⟨es, clock, hh, r⟩, hm⟩ := h
  exact ⟨D, ⟨es, clock, by rw [hb]; exact hh, r⟩, hm⟩
theorem OwnF.below {w' : World} (h : OwnF w Y R ed b n f) (hb : Below w.heap.size w w') : OwnF w' Y R ed b n f := h.block (hb.block b h.lt)
theorem OwnF.mono {n' : Nat} (h : OwnF w Y R ed b n f) (hn : n ≤ n') : OwnF w Y R ed b n' f := by
  obtain ⟨D, h, hm⟩ := h; exact ⟨D, h.mono hn, hm⟩
theorem OwnF.made (w : World) (Y : Ky P kt K) (R : Value → Option (DW × List MemPlace)) (ed : γ → DW) : OwnF (w.alloc (.map #[] 0)) Y R ed w.heap.size 0 (fun _ => none) := ⟨_, World.ownsMap_made w P kt R, IsF.empty Y ed⟩
theorem OwnF.put [DecidableEq K] (h : OwnF w Y R ed b n f) (ht : P.underlying t = some (.map kt e)) (hn : n < maxLen) {k : K} (hw : Y.ok k) (x : γ) (v : Value) (hx : R v = some (ed x, [])) :
    ∃ w', (Instr.mapUpdate t (.map (some b)) (Y.val k) v).run P w = .ok () w' ∧ OwnF w' Y R ed b (n + 1) (fun j => if j = k then some x else f j) ∧ w.grownBy w' (some b) := by
  obtain ⟨D, h, hm⟩ := h
  obtain ⟨w', h1, h2, h3⟩ := h.update Y.keyed ht hn (Y.of k hw) hx
  exact ⟨w', h1, ⟨_, h2, hm.put k x⟩, h3⟩
theorem OwnF.look (h : OwnF w Y R ed b n f) (ht : P.underlying t = some (.map kt e)) (ev : γ → Value) (z0 : γ) (hz : (zeroValue e).run P w = .ok (ev z0) w) (hR : ∀ x, R (ev x) = some (ed x, []))
    (hinv : ∀ v x ps, R v = some (ed x, ps) → v = ev x) {k : K} (hw : Y.ok k) :
    (Instr.lookup t (.map (some b)) (Y.val k) false).run P w = .ok (ev ((f k).getD z0)) w ∧
    (Instr.lookup t (.map (some b)) (Y.val k) true).run P w = .ok (.tuple #[ev ((f k).getD z0), .bool (f k).isSome]) w := by
  obtain ⟨D, h, hm⟩ := h
  have hat : D.atKey (Y.lit k) (ed z0) = ed ((f k).getD z0) := by rw [hm.at_]; cases f k <;> rfl
  obtain ⟨v, ps, h1, h2⟩ := h.lookup Y.keyed ht hz (hR z0) (Y.of k hw)
  obtain ⟨v', ps', h1', h2'⟩ := h.look_ok Y.keyed ht hz (hR z0) (Y.of k hw)
  rw [hm.has_] at h1'
  rw [hat] at h2 h2'
  exact ⟨by rw [h1, hinv _ _ _ h2], by rw [h1', hinv _ _ _ h2']⟩
end
section
variable {P : Program} {kt e t : TypeId} {γ : Type} {ed : γ → DW} {R : Value → Option (DW × List MemPlace)} {w : World} {b n : Nat}
theorem OwnF.putI {hk : P.underlying kt = some (.int .i64)} {f : Int → Option γ} (h : OwnF w (kyInt hk) R ed b n f) (ht : P.underlying t = some (.map kt e)) (hn : n < maxLen) {k : Int} (hw : I64 k) (x : γ) (v : Value) (hx : R v = some (ed x, [])) :
    ∃ w', (Instr.mapUpdate t (.map (some b)) (.int .i64 k) v).run P w = .ok () w' ∧ OwnF w' (kyInt hk) R ed b (n + 1) (fun j => if j = k then some x else f j) ∧ w.grownBy w' (some b) := h.put ht hn (k := k) hw x v hx
theorem OwnF.putS {hk : P.underlying kt = some .string} {f : List UInt8 → Option γ} (h : OwnF w (kyStr hk) R ed b n f) (ht : P.underlying t = some (.map kt e)) (hn : n < maxLen) {k : List UInt8} (hw : k.length ≤ maxLen) (x : γ) (v : Value) (hx : R v = some (ed x, [])) :
    ∃ w', (Instr.mapUpdate t (.map (some b)) (.string ⟨k.toArray⟩) v).run P w = .ok () w' ∧ OwnF w' (kyStr hk) R ed b (n + 1) (fun j => if j = k then some x else f j) ∧ w.grownBy w' (some b) := h.put ht hn (k := k) hw x v hx
theorem OwnF.lookI {hk : P.underlying kt = some (.int .i64)} {f : Int → Option γ} (h : OwnF w (kyInt hk) R ed b n f) (ht : P.underlying t = some (.map kt e)) (ev : γ → Value) (z0 : γ) (hz : (zeroValue e).run P w = .ok (ev z0) w) (hR : ∀ x, R (ev x) = some (ed x, []))
    (hinv : ∀ v x ps, R v = some (ed x, ps) → v = ev x) {k : Int} (hw : I64 k) :
    (Instr.lookup t (.map (some b)) (.int .i64 k) false).run P w = .ok (ev ((f k).getD z0)) w ∧
    (Instr.lookup t (.map (some b)) (.int .i64 k) true).run P w = .ok (.tuple #[ev ((f k).getD z0), .bool (f k).isSome]) w := h.look ht ev z0 hz hR hinv (k := k) hw
theorem OwnF.lookS {hk : P.underlying kt = some .string} {f : List UInt8 → Option γ} (h : OwnF w (kyStr hk) R ed b n f) (ht : P.underlying t = some (.map kt e)) (ev : γ → Value) (z0 : γ) (hz : (zeroValue e).run P w = .ok (ev z0) w) (hR : ∀ x, R (ev x) = some (ed x, []))
    (hinv : ∀ v x ps, R v = some (ed x, ps) → v = ev x) {k : List UInt8} (hw : k.length ≤ maxLen) :
    (Instr.lookup t (.map (some b)) (.string ⟨k.toArray⟩) false).run P w = .ok (ev ((f k).getD z0)) w ∧
    (Instr.lookup t (.map (some b)) (.string ⟨k.toArray⟩) true).run P w = .ok (.tuple #[ev ((f k).getD z0), .bool (f k).isSome]) w := h.look ht ev z0 hz hR hinv (k := k) hw
end
/-- elements that are bools, ints -/
abbrev edB (b : Bool) : DW := .lit (.bool b)
abbrev edI (x : Int) : DW := .lit (.int .i64 x)
def rdB : Value → Option (DW × List MemPlace)
  | .bool b => some (edB b, [])
  | _ => none
def rdI : Value → Option (DW × List MemPlace)
  | .int .i64 x => some (edI x, [])
  | _ => none
theorem rdB_mk (b : Bool) : rdB (.bool b) = some (edB b, []) := rfl
theorem rdI_mk (x : Int) : rdI (.int .i64 x) = some (edI x, []) := rfl
theorem rdB_inv (v : Value) (b : Bool) (ps : List MemPlace) (h : rdB v = some (edB b, ps)) : v = .bool b := by
  unfold rdB at h
  split at h
  · simp only [Option.some.injEq, Prod.mk.injEq, DataW.lit.injEq, Lit.bool.injEq] at h; rw [h.1]
  · cases h
theorem rdI_inv (v : Value) (b : Int) (ps : List MemPlace) (h : rdI v = some (edI b, ps)) : v = .int .i64 b := by
  unfold rdI at h
  split at h
  · simp only [Option.some.injEq, Prod.mk.injEq, DataW.lit.injEq, Lit.int.injEq, true_and] at h; rw [h.1]
  · cases h
/-- elements that are slices -/
structure Sg where
  ad : Option (Nat × Nat)
  n : Nat
  c : Nat
def Sg.val (s : Sg) : Value := .slice (s.ad.map fun p => ⟨p.1, p.2, none⟩) s.n s.c
def edS (s : Sg) : DW := match s.ad with
  | none => .agg [.lit (.int .i64 s.n), .lit (.int .i64 s.c)]
  | some p => .agg [.lit (.int .i64 p.1), .lit (.int .i64 p.2), .lit (.int .i64 s.n), .lit (.int .i64 s.c)]
def rdS : Value → Option (DW × List MemPlace)
  | .slice none n c => some (edS ⟨none, n, c⟩, [])
  | .slice (some ⟨b, o, none⟩) n c => some (edS ⟨some (b, o), n, c⟩, [])
  | _ => none
theorem rdS_mk (s : Sg) : rdS s.val = some (edS s, []) := by
  obtain ⟨ad, n, c⟩ := s
  cases ad <;> rfl
theorem edS_inj {s s' : Sg} (h : edS s = edS s') : s = s' := by
  obtain ⟨ad, n, c⟩ := s
  obtain ⟨ad', n', c'⟩ := s'
  unfold edS at h
  cases ad <;> cases ad' <;> simp at h
  · obtain ⟨h1, h2⟩ := h; congr 1 <;> omega
  · rename_i p q
    obtain ⟨p1, p2⟩ := p
    obtain ⟨q1, q2⟩ := q
    simp at h
    obtain ⟨h1, h2, h3, h4⟩ := h
    obtain rfl : p1 = q1 := by omega
    obtain rfl : p2 = q2 := by omega
    congr 1 <;> omega
theorem rdS_inv (v : Value) (s : Sg) (ps : List MemPlace) (h : rdS v = some (edS s, ps)) : v = s.val := by
  unfold rdS at h
  split at h
  · simp only [Option.some.injEq, Prod.mk.injEq] at h
    rw [← edS_inj h.1]; rfl
  · simp only [Option.some.injEq, Prod.mk.injEq] at h
    rw [← edS_inj h.1]; rfl
  · cases h
end Go.Proofs.YtmagjdocondmhaaGreat.Mp
namespace Go.Proofs.YtmagjdocondmhaaGreat.Tr
open Go Go.RowKit Go.Proofs.YtmagjdocondmhaaGreat.Slc Go.Proofs.YtmagjdocondmhaaGreat.St Go.Proofs.YtmagjdocondmhaaGreat.Mp
set_option linter.unusedVariables false
set_option linter.unusedSimpArgs false
attribute [local go_sem] Oper.semAt_some

theorem u_int : Tryz.prog.underlying 3 = some (.int .i64) := Tryz.underlying3
theorem u_mapIB : Tryz.prog.underlying 72 = some (.map 3 4) := Tryz.underlying72
noncomputable abbrev kI : Ky Tryz.prog 3 Int := kyInt u_int
theorem nds_len (l : List Nt) : (nds l).length = l.length := by simp [nds]
end Go.Proofs.YtmagjdocondmhaaGreat.Tr
