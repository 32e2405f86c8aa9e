/-
  The reference's way to say what is in force, and the program's: plain.
-/
import Derived.Test.YtpagoinnkknkfaaPbHist
namespace Go.Proofs.Ytpagoinnkknkfaa.Pb
open Go Go.Proofs.Ytpagoinnkknkfaa.St
set_option linter.unusedVariables false

/-- whether a change of a list has this serial -/
def anyS (l : List Ch) (s : Int) : Bool := l.any (fun c => c.s == s)
/-- whether a later change has the serial of the i-th -/
def laterB (l : List Ch) (i : Nat) (s : Int) : Bool := anyS (l.drop (i + 1)) s
def enOf (nm : Nm) (c : Ch) : En := ⟨c.s, c.t, c.r, c.v, nm⟩
/-- what the i-th change adds to the reference's entries -/
def curI (nm : Nm) (l : List Ch) (i : Nat) (c : Ch) : List En := if laterB l i c.s || (c.r == 8) then [] else [enOf nm c]
/-- the reference's entries of the changes that l begins with -/
def curU (nm : Nm) : List Ch → List En
  | [] => []
  | c :: l => (if anyS l c.s || (c.r == 8) then [] else [enOf nm c]) ++ curU nm l
def curK (nm : Nm) (l : List Ch) (k : Nat) : List En := ((List.range k).map fun i => match l[i]? with | some c => curI nm l i c | none => []).flatten
def curR (nm : Nm) (l : List Ch) : List En := sortE (curK nm l l.length)
theorem curK_zero (nm : Nm) (l : List Ch) : curK nm l 0 = [] := rfl
theorem curK_succ (nm : Nm) (l : List Ch) (k : Nat) (h : k < l.length) : curK nm l (k + 1) = curK nm l k ++ curI nm l k l[k] := by
  unfold curK
  rw [List.range_succ, List.map_append, List.flatten_append, List.map_singleton, List.flatten_singleton, List.getElem?_eq_getElem h]
theorem curK_eq (nm : Nm) : ∀ l : List Ch, curK nm l l.length = curU nm l
  | [] => rfl
  | c :: l => by
    rw [curU, ← curK_eq nm l]
    unfold curK
    rw [List.length_cons, List.range_succ_eq_map, List.map_cons, List.flatten_cons, List.map_map]
    rfl
theorem kset_any (l : List Ch) (s : Int) : s ∈ kset l ↔ anyS l s = true := by
  rw [kset_mem, anyS, List.any_eq_true]; simp
theorem last_cons (c : Ch) (l : List Ch) (s : Int) : lastOf (c :: l) s = if anyS l s then lastOf l s else if c.s = s then some c else none := by
  unfold lastOf
  rw [List.reverse_cons, List.find?_append]
  have h : anyS l s = (l.reverse.find? (fun c => c.s == s)).isSome := by
    rw [anyS, Bool.eq_iff_iff, List.any_eq_true, List.find?_isSome]; simp
  cases q : l.reverse.find? (fun c => c.s == s) with
  | some x => rw [h, q]; simp
  | none =>
    rw [h, q]
    simp only [Option.isSome_none, Bool.false_eq_true, if_false, Option.none_or, List.find?_cons, List.find?_nil]
    by_cases e : c.s = s
    · simp [e]
    · rw [beq_eq_false_iff_ne.2 e, if_neg e]
theorem filterMap_same {α β : Type} (f g : α → Option β) : ∀ (l : List α), (∀ x ∈ l, f x = g x) → l.filterMap f = l.filterMap g
  | [], _ => rfl
  | x :: l, h => by
    rw [List.filterMap_cons, List.filterMap_cons, h x (by simp), filterMap_same f g l fun y hy => h y (by simp [hy])]
/-- the serials' entries, one after the other -/
theorem curU_kset (nm : Nm) : ∀ (l : List Ch), (kset l).filterMap (curOne nm l) = curU nm l
  | [] => rfl
  | c :: l => by
    have ih := curU_kset nm l
    have hrest : (kset l).filterMap (curOne nm (c :: l)) = (kset l).filterMap (curOne nm l) := by
      refine filterMap_same _ _ _ fun s hs => ?_
      have := (kset_any l s).1 hs
      unfold curOne
      rw [last_cons, if_pos this]
    rw [kset, curU]
    by_cases h : c.s ∈ kset l
    · rw [if_pos h, hrest, ih, (kset_any l c.s).1 h]; simp
    · have h2 : anyS l c.s = false := by
        cases q : anyS l c.s with
        | false => rfl
        | true => exact absurd ((kset_any l c.s).2 q) h
      rw [if_neg h, List.filterMap_cons, hrest, ih, h2]
      have h3 : curOne nm (c :: l) c.s = if c.r = 8 then none else some (enOf nm c) := by
        unfold curOne
        rw [last_cons, h2]; simp [enOf]
      rw [h3]
      by_cases h8 : c.r = 8 <;> simp [h8]
theorem curOne_s {nm : Nm} {l : List Ch} {s : Int} {e : En} (h : curOne nm l s = some e) : e.s = s := by
  unfold curOne at h
  split at h
  · split at h
    · cases h
    · simp only [Option.some.injEq] at h; subst h; rfl
  · cases h
theorem ksort_lt (l : List Ch) : (ksort l).Pairwise (fun a b => a < b) := by
  have h1 : (ksort l).Pairwise (fun a b => decide (a ≤ b) = true) := List.pairwise_mergeSort (fun a b c h h' => by simp at *; omega) (fun a b => by simp; omega) _
  have h2 : (ksort l).Nodup := (List.mergeSort_perm (kset l) _).nodup_iff.2 (kset_nodup l)
  rw [List.nodup_iff_pairwise_ne] at h2
  refine (h1.and h2).imp fun {a b} h => ?_
  have := h.1
  simp at this
  have := h.2
  omega
theorem curE_lt (nm : Nm) (l : List Ch) : (curE nm l).Pairwise (fun a b => a.s < b.s) := by
  unfold curE
  rw [List.pairwise_filterMap]
  refine (ksort_lt l).imp fun {a b} h e he e' he' => ?_
  rw [curOne_s he, curOne_s he']; exact h
theorem curE_mem (nm : Nm) (l : List Ch) (e : En) : e ∈ curE nm l ↔ curOne nm l e.s = some e := by
  unfold curE
  rw [List.mem_filterMap]
  constructor
  · rintro ⟨s, -, h⟩
    have := curOne_s h
    subst this; exact h
  · intro h
    refine ⟨e.s, ?_, h⟩
    unfold ksort
    rw [(List.mergeSort_perm (kset l) _).mem_iff, kset_mem, ← last_isSome]
    unfold curOne at h
    cases q : lastOf l e.s with
    | some x => rfl
    | none => rw [q] at h; cases h
theorem cur_eq (nm : Nm) (l : List Ch) : curR nm l = curE nm l := by
  have hp : (curE nm l).Perm (curR nm l) := by
    unfold curR
    rw [curK_eq, ← curU_kset]
    exact ((List.mergeSort_perm (kset l) _).filterMap _).trans (sort_perm _).symm
  have h1 := curE_lt nm l
  have h2 : (curR nm l).Pairwise (fun a b => a.s ≤ b.s) := by
    refine (sortE_ok (curK nm l l.length)).1.imp fun {a b} h => ?_
    simp [ltN] at h; exact h
  refine (hp.eq_of_pairwise (le := fun a b => a.s ≤ b.s) (fun a b ha hb hab hba => ?_) (h1.imp fun {a b} h => Int.le_of_lt h) h2).symm
  have ea := (curE_mem nm l a).1 ha
  have eb := (curE_mem nm l b).1 (hp.mem_iff.2 hb)
  have e : a.s = b.s := by omega
  rw [e, eb] at ea
  simpa using ea.symm
theorem enOf_s (nm : Nm) (c : Ch) : (enOf nm c).s = c.s := rfl
end Go.Proofs.Ytpagoinnkknkfaa.Pb
