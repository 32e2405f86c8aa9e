/-
The stable sort in plain Lean: lists that are alike class by class (Stab), sorted lists (Srt); a sorted list that is alike is one alone; the merge by rotation.
A slice that the call owns, between append's words and the sort's words, at elements of z cells.
Plain facts for the stable sort above twenty elements: stretches that change places, the rotation, the binary searches, sorted chunks.
The order of a tree's nodes: cmp.Compare, cmp.Or, before.
Small functions on nodes and strings: special, onlyAny, ascending.
certpathref30.In.
The policy graph's values: vertices, levels; read only, owned; frames.
-/
import Derived.ProofKit
import Derived.Sort.WalkA
import Derived.Test.YtmagjdocondmhaaGreatPkSs01
import Derived.Shelf.SlSortCmp.KitK
import Derived.Test.YtmagjdocondmhaaGreatPkSs02
import Derived.Test.YtmagjdocondmhaaGreatShelf
import Derived.WalkLawsBesides
import Derived.BigRegion
import Derived.Deep.LoopGhost
import Derived.Shelf.SlSortCmp.QuietGrown
import Derived.Lib.Hide
import Derived.Deep.CutRange
import Derived.Deep.DeepCutAuto
namespace Go.Proofs.YtmagjdocondmhaaGreat.St
set_option linter.unusedVariables false
set_option linter.unusedSimpArgs false

section
variable {α : Type} (lt : α → α → Bool)

/-- a strict weak order -/
structure Ord : Prop where
  irr : ∀ x, lt x x = false
  tr : ∀ x y z, lt x y = true → lt y z = true → lt x z = true
  co : ∀ x y z, lt x y = false → lt y z = false → lt x z = false

def eqv (x y : α) : Bool := !lt x y && !lt y x
def Stab (l l' : List α) : Prop := ∀ x, l.filter (eqv lt x) = l'.filter (eqv lt x)
def Srt (l : List α) : Prop := l.Pairwise fun x y => lt y x = false
variable {lt}

theorem Ord.asym (O : Ord lt) {x y : α} (h : lt x y = true) : lt y x = false := by
  cases h' : lt y x with
  | false => rfl
  | true => have := O.tr _ _ _ h h'; rw [O.irr] at this; cases this
theorem Ord.lt_of' (O : Ord lt) {x y z : α} (h : lt y z = false) (h' : lt x z = true) : lt x y = true := by
  cases q : lt x y with
  | true => rfl
  | false => have := O.co _ _ _ q h; rw [h'] at this; cases this
theorem eqv_refl (O : Ord lt) (x : α) : eqv lt x x = true := by simp [eqv, O.irr]
theorem eqv_def {x y : α} : eqv lt x y = true ↔ lt x y = false ∧ lt y x = false := by simp [eqv]
theorem Stab.refl (l : List α) : Stab lt l l := fun _ => rfl
theorem Stab.symm {l l' : List α} (h : Stab lt l l') : Stab lt l' l := fun x => (h x).symm
theorem Stab.trans {l l' l'' : List α} (h : Stab lt l l') (h' : Stab lt l' l'') : Stab lt l l'' := fun x => (h x).trans (h' x)
theorem Stab.append {l l' m m' : List α} (h : Stab lt l l') (h' : Stab lt m m') : Stab lt (l ++ m) (l' ++ m') := fun x => by
  rw [List.filter_append, List.filter_append, h x, h' x]
theorem Stab.mid {l l' : List α} (h : Stab lt l l') (p q : List α) : Stab lt (p ++ l ++ q) (p ++ l' ++ q) := ((Stab.refl p).append h).append (Stab.refl q)
theorem Stab.mem {l l' : List α} (O : Ord lt) (h : Stab lt l l') {x : α} (hx : x ∈ l) : x ∈ l' := by
  have : x ∈ l.filter (eqv lt x) := List.mem_filter.2 ⟨hx, eqv_refl O x⟩
  rw [h x] at this
  exact (List.mem_filter.1 this).1
theorem Stab.mem_iff {l l' : List α} (O : Ord lt) (h : Stab lt l l') {x : α} : x ∈ l ↔ x ∈ l' := ⟨h.mem O, h.symm.mem O⟩
/-- two stretches of which every element of the second is less change places -/
theorem Stab.swap (O : Ord lt) {U V : List α} (h : ∀ u ∈ U, ∀ v ∈ V, lt v u = true) : Stab lt (U ++ V) (V ++ U) := fun x => by
  rw [List.filter_append, List.filter_append]
  by_cases hU : U.filter (eqv lt x) = []
  · rw [hU]; simp
  · have hV : V.filter (eqv lt x) = [] := by
      rw [List.filter_eq_nil_iff]
      intro v hv hxv
      obtain ⟨u, hu⟩ := List.exists_mem_of_ne_nil _ hU
      obtain ⟨hu1, hu2⟩ := List.mem_filter.1 hu
      rw [eqv_def] at hu2 hxv
      have h1 := h u hu1 v hv
      have h2 := O.co _ _ _ hxv.2 hu2.1
      rw [h1] at h2; cases h2
    rw [hV]; simp
theorem Srt.nil : Srt lt ([] : List α) := List.Pairwise.nil
theorem Srt.append {l m : List α} : Srt lt (l ++ m) ↔ Srt lt l ∧ Srt lt m ∧ ∀ x ∈ l, ∀ y ∈ m, lt y x = false := List.pairwise_append
theorem Srt.singleton (x : α) : Srt lt [x] := List.pairwise_singleton _ _

theorem Stab.tail (O : Ord lt) {a : α} {l l' : List α} (h : Stab lt (a :: l) (a :: l')) : Stab lt l l' := fun x => by
  have := h x
  rw [List.filter_cons, List.filter_cons] at this
  split at this
  · simpa using this
  · exact this
/-- sorted and alike: one and the same -/
theorem srt_unique (O : Ord lt) : ∀ (l l' : List α), Srt lt l → Srt lt l' → Stab lt l l' → l = l'
  | [], [], _, _, _ => rfl
  | [], b :: l', _, _, h => by have := h.symm.mem O (List.mem_cons_self (a := b) (l := l')); cases this
  | a :: l, [], _, _, h => by have := h.mem O (List.mem_cons_self (a := a) (l := l)); cases this
  | a :: l, b :: l', hs, hs', h => by
    have hs1 := hs
    have hs2 := hs'
    rw [Srt, List.pairwise_cons] at hs1 hs2
    have e : eqv lt a b = true := by
      rw [eqv_def]
      constructor
      · rcases List.mem_cons.1 (h.mem O (List.mem_cons_self (a := a) (l := l))) with q | q
        · subst q; exact O.irr _
        · exact hs2.1 a q
      · rcases List.mem_cons.1 (h.symm.mem O (List.mem_cons_self (a := b) (l := l'))) with q | q
        · subst q; exact O.irr _
        · exact hs1.1 b q
    have h1 := h a
    rw [List.filter_cons, List.filter_cons, if_pos (eqv_refl O a), if_pos e] at h1
    obtain rfl : a = b := (List.cons.inj h1).1
    rw [srt_unique O l l' hs1.2 hs2.2 (h.tail O)]

theorem Stab.perm (O : Ord lt) : ∀ (l l' : List α), Stab lt l l' → l.Perm l'
  | [], [], _ => List.Perm.nil
  | [], b :: l', h => by have := h.symm.mem O (List.mem_cons_self (a := b) (l := l')); cases this
  | a :: l, l', h => by
    obtain ⟨s, r, hs⟩ := List.append_of_mem (h.mem O (List.mem_cons_self (a := a) (l := l)))
    -- the first of a's class in l'
    have h1 := h a
    rw [List.filter_cons, if_pos (eqv_refl O a)] at h1
    obtain ⟨s1, r1, e1, e2, e3⟩ : ∃ s1 r1, l' = s1 ++ a :: r1 ∧ s1.filter (eqv lt a) = [] ∧ r1.filter (eqv lt a) = l.filter (eqv lt a) := by
      clear hs s r h
      induction l' with
      | nil => simp at h1
      | cons b l' ih =>
        rw [List.filter_cons] at h1
        by_cases hb : eqv lt a b = true
        · rw [if_pos hb] at h1
          obtain ⟨rfl, h2⟩ := List.cons.inj h1
          exact ⟨[], l', rfl, rfl, h2.symm⟩
        · rw [if_neg hb] at h1
          obtain ⟨s1, r1, e1, e2, e3⟩ := ih h1
          exact ⟨b :: s1, r1, by rw [e1]; rfl, by rw [List.filter_cons, if_neg hb]; exact e2, e3⟩
    subst e1
    have hst : Stab lt l (s1 ++ r1) := by
      intro x
      have hx := h x
      rw [List.filter_cons, List.filter_append, List.filter_cons] at hx
      rw [List.filter_append]
      by_cases hxa : eqv lt x a = true
      · rw [if_pos hxa, if_pos hxa] at hx
        have hs0 : s1.filter (eqv lt x) = [] := by
          rw [List.filter_eq_nil_iff] at e2 ⊢
          intro y hy hxy
          apply e2 y hy
          rw [eqv_def] at hxa hxy ⊢
          exact ⟨O.co _ _ _ hxa.2 hxy.1, O.co _ _ _ hxy.2 hxa.1⟩
        rw [hs0] at hx ⊢
        simpa using hx
      · rw [if_neg hxa, if_neg hxa] at hx
        exact hx
    exact ((Stab.perm O l (s1 ++ r1) hst).cons a).trans List.perm_middle.symm
theorem Stab.length {l l' : List α} (h : Stab lt l l') (O : Ord lt) : l.length = l'.length := (Stab.perm O l l' h).length_eq

/-- sorted by insertion, from the left: the specification -/
def ins (x : α) : List α → List α
  | [] => [x]
  | y :: l => if lt x y then x :: y :: l else y :: ins x l
end

section
variable {α : Type} {lt : α → α → Bool}
end
end Go.Proofs.YtmagjdocondmhaaGreat.St
namespace Go.Proofs.YtmagjdocondmhaaGreat.St
open Go Go.RowKit Go.Sort Go.Proofs.YtmagjdocondmhaaGreat.Slc
set_option linter.unusedVariables false
set_option linter.unusedSimpArgs false

section
variable {α : Type} [Inhabited α] {t : TypeId} {z : Nat} {enc : α → List Value}
theorem flatK_list (E : Enc z enc) (l : List α) : (flatK enc z l.toArray).toList = l.flatMap enc := by
  have hz := E.pos
  apply List.ext_getElem
  · rw [Array.length_toList, size_flatK, flat_len E, List.size_toArray]
  · intro i h1 h2
    have hi : i < l.length * z := by rw [← flat_len E]; exact h2
    have hq : i / z < l.length := Nat.div_lt_of_lt_mul (by rw [Nat.mul_comm]; exact hi)
    have hj : i % z < z := Nat.mod_lt _ hz
    have e : i = i / z * z + i % z := by rw [Nat.mul_comm]; exact (Nat.div_add_mod i z).symm
    have f := flat_at E l (i / z) (i % z) hq hj
    rw [← e] at f
    have g := get_flatK enc z l.toArray i (by simpa using hi)
    have hsz : i < (flatK enc z l.toArray).size := by simpa using hi
    rw [getElem!_pos _ i hsz] at g
    have hg : l.toArray[i / z]! = l[i / z] := by rw [getElem!_pos _ _ (by simpa using hq)]; simp
    rw [hg] at g
    have hlen : i % z < (enc l[i / z]).length := by rw [E.len]; exact hj
    rw [getElem!_pos (enc l[i / z]) (i % z) hlen] at g
    rw [List.getElem?_eq_getElem h2, List.getElem?_eq_getElem hlen] at f
    rw [Array.getElem_toList, g]
    exact (Option.some.inj f).symm
theorem own_sorted (E : Enc z enc) {w W : World} {B g n cap : Nat} {l : List α} {dk : Array α} (h : Own w B t z enc (.slice (some ⟨g, 0, none⟩) n cap) l) (hs : dk.size = l.length) (hS : SWK enc z w g 0 dk W) :
    Own W B t z enc (.slice (some ⟨g, 0, none⟩) n cap) dk.toList ∧ w.grownBy W (some g) := by
  obtain ⟨m, os, rfl⟩ := hS
  rcases h.2 with ⟨h0, hn⟩ | ⟨g', cap', cur, hv, hB, hb, hc, hm, hcs, ht⟩
  · simp at h0
  simp only [Value.slice.injEq, Option.some.injEq, Addr.mk.injEq] at hv
  obtain ⟨⟨rfl, -⟩, rfl, rfl⟩ := hv
  have hg : g < w.heap.size := lt_of_block hb
  obtain ⟨F, hF⟩ : ∃ F, F = flatK enc z dk := ⟨_, rfl⟩
  have hFs : F.size = l.length * z := by rw [hF, size_flatK, hs]
  have hdl : dk.toList.length = l.length := by rw [Array.length_toList]; exact hs
  have hFl : F.toList = dk.toList.flatMap enc := by rw [hF, ← flatK_list E]
  unfold sortWorldK putRowK
  rw [← hF]
  have hheap : (grow (putRow id (Sort.ahead w m) g 0 F) os).heap[g]? = some (.cells (putCells id 0 F cur) t (0, 0)) := by
    rw [heap_grow_old _ _ (by simpa using hg)]
    simp [putRow, mapBlock, Sort.ahead, Array.getElem?_modify, hb, onCells]
  refine ⟨⟨by rw [← hFl, hdl, ← hFs]; exact Array.length_toList, .inr ⟨g, cap, putCells id 0 F cur, by rw [hdl], hB, hheap, by rw [hdl]; exact hc, hm, by simp [putCells, hcs], ?_⟩⟩, ⟨rfl, rfl, rfl, by simp, fun k hk hne => ?_⟩⟩
  · rw [hdl, ← hFl]
    have hle : l.length * z ≤ cur.size := by rw [hcs]; exact Nat.mul_le_mul_right z hc
    apply List.ext_getElem?
    intro j
    by_cases hj : j < l.length * z
    · rw [List.getElem?_take_of_lt hj, Array.getElem?_toList, Array.getElem?_toList]
      have h1 : j < cur.size := by omega
      have h2 : j < F.size := by omega
      simp [putCells, h1, h2]
    · rw [List.getElem?_take_eq_none (by omega), List.getElem?_eq_none (by have : F.toList.length = F.size := Array.length_toList; omega)]
  · rw [heap_grow_old _ _ (by simpa using hk)]
    have : g ≠ k := fun e => hne (by rw [e])
    simp [putRow, mapBlock, Sort.ahead, Array.getElem?_modify, this]
end
end Go.Proofs.YtmagjdocondmhaaGreat.St
namespace Go.Proofs.YtmagjdocondmhaaGreat.St
open Go.Sort
set_option linter.unusedVariables false
set_option linter.unusedSimpArgs false

section
variable {α : Type}
end

section
variable {α : Type} {lt : α → α → Bool}
theorem Srt.sub {l m r : List α} (h : Srt lt (l ++ (m ++ r))) : Srt lt m := (Srt.append.1 (Srt.append.1 h).2.1).1
end
end Go.Proofs.YtmagjdocondmhaaGreat.St
namespace Go.Proofs.YtmagjdocondmhaaGreat.Tr
open Go Go.RowKit Go.Sort Go.Proofs.YtmagjdocondmhaaGreat.Slc Go.Proofs.YtmagjdocondmhaaGreat.St
set_option linter.unusedVariables false
set_option linter.unusedSimpArgs false
attribute [local go_sem] Oper.semAt_some

def cmpI (a b : Int) : Int := if a < b then -1 else if b < a then 1 else 0
def cmpB (a b : B) : Int := if a < b then -1 else if b < a then 1 else 0
def or3 (a b c : Int) : Int := if a ≠ 0 then a else if b ≠ 0 then b else c
def befI (x y : Nd) : Int := or3 (cmpI x.d y.d) (cmpI x.p y.p) (cmpB x.pol y.pol)
def ltT (x y : Nd) : Bool := decide (befI x y < 0)
theorem cmpI_lt (a b : Int) : cmpI a b < 0 ↔ a < b := by 
  unfold cmpI
  split
  · simp [*]
  · split <;> simp [*]
theorem cmpI_zero (a b : Int) : cmpI a b = 0 ↔ a = b := by 
  unfold cmpI
  split
  · constructor <;> intro h <;> omega
  · split <;> (constructor <;> intro h <;> omega)
theorem ltB_irr (a : B) : ¬ a < a := List.lt_irrefl a
theorem leB_iff (a b : B) : a ≤ b ↔ ¬ b < a := Iff.rfl
theorem ltB_co {a b c : B} (h : ¬ a < b) (h' : ¬ b < c) : ¬ a < c := (leB_iff c a).1 (List.le_trans ((leB_iff c b).2 h') ((leB_iff b a).2 h))
theorem ltB_tr {a b c : B} (h : a < b) (h' : b < c) : a < c := List.lt_trans h h'
theorem eqB {a b : B} (h : ¬ a < b) (h' : ¬ b < a) : a = b := List.le_antisymm ((leB_iff a b).2 h') ((leB_iff b a).2 h)
theorem cmpB_lt (a b : B) : cmpB a b < 0 ↔ a < b := by
  unfold cmpB
  split
  · simp [*]
  · split <;> simp [*]
theorem ltT_iff (x y : Nd) : ltT x y = true ↔ x.d < y.d ∨ (x.d = y.d ∧ (x.p < y.p ∨ (x.p = y.p ∧ x.pol < y.pol))) := by
  unfold ltT befI or3
  rw [decide_eq_true_eq]
  by_cases h1 : cmpI x.d y.d = 0
  · rw [if_neg (by simpa using h1)]
    have e1 := (cmpI_zero _ _).1 h1
    by_cases h2 : cmpI x.p y.p = 0
    · rw [if_neg (by simpa using h2)]
      have e2 := (cmpI_zero _ _).1 h2
      rw [cmpB_lt]
      constructor
      · intro h; exact .inr ⟨e1, .inr ⟨e2, h⟩⟩
      · rintro (h | ⟨-, h | ⟨-, h⟩⟩)
        · omega
        · omega
        · exact h
    · rw [if_pos h2, cmpI_lt]
      have e2 : x.p ≠ y.p := fun e => h2 ((cmpI_zero _ _).2 e)
      constructor
      · intro h; exact .inr ⟨e1, .inl h⟩
      · rintro (h | ⟨-, h | ⟨h, -⟩⟩)
        · omega
        · exact h
        · exact absurd h e2
  · rw [if_pos h1, cmpI_lt]
    have e1 : x.d ≠ y.d := fun e => h1 ((cmpI_zero _ _).2 e)
    constructor
    · intro h; exact .inl h
    · rintro (h | ⟨h, -⟩)
      · exact h
      · exact absurd h e1
theorem ltT_false (x y : Nd) : ltT x y = false ↔ y.d < x.d ∨ (x.d = y.d ∧ (y.p < x.p ∨ (x.p = y.p ∧ ¬ x.pol < y.pol))) := by
  have h := ltT_iff x y
  cases q : ltT x y with
  | true =>
    rw [q] at h
    have h := h.1 rfl
    constructor
    · intro e; cases e
    · rintro (h1 | ⟨h1, h2 | ⟨h2, h3⟩⟩)
      · rcases h with h | ⟨h, -⟩ <;> omega
      · rcases h with h | ⟨-, h | ⟨h, -⟩⟩ <;> omega
      · rcases h with h | ⟨-, h | ⟨-, h⟩⟩
        · omega
        · omega
        · exact absurd h h3
  | false =>
    rw [q] at h
    refine ⟨fun _ => ?_, fun _ => rfl⟩
    have h : ¬ (x.d < y.d ∨ (x.d = y.d ∧ (x.p < y.p ∨ (x.p = y.p ∧ x.pol < y.pol)))) := fun hh => by have := h.2 hh; cases this
    by_cases a1 : y.d < x.d
    · exact .inl a1
    · by_cases a2 : x.d < y.d
      · exact absurd (.inl a2) h
      · refine .inr ⟨by omega, ?_⟩
        by_cases a3 : y.p < x.p
        · exact .inl a3
        · by_cases a4 : x.p < y.p
          · exact absurd (.inr ⟨by omega, .inl a4⟩) h
          · exact .inr ⟨by omega, fun a5 => h (.inr ⟨by omega, .inr ⟨by omega, a5⟩⟩)⟩
theorem ltT_ord : Ord ltT where
  irr x := (ltT_false x x).2 (.inr ⟨rfl, .inr ⟨rfl, ltB_irr _⟩⟩)
  tr x y z h1 h2 := by
    rw [ltT_iff] at *
    rcases h1 with h1 | ⟨h1, h1' | ⟨h1', h1''⟩⟩ <;> rcases h2 with h2 | ⟨h2, h2' | ⟨h2', h2''⟩⟩
    · exact .inl (by omega)
    · exact .inl (by omega)
    · exact .inl (by omega)
    · exact .inl (by omega)
    · exact .inr ⟨by omega, .inl (by omega)⟩
    · exact .inr ⟨by omega, .inl (by omega)⟩
    · exact .inl (by omega)
    · exact .inr ⟨by omega, .inl (by omega)⟩
    · exact .inr ⟨by omega, .inr ⟨by omega, ltB_tr h1'' h2''⟩⟩
  co x y z h1 h2 := by
    rw [ltT_false] at *
    rcases h1 with h1 | ⟨h1, h1' | ⟨h1', h1''⟩⟩ <;> rcases h2 with h2 | ⟨h2, h2' | ⟨h2', h2''⟩⟩
    · exact .inl (by omega)
    · exact .inl (by omega)
    · exact .inl (by omega)
    · exact .inl (by omega)
    · exact .inr ⟨by omega, .inl (by omega)⟩
    · exact .inr ⟨by omega, .inl (by omega)⟩
    · exact .inl (by omega)
    · exact .inr ⟨by omega, .inl (by omega)⟩
    · exact .inr ⟨by omega, .inr ⟨by omega, ltB_co h1'' h2''⟩⟩
def cfN (x y : Nt) : Int := befI x.n y.n
abbrev ltN : Nt → Nt → Bool := ltOf cfN
theorem ltN_ord : Ord ltN := ⟨fun x => ltT_ord.irr _, fun x y z h1 h2 => ltT_ord.tr _ _ _ h1 h2, fun x y z h1 h2 => ltT_ord.co _ _ _ h1 h2⟩
theorem less_bytes (a b : B) : Op.bytesLess (bstr a).toList (bstr b).toList = decide (a < b) := by
  rw [ByteArray.toList_eq, ByteArray.toList_eq, bytesLess_eq, bstr_list, bstr_list]
theorem same_bytes (a b : B) : ((bstr a).toList == (bstr b).toList) = decide (a = b) := by
  rw [ByteArray.toList_eq, ByteArray.toList_eq, bstr_list, bstr_list, Bool.eq_iff_iff]; simp
/-- a world that has grown, and drawn -/
structure Gx (w : World) where
  out : World
  is : ∃ q os, out = grow (w.drewN q) os
theorem grow_empty (w : World) : grow w #[] = w := by unfold grow; simp
def Gx.self (w : World) : Gx w := ⟨w, 0, #[], by rw [grow_empty]; rfl⟩
instance Gx.some (w : World) : Nonempty (Gx w) := ⟨Gx.self w⟩
theorem Gx.cell {w : World} (e : Gx w) {b o : Nat} (h : b < w.heap.size) : e.out.cell? ⟨b, o, none⟩ = w.cell? ⟨b, o, none⟩ := by
  obtain ⟨out, q, os, rfl⟩ := e
  exact World.cell?_of_block (w := w) (heap_grow_old _ _ (by simpa using h))
theorem Gx.alloc {w : World} (e : Gx w) (o : Obj) : ∃ q os, e.out.alloc o = grow (w.drewN q) os := by
  obtain ⟨out, q, os, rfl⟩ := e
  exact ⟨q, _, by rw [alloc_eq_grow, grow_grow]⟩
end Go.Proofs.YtmagjdocondmhaaGreat.Tr

namespace Go.Proofs.YtmagjdocondmhaaGreat.Tr
open Go Go.RowKit Go.Sort Go.Proofs.YtmagjdocondmhaaGreat.Slc Go.Proofs.YtmagjdocondmhaaGreat.St
set_option linter.unusedVariables false
set_option linter.unusedSimpArgs false
attribute [local go_sem] Oper.semAt_some

end Go.Proofs.YtmagjdocondmhaaGreat.Tr

namespace Go.Proofs.YtmagjdocondmhaaGreat.Tr
open Go Go.RowKit Go.Sort Go.Proofs.YtmagjdocondmhaaGreat.Slc Go.Proofs.YtmagjdocondmhaaGreat.St
set_option linter.unusedVariables false
set_option linter.unusedSimpArgs false
attribute [local go_sem] Oper.semAt_some

end Go.Proofs.YtmagjdocondmhaaGreat.Tr
namespace Go.Proofs.YtmagjdocondmhaaGreat.Tr
open Go Go.RowKit Go.Proofs.YtmagjdocondmhaaGreat.Slc Go.Proofs.YtmagjdocondmhaaGreat.St
set_option linter.unusedVariables false
set_option linter.unusedSimpArgs false
attribute [local go_sem] Oper.semAt_some

/-- the special policy -/
def anyP : B := [50, 46, 53, 46, 50, 57, 46, 51, 50, 46, 48]
theorem anyP_str : bstr anyP = ⟨#[50, 46, 53, 46, 50, 57, 46, 51, 50, 46, 48]⟩ := rfl
def onlyB (l : List B) : Bool := decide (l = [anyP])
def ascB (l : List B) : Bool := decide (l.Pairwise (· < ·)) && !l.isEmpty
theorem same_any (a : B) : ((bstr a).toList == ([50, 46, 53, 46, 50, 57, 46, 51, 50, 46, 48] : List UInt8)) = decide (a = anyP) := by
  have h := same_bytes a anyP
  rw [ByteArray.toList_eq (bstr anyP)] at h
  exact h
theorem below_drawn {B : Nat} {a w : World} (h : Below B a w) (q : Nat) : Below B a (w.drewN q) := ⟨h.os, h.tape, h.output, h.size, h.block⟩
theorem ascB_bad {l : List B} {i : Nat} (hi : i + 1 < l.length) (h : ¬ l[i] < l[i + 1]) : ascB l = false := by
  unfold ascB
  rw [decide_eq_false (fun hp => h (List.pairwise_iff_getElem.1 hp i (i + 1) (by omega) hi (by omega))), Bool.false_and]
theorem lt_tr {a b c : B} (h1 : a < b) (h2 : b < c) : a < c := List.lt_trans h1 h2
theorem pair_chain : ∀ (l : List B), (∀ k (hk : k + 1 < l.length), l[k] < l[k + 1]) → l.Pairwise (· < ·)
  | [], _ => List.Pairwise.nil
  | [a], _ => by simp
  | a :: b :: l, h => by
    have ih := pair_chain (b :: l) (fun k hk => h (k + 1) (by simp only [List.length_cons] at hk ⊢; omega))
    have h0 : a < b := h 0 (by simp)
    refine List.pairwise_cons.2 ⟨fun x hx => ?_, ih⟩
    rcases List.mem_cons.1 hx with rfl | hx
    · exact h0
    · exact lt_tr h0 ((List.pairwise_cons.1 ih).1 x hx)
theorem ascB_good {l : List B} (h : ∀ k (hk : k + 1 < l.length), l[k] < l[k + 1]) : ascB l = decide ((0 : Int) < (l.length : Nat)) := by
  unfold ascB
  rw [decide_eq_true (pair_chain l h), Bool.true_and]
  cases l <;> simp
end Go.Proofs.YtmagjdocondmhaaGreat.Tr

namespace Go.Proofs.YtmagjdocondmhaaGreat.Tr
open Go Go.RowKit Go.Proofs.YtmagjdocondmhaaGreat.Slc Go.Proofs.YtmagjdocondmhaaGreat.St
set_option linter.unusedVariables false
set_option linter.unusedSimpArgs false
attribute [local go_sem] Oper.semAt_some


set_option maxRecDepth 10000 in
theorem index_q (w : World) (v : Value) (l : List B) (x : B) (h : Rq w v l) (hl : l.length ≤ 9223372036854775807) :
    Calls Tryz.prog 93 #[v, .string (bstr x)] w fun e w' => ∃ r : Int, e = .returned (.int .i64 r) ∧ (0 ≤ r ↔ x ∈ l) ∧ w = w' := by
  obtain ⟨ad, cp, hv, -⟩ := h.form
  have HC := Bx.mk (fun hp => (h.rd hp).cells encS_ok hp)
  subst hv
  have HX := Bx.mk (fun y : B => show ((bstr x).toList == (bstr y).toList) = decide (x = y) by
    rw [ByteArray.toList_eq, ByteArray.toList_eq, bstr_list, bstr_list]
    by_cases q : x = y
    · rw [q]; simp
    · rw [decide_eq_false q]; simpa using q)
  clear h
  generalize bstr x = X at *
  go_enter Tryz.func93, Tryz.ntmps93
  go_wp2_with fail
  go_loop [5, 8] (fun _ i => ∃ k : Nat, k ≤ l.length ∧ i = .int .i64 (k : Int) ∧ x ∉ l.take k) (fun _ i => l.length - (intOf i).toNat)
  case atStart => exact ⟨0, by omega, rfl, by simp⟩
  case round =>
    obtain ⟨k, hk, rfl, hnot⟩ := hrel
    have HN := Bx.mk hnot
    clear hnot
    by_cases hlt : k < l.length
    · obtain ⟨b, o, c, hvf, -, -, hcell⟩ := HC.out (by omega)
      simp only [Value.slice.injEq, true_and] at hvf
      obtain ⟨rfl, rfl⟩ := hvf
      have hcl := hcell w (fun _ _ => rfl) k hlt 0 _ (by omega) rfl
      simp only [Nat.mul_one, Nat.add_zero] at hcl
      have hq := HX.out l[k]
      have HT := Bx.mk (show x ≠ l[k] → x ∉ l.take (k + 1) from fun h1 h2 => by
        rw [List.take_succ_eq_append_getElem hlt, List.mem_append, List.mem_singleton] at h2
        exact h2.elim HN.out h1)
      have HM := Bx.mk (List.getElem_mem hlt)
      clear hcell
      by_cases hxy : x = l[k]
      · rw [decide_eq_true hxy] at hq
        have HR := Bx.mk (show decide (x ∈ l) = true by rw [hxy]; exact decide_eq_true HM.out)
        clear hxy HM
        generalize bstr l[k] = Y at *
        go_wp2_with fail
        go_ret
        exact ⟨_, rfl, ⟨fun _ => of_decide_eq_true HR.out, fun _ => by omega⟩, rfl⟩
      · rw [decide_eq_false hxy] at hq
        have HT2 := Bx.mk (HT.out hxy)
        clear hxy HM
        generalize bstr l[k] = Y at *
        go_wp2_with fail
        go_round
        case rel => exact ⟨k + 1, by omega, by go_num, HT2.out⟩
        case measure => simp [intOf]; omega
    · obtain rfl : k = l.length := by omega
      have HR := Bx.mk (show decide (x ∈ l) = false by have := HN.out; rw [List.take_length] at this; exact decide_eq_false this)
      go_wp2_with fail
      go_ret
      exact ⟨_, rfl, ⟨fun q => absurd q (by decide), fun q => absurd q (of_decide_eq_false HR.out)⟩, rfl⟩
theorem contains_q (w : World) (v : Value) (l : List B) (x : B) (h : Rq w v l) (hl : l.length ≤ 9223372036854775807) :
    Calls Tryz.prog 48 #[v, .string (bstr x)] w fun e w' => e = .returned (.bool (decide (x ∈ l))) ∧ w = w' := by
  have HI := Bx.mk (index_q w v l x h hl)
  clear h
  generalize bstr x = X at *
  go_enter Tryz.func48, Tryz.ntmps48
  go_wp2_with fail
  go_at_call 93
  refine HI.out.mono ?_
  rintro e w' ⟨r, rfl, hr, rfl⟩
  have HR := Bx.mk hr
  clear hr
  go_wp2_with fail
  go_ret
  exact ⟨by simp [HR.out], rfl⟩
theorem contains_any (w : World) (v : Value) (l : List B) (x : B) (h : Rd w encS v l) (hl : l.length ≤ 9223372036854775807) :
    Calls Tryz.prog 48 #[v, .string (bstr x)] w fun e w' => e = .returned (.bool (decide (x ∈ l))) ∧ w = w' := contains_q w v l x (.inr h) hl
end Go.Proofs.YtmagjdocondmhaaGreat.Tr

namespace Go.Proofs.YtmagjdocondmhaaGreat.Tr
open Go Go.RowKit Go.Proofs.YtmagjdocondmhaaGreat.Slc Go.Proofs.YtmagjdocondmhaaGreat.St
set_option linter.unusedVariables false
set_option linter.unusedSimpArgs false
attribute [local go_sem] Oper.semAt_some

end Go.Proofs.YtmagjdocondmhaaGreat.Tr

namespace Go.Proofs.YtmagjdocondmhaaGreat.Tr
open Go Go.RowKit Go.Proofs.YtmagjdocondmhaaGreat.Slc Go.Proofs.YtmagjdocondmhaaGreat.St
set_option linter.unusedVariables false
set_option linter.unusedSimpArgs false
attribute [local go_sem] Oper.semAt_some

end Go.Proofs.YtmagjdocondmhaaGreat.Tr

namespace Go.Proofs.YtmagjdocondmhaaGreat.Tr
open Go Go.RowKit Go.Proofs.YtmagjdocondmhaaGreat.Slc Go.Proofs.YtmagjdocondmhaaGreat.St
set_option linter.unusedVariables false
set_option linter.unusedSimpArgs false

instance : Inhabited Nd := ⟨⟨0, 0, [], []⟩⟩
theorem nds_at (l : List Nt) (i : Nat) (h : i < l.length) : (nds l)[i]! = (l[i]).n := by
  rw [getElem!_pos (nds l) i (by simpa [nds] using h)]; simp [nds]
end Go.Proofs.YtmagjdocondmhaaGreat.Tr
namespace Go.Proofs.YtmagjdocondmhaaGreat.Tr
open Go Go.RowKit Go.Proofs.YtmagjdocondmhaaGreat.Slc Go.Proofs.YtmagjdocondmhaaGreat.St
set_option linter.unusedVariables false
set_option linter.unusedSimpArgs false
attribute [local go_sem] Oper.semAt_some

end Go.Proofs.YtmagjdocondmhaaGreat.Tr
namespace Go.Proofs.YtmagjdocondmhaaGreat.Tr.Gr
open Go Go.RowKit Go.Proofs.YtmagjdocondmhaaGreat.Slc Go.Proofs.YtmagjdocondmhaaGreat.Tr
set_option linter.unusedVariables false
set_option linter.unusedSimpArgs false

def encI (i : Int) : List Value := [.int .i64 i]
theorem encI_ok : Enc 1 encI := ⟨fun _ => rfl, fun c u hu => by
  simp only [encI, List.mem_singleton] at hu
  subst hu; rfl, by omega⟩
/-- a vertex -/
structure Vx where
  pol : B
  ex : List B
  par : List Int
instance : Inhabited Vx := ⟨⟨[], [], []⟩⟩
/-- a vertex, and its slices in memory -/
structure Vt where
  n : Vx
  u : Sl
  q : Sl
instance : Inhabited Vt := ⟨⟨default, ⟨none, 0, 0⟩, ⟨none, 0, 0⟩⟩⟩
def encV (x : Vt) : List Value := [.string (bstr x.n.pol), x.u.val, x.q.val]
theorem encV_ok : Enc 3 encV := ⟨fun _ => rfl, fun x u hu => by simp [encV] at hu; rcases hu with rfl | rfl | rfl <;> rfl, by omega⟩
def verV (x : Vt) : Value := .agg #[.string (bstr x.n.pol), x.u.val, x.q.val]
/-- a level, and its slice in memory -/
structure Lv where
  vs : List Vt
  s : Sl
instance : Inhabited Lv := ⟨⟨[], ⟨none, 0, 0⟩⟩⟩
def encL (L : Lv) : List Value := [L.s.val]
theorem encL_ok : Enc 1 encL := ⟨fun _ => rfl, fun x u hu => by simp [encL] at hu; subst hu; rfl, by omega⟩
abbrev vxs (l : List Vt) : List Vx := l.map (·.n)
abbrev gxs (g : List Lv) : List (List Vx) := g.map fun L => vxs L.vs
def Vx.Ok (n : Vx) : Prop := Few n.ex ∧ n.pol.length ≤ 1000000 ∧ n.par.length ≤ 100000 ∧ ∀ p ∈ n.par, -1000000 ≤ p ∧ p ≤ 1000000
/-- elements that can be read in given blocks, or there are none -/
def RqIn {α : Type} (w : World) (S : Nat → Prop) (enc : α → List Value) (v : Value) (l : List α) : Prop := (l = [] ∧ ∃ a c, v = .slice a 0 c) ∨ RdIn w S enc v l
section
variable {α : Type} {enc : α → List Value} {w w' : World} {S S' : Nat → Prop} {v : Value} {l : List α}
theorem RqIn.form (h : RqIn w S enc v l) : ∃ ad c, v = .slice ad l.length c ∧ True := by
  rcases h with ⟨rfl, a, c, rfl⟩ | h
  · exact ⟨_, _, rfl, trivial⟩
  · obtain ⟨ad, c, h, -⟩ := h.1.form; exact ⟨_, _, h, trivial⟩
theorem RqIn.keep (h : RqIn w S enc v l) (hs : w.heap.size ≤ w'.heap.size) (hb : ∀ k, S k → k < w.heap.size → w'.heap[k]? = w.heap[k]?) : RqIn w' S enc v l := h.imp id fun q => q.keep hs hb
theorem RqIn.mono (h : RqIn w S enc v l) (hS : ∀ k, k < w.heap.size → S k → S' k) : RqIn w S' enc v l := h.imp id fun q => q.mono hS
theorem RqIn.rd (h : RqIn w S enc v l) (hp : 0 < l.length) : Rd w enc v l := by
  rcases h with ⟨rfl, -⟩ | h
  · simp at hp
  · exact h.1
theorem RqIn.below (h : RqIn w S enc v l) (hb : Below w.heap.size w w') : RqIn w' S enc v l := h.keep hb.size fun k _ hk => hb.block k hk
theorem RqIn.all (h : RqIn w S enc v l) : RqIn w (fun k => k < w.heap.size) enc v l := h.imp id fun q => ⟨q.1, q.1.lt⟩
end
theorem int_cells {w : World} {S : Nat → Prop} {ad : Option Addr} {n c : Nat} {l : List Int} (h : RqIn w S encI (.slice ad n c) l) : n = l.length ∧ ∀ (W : World), (∀ k, k < w.heap.size → S k → W.heap[k]? = w.heap[k]?) → ∀ k (hk : k < l.length), ∃ b o, ad = some ⟨b, o, none⟩ ∧ b < w.heap.size ∧ W.cell? ⟨b, o + k, none⟩ = some (.int .i64 l[k]) := by
  rcases h with ⟨rfl, a, c', h⟩ | h
  · simp only [Value.slice.injEq] at h
    exact ⟨h.2.1, fun W _ k hk => by simp at hk⟩
  · obtain ⟨ad', c', hv, -⟩ := h.1.form
    simp only [Value.slice.injEq] at hv
    refine ⟨hv.2.1, fun W hW k hk => ?_⟩
    obtain ⟨b, o, c, hv', _, hlt, hc⟩ := h.1.cells encI_ok (by omega)
    simp only [Value.slice.injEq] at hv'
    have q := hc W (fun k' hk' => hW k' (h.1.lt k' hk') (h.2 k' hk')) k hk 0 _ (by omega) rfl
    rw [Nat.mul_one, Nat.add_zero] at q
    exact ⟨b, o, hv'.1, hlt, q⟩
/-- a vertex whose slices lie in given blocks -/
def VtIn (w : World) (S : Nat → Prop) (x : Vt) : Prop := RdIn w S encS x.u.val x.n.ex ∧ RqIn w S encI x.q.val x.n.par ∧ Vx.Ok x.n
def VtAt (w : World) (x : Vt) : Prop := VtIn w (fun k => k < w.heap.size) x
section
variable {w w' : World} {S S' : Nat → Prop} {x : Vt}
theorem VtIn.keep (h : VtIn w S x) (hs : w.heap.size ≤ w'.heap.size) (hb : ∀ k, S k → k < w.heap.size → w'.heap[k]? = w.heap[k]?) : VtIn w' S x := ⟨h.1.keep hs hb, h.2.1.keep hs hb, h.2.2⟩
theorem VtIn.mono (h : VtIn w S x) (hS : ∀ k, k < w.heap.size → S k → S' k) : VtIn w S' x := ⟨h.1.mono hS, h.2.1.mono hS, h.2.2⟩
theorem VtIn.below (h : VtIn w S x) (hb : Below w.heap.size w w') : VtIn w' S x := h.keep hb.size fun k _ hk => hb.block k hk
theorem VtIn.at_ (h : VtIn w S x) : VtAt w x := ⟨⟨h.1.1, h.1.1.lt⟩, h.2.1.all, h.2.2⟩
theorem VtAt.below (h : VtAt w x) (hb : Below w.heap.size w w') : VtAt w' x := (VtIn.below h hb).at_
end
/-- a slice of vertices that can be read -/
structure VL (w : World) (v : Value) (l : List Vt) : Prop where
  rd : Rd w encV v l
  at_ : ∀ x ∈ l, VtAt w x
theorem VL.below {w w' : World} {v : Value} {l : List Vt} (h : VL w v l) (hb : Below w.heap.size w w') : VL w' v l := ⟨h.rd.below hb, fun x hx => (h.at_ x hx).below hb⟩
theorem vs_cells {w : World} {ad : Option Addr} {n c : Nat} {l : List Vt} (h : Rd w encV (.slice ad n c) l) : n = l.length ∧ ∀ (W : World), (∀ k, k < w.heap.size → (Value.slice ad n c).ownBlock = some k → W.heap[k]? = w.heap[k]?) → ∀ k (hk : k < l.length), ∃ b o, ad = some ⟨b, o, none⟩ ∧ b < w.heap.size ∧ W.cell? ⟨b, o + k * 3, none⟩ = some (.string (bstr (l[k]).n.pol)) ∧ W.cell? ⟨b, o + k * 3 + 1, none⟩ = some (l[k]).u.val ∧ W.cell? ⟨b, o + k * 3 + 2, none⟩ = some (l[k]).q.val := by
  obtain ⟨ad', c', hv, -⟩ := h.form
  simp only [Value.slice.injEq] at hv
  refine ⟨hv.2.1, fun W hW k hk => ?_⟩
  obtain ⟨b, o, c, hv', _, hlt, hc⟩ := h.cells encV_ok (by omega)
  simp only [Value.slice.injEq] at hv'
  have q := hc W (fun k' hk' => hW k' (h.lt k' hk') hk') k hk
  exact ⟨b, o, hv'.1, hlt, q 0 _ (by omega) rfl, q 1 _ (by omega) rfl, q 2 _ (by omega) rfl⟩
theorem ls_cells {w : World} {ad : Option Addr} {n c : Nat} {l : List Lv} (h : Rd w encL (.slice ad n c) l) : n = l.length ∧ ∀ (W : World), (∀ k, k < w.heap.size → (Value.slice ad n c).ownBlock = some k → W.heap[k]? = w.heap[k]?) → ∀ k (hk : k < l.length), ∃ b o, ad = some ⟨b, o, none⟩ ∧ b < w.heap.size ∧ W.cell? ⟨b, o + k, none⟩ = some (l[k]).s.val := by
  obtain ⟨ad', c', hv, -⟩ := h.form
  simp only [Value.slice.injEq] at hv
  refine ⟨hv.2.1, fun W hW k hk => ?_⟩
  obtain ⟨b, o, c, hv', _, hlt, hc⟩ := h.cells encL_ok (by omega)
  simp only [Value.slice.injEq] at hv'
  have q := hc W (fun k' hk' => hW k' (h.lt k' hk') hk') k hk 0 _ (by omega) rfl
  rw [Nat.mul_one, Nat.add_zero] at q
  exact ⟨b, o, hv'.1, hlt, q⟩
/-- a graph that can be read -/
structure GL (w : World) (v : Value) (g : List Lv) : Prop where
  rd : Rd w encL v g
  lv : ∀ L ∈ g, VL w L.s.val L.vs
theorem GL.below {w w' : World} {v : Value} {g : List Lv} (h : GL w v g) (hb : Below w.heap.size w w') : GL w' v g := ⟨h.rd.below hb, fun L hL => (h.lv L hL).below hb⟩
theorem GL.nil (w : World) : GL w (.slice none 0 0) [] := ⟨Rd.nil w, fun x hx => by cases hx⟩
/-- the blocks of a graph -/
def GB (v : Value) (g : List Lv) (k : Nat) : Prop := v.ownBlock = some k ∨ ∃ L ∈ g, L.s.val.ownBlock = some k
/-- all but given blocks stay -/
structure Fr (S : Nat → Prop) (w w' : World) : Prop where
  os : w'.os = w.os
  tape : w'.tape = w.tape
  output : w'.output = w.output
  size : w.heap.size ≤ w'.heap.size
  block : ∀ k, k < w.heap.size → ¬ S k → w'.heap[k]? = w.heap[k]?
theorem Fr.refl (S : Nat → Prop) (w : World) : Fr S w w := ⟨rfl, rfl, rfl, Nat.le_refl _, fun _ _ _ => rfl⟩
theorem Fr.trans {S S' : Nat → Prop} {w w1 w2 : World} (h : Fr S w w1) (h' : Fr S' w1 w2) (hS : ∀ k, k < w.heap.size → S' k → S k) : Fr S w w2 :=
  ⟨h'.os.trans h.os, h'.tape.trans h.tape, h'.output.trans h.output, Nat.le_trans h.size h'.size, fun k hk hn => (h'.block k (Nat.lt_of_lt_of_le hk h.size) fun q => hn (hS k hk q)).trans (h.block k hk hn)⟩
theorem Fr.of_below {S : Nat → Prop} {w w' : World} (h : Below w.heap.size w w') : Fr S w w' := ⟨h.os, h.tape, h.output, h.size, fun k hk _ => h.block k hk⟩
theorem Fr.of_grown {S : Nat → Prop} {w w' : World} {g : Option Nat} (h : w.grownBy w' g) (hS : ∀ k, g = some k → S k) : Fr S w w' := ⟨h.os, h.tape, h.output, h.size, fun k hk hn => h.block k hk fun e => hn (hS k e.symm)⟩
theorem Fr.below {S : Nat → Prop} {w w' : World} {B : Nat} (h : Fr S w w') (hS : ∀ k, S k → B ≤ k) (hB : B ≤ w.heap.size) : Below B w w' := ⟨h.os, h.tape, h.output, h.size, fun k hk => h.block k (by omega) fun q => by have := hS k q; omega⟩
theorem Fr.mono {S S' : Nat → Prop} {w w' : World} (h : Fr S w w') (hS : ∀ k, k < w.heap.size → S k → S' k) : Fr S' w w' := ⟨h.os, h.tape, h.output, h.size, fun k hk hn => h.block k hk fun q => hn (hS k hk q)⟩
theorem Fr.drewN {S : Nat → Prop} {w w' : World} (h : Fr S w w') (n : Nat) : Fr S w (w'.drewN n) := ⟨h.os, h.tape, h.output, h.size, h.block⟩
theorem RdIn.fr {α : Type} {enc : α → List Value} {w w' : World} {S : Nat → Prop} {v : Value} {l : List α} (h : RdIn w (fun k => ¬ S k) enc v l) (hf : Fr S w w') : RdIn w' (fun k => ¬ S k) enc v l := h.keep hf.size fun k hk hlt => hf.block k hlt hk
theorem VtIn.fr {w w' : World} {S : Nat → Prop} {x : Vt} (h : VtIn w (fun k => ¬ S k) x) (hf : Fr S w w') : VtIn w' (fun k => ¬ S k) x := h.keep hf.size fun k hk hlt => hf.block k hlt hk
/-- a graph that the call owns -/
structure GO (w : World) (B : Nat) (v : Value) (g : List Lv) : Prop where
  own : Slc.Own w B 63 1 encL v g
  lv : ∀ L ∈ g, Slc.Own w B 65 3 encV L.s.val L.vs
  ap : ∀ (i j : Nat) (hi : i < g.length) (hj : j < g.length), i ≠ j → ∀ k, (g[i]).s.val.ownBlock = some k → (g[j]).s.val.ownBlock ≠ some k
  ao : ∀ L ∈ g, ∀ k, L.s.val.ownBlock = some k → v.ownBlock ≠ some k
  nm : ∀ L ∈ g, ∀ x ∈ L.vs, VtIn w (fun k => ¬ GB v g k) x
section
variable {w w' : World} {B B' : Nat} {v : Value} {g : List Lv}
theorem GO.gl (h : GO w B v g) : GL w v g := ⟨h.own.rd, fun L hL => ⟨(h.lv L hL).rd, fun x hx => (h.nm L hL x hx).at_⟩⟩
theorem GO.keep (h : GO w B v g) (hs : w.heap.size ≤ w'.heap.size) (hb : ∀ k, k < w.heap.size → (GB v g k ∨ ∃ L ∈ g, ∃ x ∈ L.vs, x.u.val.ownBlock = some k ∨ x.q.val.ownBlock = some k) → w'.heap[k]? = w.heap[k]?) : GO w' B v g := by
  refine ⟨h.own.keep fun k hk hlt => hb k hlt (.inl (.inl hk)), fun L hL => (h.lv L hL).keep fun k hk hlt => hb k hlt (.inl (.inr ⟨L, hL, hk⟩)), h.ap, h.ao, fun L hL x hx => ?_⟩
  obtain ⟨h1, h2, h3⟩ := h.nm L hL x hx
  refine ⟨⟨h1.1.keep hs fun k hk hlt => hb k hlt (.inr ⟨L, hL, x, hx, .inl hk⟩), h1.2⟩, ?_, h3⟩
  rcases h2 with h2 | h2
  · exact .inl h2
  · exact .inr ⟨h2.1.keep hs fun k hk hlt => hb k hlt (.inr ⟨L, hL, x, hx, .inr hk⟩), h2.2⟩
theorem GO.below (h : GO w B v g) (hb : Below w.heap.size w w') : GO w' B v g := h.keep hb.size fun k hk _ => hb.block k hk
theorem GO.mono (h : GO w B v g) (hB : B' ≤ B) : GO w B' v g := ⟨h.own.mono hB, fun L hL => (h.lv L hL).mono hB, h.ap, h.ao, h.nm⟩
theorem GO.lt (h : GO w B v g) {k : Nat} (hk : GB v g k) : B ≤ k ∧ k < w.heap.size := by
  rcases hk with hk | ⟨L, hL, hk⟩
  · exact h.own.lt k hk
  · exact (h.lv L hL).lt k hk
theorem GO.nil (w : World) (B : Nat) : GO w B (.slice none 0 0) [] := ⟨Slc.Own.nil _ _, (fun L hL => by cases hL), (fun i j hi => by simp at hi), (fun L hL => by cases hL), (fun L hL => by cases hL)⟩
end
theorem info_ver : (Tryz.prog.info? 65).map (fun i => (i.zero, i.size, i.bytes)) = some (some (.agg #[.string ⟨#[]⟩, .slice none 0 0, .slice none 0 0]), 3, 64) := by kernel_rfl
theorem info_lev : (Tryz.prog.info? 63).map (fun i => (i.zero, i.size, i.bytes)) = some (some (.agg #[.slice none 0 0]), 1, 24) := by kernel_rfl
theorem info_int : (Tryz.prog.info? 3).map (fun i => (i.zero, i.size, i.bytes)) = some (some (.int .i64 0), 1, 8) := by kernel_rfl
theorem info_boo : (Tryz.prog.info? 4).map (fun i => (i.zero, i.size, i.bytes)) = some (some (.bool false), 1, 1) := by kernel_rfl
theorem und_vers : Tryz.prog.underlying 61 = some (.slice 65) := by kernel_rfl
theorem und_levs : Tryz.prog.underlying 23 = some (.slice 63) := by kernel_rfl
theorem und_ints : Tryz.prog.underlying 22 = some (.slice 3) := by kernel_rfl
end Go.Proofs.YtmagjdocondmhaaGreat.Tr.Gr
