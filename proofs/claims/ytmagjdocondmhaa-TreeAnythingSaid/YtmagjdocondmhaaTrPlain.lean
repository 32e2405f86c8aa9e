/-
  Trees in plain Lean: what both packages compute, and that it is the same.
-/
import Derived.Test.YtmagjdocondmhaaTrFitsA
namespace Go.Proofs.Ytmagjdocondmhaa.Tr
open Go Go.RowKit Go.Proofs.Ytmagjdocondmhaa.St
set_option linter.unusedVariables false
set_option linter.unusedSimpArgs false

/-- strings in ascending order, each once -/
def insS (x : B) : List B → List B
  | [] => [x]
  | y :: l => if x < y then x :: y :: l else if x = y then y :: l else y :: insS x l
def setB (l : List B) : List B := l.foldl (fun a x => insS x a) []
abbrev Asc (l : List B) : Prop := l.Pairwise (· < ·)
theorem insS_mem (x y : B) (l : List B) : y ∈ insS x l ↔ y = x ∨ y ∈ l := by
  induction l with
  | nil => simp [insS]
  | cons z l ih =>
    unfold insS
    by_cases h1 : x < z
    · rw [if_pos h1]; simp
    · rw [if_neg h1]
      by_cases h2 : x = z
      · rw [if_pos h2]; subst h2; simp
      · rw [if_neg h2, List.mem_cons, ih, List.mem_cons]
        constructor
        · rintro (h | h | h) <;> simp [h]
        · rintro (h | h | h) <;> simp [h]
theorem ltB_or {x y : B} (h1 : ¬ x < y) (h2 : x ≠ y) : y < x := by
  rcases Classical.em (y < x) with h | h
  · exact h
  · exact absurd (eqB h1 h) h2
theorem insS_asc (x : B) (l : List B) (h : Asc l) : Asc (insS x l) := by
  induction l with
  | nil => simp [insS, Asc]
  | cons z l ih =>
    rw [Asc, List.pairwise_cons] at h
    unfold insS
    by_cases h1 : x < z
    · rw [if_pos h1]
      refine List.pairwise_cons.2 ⟨fun y hy => ?_, List.pairwise_cons.2 h⟩
      rcases List.mem_cons.1 hy with rfl | hy
      · exact h1
      · exact ltB_tr h1 (h.1 y hy)
    · rw [if_neg h1]
      by_cases h2 : x = z
      · rw [if_pos h2]; exact List.pairwise_cons.2 h
      · rw [if_neg h2]
        refine List.pairwise_cons.2 ⟨fun y hy => ?_, ih h.2⟩
        rcases (insS_mem x y l).1 hy with rfl | hy
        · exact ltB_or h1 h2
        · exact h.1 y hy
theorem foldS_mem (y : B) : ∀ (l a : List B), y ∈ l.foldl (fun a x => insS x a) a ↔ y ∈ a ∨ y ∈ l
  | [], a => by simp
  | x :: l, a => by
    rw [List.foldl_cons, foldS_mem y l, insS_mem, List.mem_cons]
    constructor
    · rintro ((h | h) | h) <;> simp [h]
    · rintro (h | h | h) <;> simp [h]
theorem foldS_asc : ∀ (l a : List B), Asc a → Asc (l.foldl (fun a x => insS x a) a)
  | [], a, h => h
  | x :: l, a, h => foldS_asc l _ (insS_asc x a h)
theorem setB_mem {y : B} {l : List B} : y ∈ setB l ↔ y ∈ l := by
  unfold setB; rw [foldS_mem]; simp
theorem setB_asc (l : List B) : Asc (setB l) := foldS_asc l [] List.Pairwise.nil
theorem asc_unique : ∀ (l m : List B), Asc l → Asc m → (∀ x, x ∈ l ↔ x ∈ m) → l = m
  | [], [], _, _, _ => rfl
  | [], b :: m, _, _, h => by have := (h b).2 (by simp); cases this
  | a :: l, [], _, _, h => by have := (h a).1 (by simp); cases this
  | a :: l, b :: m, h1, h2, h => by
    rw [Asc, List.pairwise_cons] at h1 h2
    have e : a = b := by
      rcases List.mem_cons.1 ((h a).1 (by simp)) with q | q
      · exact q
      · rcases List.mem_cons.1 ((h b).2 (by simp)) with q' | q'
        · exact q'.symm
        · exact absurd (ltB_tr (h1.1 b q') (h2.1 a q)) (ltB_irr _)
    subst e
    rw [asc_unique l m h1.2 h2.2 fun x => ?_]
    have hx := h x
    rw [List.mem_cons, List.mem_cons] at hx
    constructor
    · intro q
      rcases hx.1 (.inr q) with rfl | q'
      · exact absurd (h1.1 _ q) (ltB_irr _)
      · exact q'
    · intro q
      rcases hx.2 (.inr q) with rfl | q'
      · exact absurd (h2.1 _ q) (ltB_irr _)
      · exact q'
theorem setB_eq {l m : List B} (h : Asc m) (hm : ∀ x, x ∈ m ↔ x ∈ l) : m = setB l := asc_unique _ _ h (setB_asc l) fun x => (hm x).trans setB_mem.symm
theorem setB_congr {l m : List B} (h : ∀ x, x ∈ l ↔ x ∈ m) : setB l = setB m := setB_eq (setB_asc l) fun x => setB_mem.trans (h x)
theorem insS_length (x : B) (l : List B) : (insS x l).length ≤ l.length + 1 := by
  induction l with
  | nil => simp [insS]
  | cons z l ih =>
    unfold insS
    split
    · simp
    · split
      · simp
      · simp only [List.length_cons]; omega
theorem foldS_length : ∀ (l a : List B), (l.foldl (fun a x => insS x a) a).length ≤ a.length + l.length
  | [], a => by simp
  | x :: l, a => by
    rw [List.foldl_cons]
    have := foldS_length l (insS x a)
    have := insS_length x a
    simp only [List.length_cons]; omega
theorem setB_length (l : List B) : (setB l).length ≤ l.length := by
  have := foldS_length l []
  simpa [setB] using this
theorem setB_snoc (l : List B) (x : B) : setB (l ++ [x]) = insS x (setB l) := by
  unfold setB; rw [List.foldl_append]; rfl
theorem asc_nodup {l : List B} (h : Asc l) : l.Nodup := List.Pairwise.imp (fun {a b} hab e => by subst e; exact ltB_irr _ hab) h

section
variable {α : Type} {lt : α → α → Bool}
theorem ins_mem (x y : α) (l : List α) : y ∈ ins (lt := lt) x l ↔ y = x ∨ y ∈ l := by
  induction l with
  | nil => simp [ins]
  | cons z l ih =>
    unfold ins
    split
    · simp
    · rw [List.mem_cons, ih, List.mem_cons]
      constructor
      · rintro (h | h | h) <;> simp [h]
      · rintro (h | h | h) <;> simp [h]
theorem ins_srt (O : Ord lt) (x : α) (l : List α) (h : Srt lt l) : Srt lt (ins (lt := lt) x l) := by
  induction l with
  | nil => exact Srt.singleton x
  | cons z l ih =>
    have h' := h
    rw [Srt, List.pairwise_cons] at h'
    unfold ins
    by_cases q : lt x z = true
    · rw [if_pos q]
      refine List.pairwise_cons.2 ⟨fun y hy => ?_, h⟩
      rcases List.mem_cons.1 hy with rfl | hy
      · exact O.asym q
      · have := h'.1 y hy
        cases e : lt y x with
        | false => rfl
        | true => rw [O.tr _ _ _ e q] at this; cases this
    · rw [if_neg q]
      refine List.pairwise_cons.2 ⟨fun y hy => ?_, ih h'.2⟩
      rcases (ins_mem x y l).1 hy with rfl | hy
      · simpa using q
      · exact h'.1 y hy
theorem ins_stab (O : Ord lt) (x : α) (l : List α) (h : Srt lt l) : Stab lt (l ++ [x]) (ins (lt := lt) x l) := by
  induction l with
  | nil => exact Stab.refl _
  | cons z l ih =>
    have h' := h
    rw [Srt, List.pairwise_cons] at h'
    unfold ins
    by_cases q : lt x z = true
    · rw [if_pos q]
      have : ∀ u ∈ z :: l, ∀ v ∈ [x], lt v u = true := by
        intro u hu v hv
        rw [List.mem_singleton] at hv; subst hv
        rcases List.mem_cons.1 hu with rfl | hu
        · exact q
        · exact O.lt_of' (h'.1 u hu) q
      exact Stab.swap O this
    · rw [if_neg q]
      exact (Stab.refl [z]).append (ih h'.2)
def srtL (l : List α) : List α := l.foldl (fun a x => ins (lt := lt) x a) []
theorem fold_srt (O : Ord lt) : ∀ (l a : List α), Srt lt a → Srt lt (l.foldl (fun a x => ins (lt := lt) x a) a)
  | [], a, h => h
  | x :: l, a, h => fold_srt O l _ (ins_srt O x a h)
theorem fold_stab (O : Ord lt) : ∀ (l a : List α), Srt lt a → Stab lt (a ++ l) (l.foldl (fun a x => ins (lt := lt) x a) a)
  | [], a, h => by simpa using Stab.refl a
  | x :: l, a, h => by
    have h1 := fold_stab O l _ (ins_srt O x a h)
    have h2 := (ins_stab O x a h).append (Stab.refl l)
    rw [List.append_assoc] at h2
    exact h2.trans h1
theorem srtL_srt (O : Ord lt) (l : List α) : Srt lt (srtL (lt := lt) l) := fold_srt O l [] List.Pairwise.nil
theorem srtL_stab (O : Ord lt) (l : List α) : Stab lt l (srtL (lt := lt) l) := fold_stab O l [] List.Pairwise.nil
theorem srtL_unique (O : Ord lt) {l l' : List α} (h : Srt lt l') (h' : Stab lt l l') : l' = srtL (lt := lt) l := srt_unique O _ _ h (srtL_srt O l) (h'.symm.trans (srtL_stab O l))
theorem srtL_self (O : Ord lt) {l : List α} (h : Srt lt l) : srtL (lt := lt) l = l := (srtL_unique O h (Stab.refl l)).symm
theorem srtL_append (O : Ord lt) {l m : List α} (h : Srt lt l) : srtL (lt := lt) (l ++ m) = m.foldl (fun a x => ins (lt := lt) x a) l := by
  unfold srtL; rw [List.foldl_append]
  have := srtL_self O h
  unfold srtL at this; rw [this]
theorem ins_comm (O : Ord lt) {x y : α} (h : lt x y = true ∨ lt y x = true) (l : List α) : ins (lt := lt) x (ins (lt := lt) y l) = ins (lt := lt) y (ins (lt := lt) x l) := by
  have key : ∀ {x y : α}, lt x y = true → ∀ l : List α, ins (lt := lt) x (ins (lt := lt) y l) = ins (lt := lt) y (ins (lt := lt) x l) := by
    intro x y h l
    have h' := O.asym h
    induction l with
    | nil => simp [ins, h, h']
    | cons z l ih =>
      by_cases q : lt y z = true
      · have q2 := O.tr _ _ _ h q
        simp [ins, q, q2, h, h']
      · by_cases q2 : lt x z = true
        · simp [ins, q, q2, h, h']
        · simp [ins, q, q2, ih]
  rcases h with h | h
  · exact key h l
  · exact (key h l).symm
/-- elements of different classes can be put in in any order -/
theorem fold_perm (O : Ord lt) {m m' : List α} (hp : m.Perm m') (hd : m.Pairwise fun x y => lt x y = true ∨ lt y x = true) (l : List α) :
    m.foldl (fun a x => ins (lt := lt) x a) l = m'.foldl (fun a x => ins (lt := lt) x a) l := by
  induction hp generalizing l with
  | nil => rfl
  | cons x _ ih => exact ih (List.pairwise_cons.1 hd).2 _
  | swap x y m =>
    rw [List.foldl_cons, List.foldl_cons, List.foldl_cons, List.foldl_cons]
    have := (List.pairwise_cons.1 hd).1 x (by simp)
    rw [ins_comm O this.symm]
  | trans h1 h2 ih1 ih2 =>
    rw [ih1 hd, ih2 ?_]
    exact (h1.pairwise_iff (fun h => h.symm)).1 hd
theorem fold_length : ∀ (l a : List α), (l.foldl (fun a x => ins (lt := lt) x a) a).length = a.length + l.length
  | [], a => by simp
  | x :: l, a => by
    have e : ∀ a : List α, (ins (lt := lt) x a).length = a.length + 1 := by
      intro a
      induction a with
      | nil => rfl
      | cons z a ih => unfold ins; split <;> simp [ih]
    rw [List.foldl_cons, fold_length l, e]; simp; omega
end
abbrev sortT (l : List Nd) : List Nd := srtL (lt := ltT) l
theorem wrap_small {x : Int} (h0 : 0 ≤ x) (h1 : x ≤ 1000000) : IntKind.i64.wrap x = x := IntWalk.i64_in _ (by omega)
/-- the parent -/
abbrev pn (t : List Nd) (n : Nd) : Nd := t[n.p.toNat]!
structure VT (t : List Nd) (D : Int) : Prop where
  dep : 0 ≤ D
  len : t.length ≤ 2048
  root : 0 < t.length → t[0]!.d = 0 ∧ t[0]!.p = -1 ∧ t[0]!.pol = anyP ∧ t[0]!.ex = [anyP]
  par : ∀ i, 0 < i → i < t.length → 0 ≤ t[i]!.p ∧ t[i]!.p < i
  dd : ∀ i, 0 < i → i < t.length → t[i]!.d = (pn t t[i]!).d + 1
  le : ∀ i, i < t.length → t[i]!.d ≤ D
  lt : ∀ i, i + 1 < t.length → ltT t[i]! t[i + 1]! = true
  asc : ∀ i, i < t.length → ascB t[i]!.ex = true
  sp : ∀ i, 0 < i → i < t.length → t[i]!.pol = anyP → (pn t t[i]!).pol = anyP ∧ t[i]!.ex = [anyP]
  ns : ∀ i, i < t.length → t[i]!.pol ≠ anyP → anyP ∉ t[i]!.ex
  leaf : ∀ i, i < t.length → t[i]!.d < D → ∃ n ∈ t, n.p = (i : Int)
theorem fit0_iff (n : Nd) : fit0 n = true ↔ n.d = 0 ∧ n.p = -1 ∧ n.pol = anyP ∧ n.ex = [anyP] := by
  unfold fit0 spec onlyB; simp
theorem fitB_iff (t : List Nd) (i : Nat) (hi : 0 < i) (D : Int) : fitB t i D = true ↔
    0 ≤ t[i]!.p ∧ t[i]!.p < i ∧ t[i]!.d = IntKind.i64.wrap ((pn t t[i]!).d + 1) ∧ t[i]!.d ≤ D ∧ ltT t[i - 1]! t[i]! = true ∧ ascB t[i]!.ex = true ∧ (t[i]!.pol = anyP → (pn t t[i]!).pol = anyP ∧ t[i]!.ex = [anyP]) ∧ (t[i]!.pol ≠ anyP → anyP ∉ t[i]!.ex) := by
  unfold fitB pn
  rw [if_neg (by omega)]
  unfold badB ltT spec onlyB
  generalize t[i]! = x
  generalize t[i - 1]! = q
  generalize t[x.p.toNat]! = m
  by_cases h : x.pol = anyP
  · rw [decide_eq_true h, if_pos rfl]
    simp [h, and_assoc]
  · rw [decide_eq_false h, if_neg (by simp)]
    simp [h, and_assoc]
theorem asc_any : ascB [anyP] = true := by decide
theorem valid_iff (t : List Nd) (D : Int) : validB t D = true ↔ VT t D := by
  unfold validB
  simp only [Bool.and_eq_true, Bool.not_eq_true', Bool.or_eq_false_iff, decide_eq_false_iff_not, List.all_eq_true, List.mem_range, Bool.or_eq_true, List.any_eq_true, decide_eq_true_eq]
  constructor
  · rintro ⟨⟨h1, h2⟩, h3, h4⟩
    have hr : 0 < t.length → t[0]!.d = 0 ∧ t[0]!.p = -1 ∧ t[0]!.pol = anyP ∧ t[0]!.ex = [anyP] := fun h => by
      have := h3 0 h
      unfold fitB at this
      rw [if_pos rfl, fit0_iff] at this
      exact this
    have hf := fun i (h0 : 0 < i) (hi : i < t.length) => (fitB_iff t i h0 D).1 (h3 i hi)
    have hd : ∀ i, i < t.length → 0 ≤ t[i]!.d ∧ t[i]!.d ≤ i := by
      intro i
      induction i using Nat.strongRecOn with
      | _ i ih =>
        intro hi
        by_cases h0 : i = 0
        · subst h0; have := (hr hi).1; omega
        · obtain ⟨a, b, c, -⟩ := hf i (by omega) hi
          have hp : t[i]!.p.toNat < i := by omega
          have := ih _ hp (by omega)
          rw [c]; unfold pn; rw [wrap_small (by omega) (by omega)]
          omega
    refine ⟨by omega, by omega, hr, fun i h0 hi => ?_, fun i h0 hi => ?_, fun i hi => ?_, fun i hi => ?_, fun i hi => ?_, fun i h0 hi => ?_, fun i hi => ?_, fun i hi hlt => ?_⟩
    · obtain ⟨a, b, -⟩ := hf i h0 hi; exact ⟨a, b⟩
    · obtain ⟨a, b, c, -⟩ := hf i h0 hi
      have hp : t[i]!.p.toNat < i := by omega
      have := hd _ (Nat.lt_trans hp hi)
      rw [c]; unfold pn; rw [wrap_small (by omega) (by omega)]
    · by_cases h0 : i = 0
      · subst h0; have := (hr hi).1; omega
      · obtain ⟨a, b, c, d, -⟩ := hf i (by omega) hi; exact d
    · obtain ⟨a, b, c, d, e, -⟩ := hf (i + 1) (by omega) hi; exact e
    · by_cases h0 : i = 0
      · subst h0; rw [(hr hi).2.2.2]; exact asc_any
      · obtain ⟨a, b, c, d, e, f, -⟩ := hf i (by omega) hi; exact f
    · obtain ⟨a, b, c, d, e, f, g, -⟩ := hf i h0 hi; exact g
    · by_cases h0 : i = 0
      · subst h0; intro h; exact absurd (hr hi).2.2.1 h
      · obtain ⟨a, b, c, d, e, f, g, k⟩ := hf i (by omega) hi; exact k
    · rcases h4 i hi with h | ⟨n, hn, h⟩
      · exact absurd hlt h
      · exact ⟨n, hn, h⟩
  · intro V
    have hd : ∀ i, i < t.length → 0 ≤ t[i]!.d ∧ t[i]!.d ≤ i := by
      intro i
      induction i using Nat.strongRecOn with
      | _ i ih =>
        intro hi
        by_cases h0 : i = 0
        · subst h0; have := (V.root hi).1; omega
        · obtain ⟨a, b⟩ := V.par i (by omega) hi
          have hp : t[i]!.p.toNat < i := by omega
          have := ih _ hp (by omega)
          rw [V.dd i (by omega) hi]
          unfold pn
          omega
    refine ⟨⟨by have := V.dep; omega, by have := V.len; omega⟩, fun i hi => ?_, fun i hi => ?_⟩
    · by_cases h0 : i = 0
      · subst h0
        unfold fitB
        rw [if_pos rfl, fit0_iff]; exact V.root hi
      · obtain ⟨a, b⟩ := V.par i (by omega) hi
        have hp : t[i]!.p.toNat < i := by omega
        have hq := hd _ (Nat.lt_trans hp hi)
        have hl := V.len
        refine (fitB_iff t i (by omega) D).2 ⟨a, b, ?_, V.le i hi, ?_, V.asc i hi, V.sp i (by omega) hi, V.ns i hi⟩
        · rw [V.dd i (by omega) hi, wrap_small (by unfold pn; omega) (by unfold pn; omega)]
        · have := V.lt (i - 1) (by omega)
          rw [show i - 1 + 1 = i by omega] at this
          exact this
    · by_cases h : t[i]!.d < D
      · exact .inr (V.leaf i hi h)
      · exact .inl h
section
variable {t : List Nd} {D : Int}
theorem VT.dlo (V : VT t D) : ∀ i, i < t.length → 0 ≤ t[i]!.d ∧ t[i]!.d ≤ i := by
  intro i
  induction i using Nat.strongRecOn with
  | _ i ih =>
    intro hi
    by_cases h0 : i = 0
    · subst h0; have := (V.root hi).1; omega
    · obtain ⟨a, b⟩ := V.par i (by omega) hi
      have hp : t[i]!.p.toNat < i := by omega
      have := ih _ hp (by omega)
      rw [V.dd i (by omega) hi]
      unfold pn
      omega
theorem VT.lt' (V : VT t D) : ∀ j i, i < j → j < t.length → ltT t[i]! t[j]! = true := by
  intro j
  induction j with
  | zero => intro i h; omega
  | succ j ih =>
    intro i h hj
    by_cases e : i = j
    · subst e; exact V.lt i hj
    · exact ltT_ord.tr _ _ _ (ih i (by omega) (by omega)) (V.lt j hj)
theorem VT.mono (V : VT t D) {i j : Nat} (h : i ≤ j) (hj : j < t.length) : t[i]!.d ≤ t[j]!.d := by
  by_cases e : i = j
  · subst e; exact Int.le_refl _
  · have := (ltT_iff _ _).1 (V.lt' j i (by omega) hj)
    omega
theorem VT.srt (V : VT t D) : Srt ltT t := by
  unfold Srt
  rw [List.pairwise_iff_getElem]
  intro i j hi hj h
  have := V.lt' j i h hj
  rw [getElem!_pos t i hi, getElem!_pos t j hj] at this
  exact ltT_ord.asym this
theorem VT.keys (V : VT t D) {i j : Nat} (hi : i < t.length) (hj : j < t.length) (hd : t[i]!.d = t[j]!.d) (hp : t[i]!.p = t[j]!.p) (hq : t[i]!.pol = t[j]!.pol) : i = j := by
  have key : ∀ {i j : Nat}, i < j → j < t.length → t[i]!.d = t[j]!.d → t[i]!.p = t[j]!.p → t[i]!.pol = t[j]!.pol → False := by
    intro i j h hj hd hp hq
    have := (ltT_iff _ _).1 (V.lt' j i h hj)
    rw [hd, hp, hq] at this
    rcases this with h | ⟨-, h | ⟨-, h⟩⟩
    · omega
    · omega
    · exact ltB_irr _ h
  rcases Nat.lt_trichotomy i j with h | h | h
  · exact (key h hj hd hp hq).elim
  · exact h
  · exact (key h hi hd.symm hp.symm hq.symm).elim
/-- one special node for each depth -/
theorem VT.one (V : VT t D) : ∀ i j, i < t.length → j < t.length → t[i]!.d = t[j]!.d → t[i]!.pol = anyP → t[j]!.pol = anyP → i = j := by
  intro i
  induction i using Nat.strongRecOn with
  | _ i ih =>
    intro j hi hj hd h1 h2
    by_cases h0 : i = 0
    · subst h0
      by_cases h3 : j = 0
      · exact h3.symm
      · have a := V.par j (by omega) hj
        have hp : t[j]!.p.toNat < t.length := by omega
        have b := V.dd j (by omega) hj
        have c := (V.dlo _ hp).1
        have d := (V.root hi).1
        unfold pn at b
        omega
    · by_cases h3 : j = 0
      · subst h3
        have a := V.par i (by omega) hi
        have hp : t[i]!.p.toNat < t.length := by omega
        have b := V.dd i (by omega) hi
        have c := (V.dlo _ hp).1
        have d := (V.root hj).1
        unfold pn at b
        omega
      · have a := V.par i (by omega) hi
        have b := V.par j (by omega) hj
        have a2 := V.dd i (by omega) hi
        have b2 := V.dd j (by omega) hj
        have a3 := V.sp i (by omega) hi h1
        have b3 := V.sp j (by omega) hj h2
        unfold pn at a2 b2 a3 b3
        have e := ih t[i]!.p.toNat (by omega) t[j]!.p.toNat (by omega) (by omega) (by omega) a3.1 b3.1
        exact V.keys hi hj hd (by omega) (by rw [h1, h2])
end
/-- how many of the first i are marked -/
def rk (m : List Bool) (i : Nat) : Nat := ((List.range i).filter fun j => m[j]!).length
def kpN (m : List Bool) (n : Nd) : Nd := ⟨n.d, if n.p < 0 then n.p else if m[n.p.toNat]! then ((rk m n.p.toNat : Nat) : Int) else 0, n.pol, n.ex⟩
/-- what keep has after k nodes -/
def keepK (t : List Nd) (m : List Bool) (k : Nat) : List Nd := ((List.range k).filter fun j => m[j]!).map fun j => kpN m t[j]!
def keepP (t : List Nd) (m : List Bool) : List Nd := keepK t m t.length
theorem rk_succ (m : List Bool) (k : Nat) : rk m (k + 1) = rk m k + if m[k]! then 1 else 0 := by
  unfold rk
  rw [List.range_succ, List.filter_append, List.length_append]
  cases h : m[k]! <;> simp [List.filter_cons, h, -List.getElem!_eq_getElem?_getD]
theorem rk_zero (m : List Bool) : rk m 0 = 0 := rfl
theorem rk_le (m : List Bool) : ∀ k, rk m k ≤ k
  | 0 => Nat.le_refl _
  | k + 1 => by rw [rk_succ]; have := rk_le m k; split <;> omega
theorem rk_mono (m : List Bool) {i j : Nat} (h : i ≤ j) : rk m i ≤ rk m j := by
  induction h with
  | refl => exact Nat.le_refl _
  | step _ ih => rw [rk_succ]; omega
theorem rk_lt (m : List Bool) {i j : Nat} (h : i < j) (hm : m[i]! = true) : rk m i < rk m j := by
  have := rk_mono m (show i + 1 ≤ j from h)
  rw [rk_succ, if_pos hm] at this; omega
theorem rk_congr {m m' : List Bool} : ∀ k, (∀ j, j < k → m[j]! = m'[j]!) → rk m k = rk m' k
  | 0, _ => rfl
  | k + 1, h => by rw [rk_succ, rk_succ, rk_congr k (fun j hj => h j (by omega)), h k (by omega)]
theorem keepK_zero (t : List Nd) (m : List Bool) : keepK t m 0 = [] := rfl
theorem keepK_succ (t : List Nd) (m : List Bool) (k : Nat) : keepK t m (k + 1) = keepK t m k ++ if m[k]! then [kpN m t[k]!] else [] := by
  unfold keepK
  rw [List.range_succ, List.filter_append, List.map_append]
  cases h : m[k]! <;> simp [List.filter_cons, h, -List.getElem!_eq_getElem?_getD]
theorem keepK_length (t : List Nd) (m : List Bool) (k : Nat) : (keepK t m k).length = rk m k := by unfold keepK rk; rw [List.length_map]
theorem keepP_length (t : List Nd) (m : List Bool) : (keepP t m).length = rk m t.length := keepK_length _ _ _
/-- the place of a marked node -/
theorem keepK_at (t : List Nd) (m : List Bool) : ∀ (k i : Nat), i < k → m[i]! = true → (keepK t m k)[rk m i]? = some (kpN m t[i]!)
  | 0, i, h, _ => by omega
  | k + 1, i, h, hm => by
    rw [keepK_succ]
    by_cases e : i = k
    · subst e
      rw [List.getElem?_append_right (by rw [keepK_length]; exact Nat.le_refl _), keepK_length, Nat.sub_self, if_pos hm]; rfl
    · have hlt : rk m i < rk m k := rk_lt m (by omega) hm
      rw [List.getElem?_append_left (by rw [keepK_length]; exact hlt)]
      exact keepK_at t m k i (by omega) hm
theorem keepP_at (t : List Nd) (m : List Bool) {i : Nat} (hi : i < t.length) (hm : m[i]! = true) : (keepP t m)[rk m i]! = kpN m t[i]! := by
  have h := keepK_at t m t.length i hi hm
  unfold keepP
  rw [List.getElem!_eq_getElem?_getD, h]; rfl
theorem keepK_from (t : List Nd) (m : List Bool) : ∀ (k j : Nat), j < rk m k → ∃ i, i < k ∧ m[i]! = true ∧ rk m i = j
  | 0, j, h => by rw [rk_zero] at h; omega
  | k + 1, j, h => by
    rw [rk_succ] at h
    by_cases e : j < rk m k
    · obtain ⟨i, h1, h2, h3⟩ := keepK_from t m k j e
      exact ⟨i, by omega, h2, h3⟩
    · cases hk : m[k]! with
      | false => rw [hk] at h; simp at h; omega
      | true => rw [hk] at h; simp at h; exact ⟨k, by omega, hk, by omega⟩
theorem keepP_from (t : List Nd) (m : List Bool) {j : Nat} (h : j < (keepP t m).length) : ∃ i, i < t.length ∧ m[i]! = true ∧ rk m i = j ∧ (keepP t m)[j]! = kpN m t[i]! := by
  rw [keepP_length] at h
  obtain ⟨i, h1, h2, h3⟩ := keepK_from t m _ j h
  exact ⟨i, h1, h2, h3, by rw [← h3]; exact keepP_at t m h1 h2⟩
/-- one node of pruning, from the last -/
def stepM (t : List Nd) (D : Int) (m : List Bool) (i : Nat) : List Bool :=
  let m1 := if t[i]!.d = D then m.set i true else m
  if m1[i]! && decide (t[i]!.p ≥ 0) then m1.set t[i]!.p.toNat true else m1
/-- the marks after j nodes, from the last -/
def pmB (t : List Nd) (D : Int) : Nat → List Bool
  | 0 => List.replicate t.length false
  | j + 1 => stepM t D (pmB t D j) (t.length - 1 - j)
def pruneM (t : List Nd) (D : Int) : List Bool := pmB t D t.length
def pruneP (t : List Nd) (D : Int) : List Nd := keepP t (pruneM t D)
theorem stepM_length (t : List Nd) (D : Int) (m : List Bool) (i : Nat) : (stepM t D m i).length = m.length := by
  have e : ∀ (m1 : List Bool), m1.length = m.length → (if m1[i]! && decide (t[i]!.p ≥ 0) then m1.set t[i]!.p.toNat true else m1).length = m.length := by
    intro m1 h
    split
    · rw [List.length_set]; exact h
    · exact h
  unfold stepM
  refine e _ ?_
  split
  · rw [List.length_set]
  · rfl
theorem pmB_length (t : List Nd) (D : Int) : ∀ j, (pmB t D j).length = t.length
  | 0 => by simp [pmB]
  | j + 1 => by rw [pmB, stepM_length]; exact pmB_length t D j
/-- marks from the first on: a node whose parent stays -/
def dnM (t : List Nd) (c : Nat → Bool) : Nat → List Bool
  | 0 => []
  | k + 1 => dnM t c k ++ [c k && (decide (t[k]!.p < 0) || (dnM t c k)[t[k]!.p.toNat]!)]
theorem dnM_length (t : List Nd) (c : Nat → Bool) : ∀ k, (dnM t c k).length = k
  | 0 => rfl
  | k + 1 => by rw [dnM, List.length_append, dnM_length t c k]; rfl
theorem dnM_keep (t : List Nd) (c : Nat → Bool) : ∀ (k i : Nat), i < k → (dnM t c k)[i]! = (dnM t c (i + 1))[i]!
  | 0, i, h => by omega
  | k + 1, i, h => by
    by_cases e : i = k
    · subst e; rfl
    · rw [dnM]
      have hl := dnM_length t c k
      rw [List.getElem!_eq_getElem?_getD, List.getElem?_append_left (by omega), ← List.getElem!_eq_getElem?_getD]
      exact dnM_keep t c k i (by omega)
theorem dnM_at (t : List Nd) (c : Nat → Bool) (k i : Nat) (hi : i < k) (hp : t[i]!.p < i) : (dnM t c k)[i]! = (c i && (decide (t[i]!.p < 0) || (dnM t c k)[t[i]!.p.toNat]!)) := by
  rw [dnM_keep t c k i hi, dnM]
  have hl := dnM_length t c i
  rw [List.getElem!_eq_getElem?_getD, List.getElem?_append_right (by omega), hl, Nat.sub_self]
  by_cases h0 : t[i]!.p < 0
  · rw [decide_eq_true h0]; simp
  · have hq : t[i]!.p.toNat < i := by omega
    rw [dnM_keep t c i _ hq, ← dnM_keep t c k _ (by omega)]; simp
/-- Enter -/
def expdP (t : List Nd) (D : Int) (p : B) : Bool := t.any fun n => decide (n.d = D - 1) && decide (p ∈ n.ex)
def wantP (t : List Nd) (D : Int) (n : Nd) (p : B) : Bool := decide (p ≠ anyP) && (decide (p ∈ n.ex) || (!expdP t D p && spec n))
def childP (t : List Nd) (D : Int) (n : Nd) (pol : List B) (all : Bool) : List B := setB (pol.filter (wantP t D n) ++ if all then n.ex else [])
def newN (D i : Int) (p : B) : Nd := ⟨D, i, p, [p]⟩
def moreK (t : List Nd) (D : Int) (pol : List B) (all : Bool) (k : Nat) : List Nd := (List.range k).flatMap fun (i : Nat) => if t[i]!.d < D - 1 then [] else (childP t D t[i]! pol all).map (newN D (i : Nat))
theorem moreK_succ (t : List Nd) (D : Int) (pol : List B) (all : Bool) (k : Nat) : moreK t D pol all (k + 1) = moreK t D pol all k ++ if t[k]!.d < D - 1 then [] else (childP t D t[k]! pol all).map (newN D (k : Nat)) := by
  unfold moreK; rw [List.range_succ, List.flatMap_append]; simp
theorem moreK_mono (t : List Nd) (D : Int) (pol : List B) (all : Bool) {i j : Nat} (h : i ≤ j) : (moreK t D pol all i).length ≤ (moreK t D pol all j).length := by
  induction h with
  | refl => exact Nat.le_refl _
  | step _ ih => rw [moreK_succ, List.length_append]; omega
def enterP (t : List Nd) (D : Int) (ps : List B) (cnt : Bool) : List Nd × Int :=
  if decide (D < 1) || !validB t (D - 1) then ([], 7) else
    let more := moreK t D (setB ps) (cnt && decide (anyP ∈ setB ps)) t.length
    if t.length + more.length > 2048 then ([], 2) else (pruneP (sortT (t ++ more)) D, 0)
/-- Map: a mapping is a pair of strings -/
def okM (m : B × B) : Bool := decide (m.1 ≠ anyP) && decide (m.2 ≠ anyP)
def srcL (l : List (B × B)) : List B := setB ((l.filter okM).map (·.1))
def subL (l : List (B × B)) (x : B) : List B := setB ((l.filter fun m => decide (m.1 = x) && okM m).map (·.2))
def nowN (l : List (B × B)) (D : Int) (n : Nd) : Nd := if decide (n.d < D) then n else if decide (n.pol ∈ srcL l) then ⟨n.d, n.p, n.pol, subL l n.pol⟩ else n
def lastS (t : List Nd) (D : Int) : Nat → Int
  | 0 => -1
  | k + 1 => if !decide (t[k]!.d < D) && spec t[k]! then t[k]!.p else lastS t D k
def foundP (t : List Nd) (D : Int) (q : B) : Bool := t.any fun n => !decide (n.d < D) && decide (n.pol = q)
def mapMore (t : List Nd) (D : Int) (l : List (B × B)) : List Nd := ((srcL l).filter fun q => decide (lastS t D t.length ≥ 0) && !foundP t D q).map fun q => ⟨D, lastS t D t.length, q, subL l q⟩
def mapM (t : List Nd) (D : Int) (l : List (B × B)) : List Bool := t.map fun n => decide (n.d < D) || !decide (n.pol ∈ srcL l)
def mapP (t : List Nd) (D : Int) (l : List (B × B)) (ok : Bool) : List Nd × Int :=
  if decide (D < 1) || !validB t D then ([], 7) else
  if !ok then (pruneP (keepP t (mapM t D l)) D, 0) else
    if t.length + (mapMore t D l).length > 2048 then ([], 2) else (pruneP (sortT (t.map (nowN l D) ++ mapMore t D l)) D, 0)
/-- Restrict -/
def resC (t : List Nd) (D : Int) (ps : List B) (i : Nat) : Bool := (decide (t[i]!.p < 0) || !spec (pn t t[i]!) || spec t[i]! || decide (t[i]!.pol ∈ ps)) && !(spec t[i]! && decide (t[i]!.d = D) && decide (D > 0))
def resM (t : List Nd) (D : Int) (ps : List B) : List Bool := dnM t (resC t D ps) t.length
/-- a wanted policy that a node has below a special one -/
def haveK (t : List Nd) (D : Int) (ps : List B) (q : B) (k : Nat) : Bool := (List.range k).any fun i => (dnM t (resC t D ps) t.length)[i]! && (decide (t[i]!.p ≥ 0) && (spec (pn t t[i]!) && (!spec t[i]! && (decide (t[i]!.pol ∈ ps) && decide (t[i]!.pol = q)))))
def idxP (t : List Nd) (f : Nd → Bool) : Int := if t.findIdx f < t.length then (t.findIdx f : Nat) else -1
def resMore (t out : List Nd) (D : Int) (ps : List B) : List Nd := ((setB ps).filter fun q => !haveK t D ps q t.length).map (newN D (idxP out fun n => spec n && decide (n.d = D - 1)))
def resP (t : List Nd) (D : Int) (ps : List B) : List Nd × Int :=
  if !validB t D then ([], 7) else
  if ps.isEmpty || decide (anyP ∈ ps) then (pruneP t D, 0) else
    let out := keepP t (resM t D ps)
    if t.any (fun n => spec n && decide (n.d = D) && decide (D > 0)) then
      if out.length + (resMore t out D ps).length > 2048 then ([], 2) else (pruneP (sortT (out ++ resMore t out D ps)) D, 0)
    else (pruneP out D, 0)
/-- Policies -/
def polC (t : List Nd) (D : Int) (n : Nd) : Bool := decide (n.p ≥ 0) && (spec (pn t n) && (!spec n || decide (n.d = D)))
def polK (t : List Nd) (D : Int) (k : Nat) : List B := ((List.range k).filter fun i => polC t D t[i]!).map fun i => t[i]!.pol
theorem polK_succ (t : List Nd) (D : Int) (k : Nat) : polK t D (k + 1) = polK t D k ++ if polC t D t[k]! then [t[k]!.pol] else [] := by
  unfold polK
  rw [List.range_succ, List.filter_append, List.map_append]
  cases h : polC t D t[k]! <;> simp [List.filter_cons, h, -List.getElem!_eq_getElem?_getD]
def polP (t : List Nd) (D : Int) : List B := if !validB t D then [] else setB (polK t D t.length)
/-- the index of the special node with a depth, or -1 -/
def spAt (t : List Nd) (D : Int) : Int := idxP t fun n => decide (n.d = D) && spec n
def ksP (t : List Nd) (D : Int) (p : B) (k : Nat) : List Nat := (List.range k).filter fun i => decide (t[i]!.d = D - 1) && decide (p ∈ t[i]!.ex)
def r1P (t : List Nd) (D : Int) (p : B) : List Nd := if ksP t D p t.length = [] then (if spAt t (D - 1) ≥ 0 then [newN D (spAt t (D - 1)) p] else []) else (ksP t D p t.length).map fun (i : Nat) => newN D (i : Nat) p
def r1L (t : List Nd) (D : Int) (set : List B) : List Nd := set.flatMap fun p => if p = anyP then [] else r1P t D p
def kidB (l : List Nd) (k : Int) (p : B) : Bool := l.any fun n => decide (n.p = k) && decide (n.pol = p)
def r2I (t : List Nd) (D : Int) (k : Nat) (xs : List Nd) (ps : List B) : List Nd := ps.foldl (fun xs p => if kidB (t ++ xs) (k : Nat) p then xs else xs ++ [newN D (k : Nat) p]) xs
def r2L (t : List Nd) (D : Int) (xs : List Nd) : Nat → List Nd
  | 0 => xs
  | k + 1 => if t[k]!.d = D - 1 then r2I t D k (r2L t D xs k) t[k]!.ex else r2L t D xs k
def insL (t xs : List Nd) : List Nd := xs.foldl (fun a x => ins (lt := ltT) x a) t
def renterX (t : List Nd) (D : Int) (ps : List B) (sp : Bool) : List Nd := if sp && decide (anyP ∈ setB ps) then r2L t D (r1L t D (setB ps)) t.length else r1L t D (setB ps)
def renterP (t : List Nd) (D : Int) (ps : List B) (sp : Bool) : List Nd × Int :=
  if decide (D < 1) || !validB t (D - 1) then ([], 7) else
    if (insL t (renterX t D ps sp)).length > 2048 then ([], 2) else (pruneP (insL t (renterX t D ps sp)) D, 0)

theorem idxP_none {t : List Nd} {f : Nd → Bool} (h : idxP t f < 0) : ∀ i, i < t.length → f t[i]! = false := by
  unfold idxP at h
  split at h
  · omega
  · rename_i h1
    intro i hi
    have := List.findIdx_eq_length.1 (show t.findIdx f = t.length by have := List.findIdx_le_length (p := f) (xs := t); omega)
    rw [getElem!_pos t i hi]
    exact this _ (List.getElem_mem hi)
theorem idxP_some {t : List Nd} {f : Nd → Bool} (h : 0 ≤ idxP t f) : ∃ i, i < t.length ∧ idxP t f = (i : Int) ∧ f t[i]! = true ∧ ∀ j, j < i → f t[j]! = false := by
  unfold idxP at h ⊢
  split at h
  · rename_i h1
    refine ⟨t.findIdx f, h1, by rw [if_pos h1], ?_, fun j hj => ?_⟩
    · rw [getElem!_pos t _ h1]; exact List.findIdx_getElem
    · rw [getElem!_pos t j (by omega)]
      have := List.not_of_lt_findIdx hj
      simpa using this
  · omega
theorem idxP_eq {t : List Nd} {f : Nd → Bool} {i : Nat} (hi : i < t.length) (h : f t[i]! = true) (hb : ∀ j, j < i → f t[j]! = false) : idxP t f = (i : Int) := by
  have e : t.findIdx f = i := by
    rw [List.findIdx_eq hi]
    rw [getElem!_pos t i hi] at h
    refine ⟨h, fun j hj => ?_⟩
    have := hb j hj
    rwa [getElem!_pos t j (by omega)] at this
  unfold idxP; rw [e, if_pos hi]
theorem idxP_no {t : List Nd} {f : Nd → Bool} (h : ∀ i, i < t.length → f t[i]! = false) : idxP t f = -1 := by
  unfold idxP
  rw [if_neg]
  intro hlt
  have := List.findIdx_getElem (xs := t) (p := f) (w := hlt)
  have h2 := h _ hlt
  rw [getElem!_pos t _ hlt, this] at h2
  cases h2
theorem mem_at {t : List Nd} {n : Nd} : n ∈ t ↔ ∃ i, i < t.length ∧ t[i]! = n := by
  constructor
  · intro h
    obtain ⟨i, hi, e⟩ := List.getElem_of_mem h
    exact ⟨i, hi, by rw [getElem!_pos t i hi]; exact e⟩
  · rintro ⟨i, hi, rfl⟩
    rw [getElem!_pos t i hi]; exact List.getElem_mem hi
theorem newN_inj {D i j : Int} {p q : B} : newN D i p = newN D j q ↔ i = j ∧ p = q := by
  unfold newN
  constructor
  · intro h; injection h with _ h1 h2 _; exact ⟨h1, h2⟩
  · rintro ⟨rfl, rfl⟩; rfl
theorem newN_lt {D i j : Int} {p q : B} (h : newN D i p ≠ newN D j q) : ltT (newN D i p) (newN D j q) = true ∨ ltT (newN D j q) (newN D i p) = true := by
  rw [ltT_iff, ltT_iff]
  unfold newN
  simp only [Int.lt_irrefl, false_or, true_and]
  by_cases h1 : i < j
  · exact .inl (.inl h1)
  · by_cases h2 : j < i
    · exact .inr (.inl h2)
    · obtain rfl : i = j := by omega
      have hpq : p ≠ q := fun e => h (by rw [e])
      by_cases h3 : p < q
      · exact .inl (.inr ⟨rfl, h3⟩)
      · exact .inr (.inr ⟨rfl, ltB_or h3 hpq⟩)
theorem new_pair {D : Int} {l : List Nd} (hn : l.Nodup) (hf : ∀ n ∈ l, ∃ i p, n = newN D i p) : l.Pairwise fun x y => ltT x y = true ∨ ltT y x = true := by
  refine List.Pairwise.imp_of_mem ?_ hn
  intro a b ha hb hab
  obtain ⟨i, p, rfl⟩ := hf a ha
  obtain ⟨j, q, rfl⟩ := hf b hb
  exact newN_lt hab
theorem insL_perm {D : Int} {t m m' : List Nd} (hm : m.Nodup) (hm' : m'.Nodup) (he : ∀ n, n ∈ m ↔ n ∈ m') (hf : ∀ n ∈ m, ∃ i p, n = newN D i p) : insL t m = insL t m' :=
  fold_perm ltT_ord ((List.perm_ext_iff_of_nodup hm hm').2 he) (new_pair hm hf) t
theorem insL_length (t xs : List Nd) : (insL t xs).length = t.length + xs.length := fold_length xs t
theorem insL_mem {t xs : List Nd} {n : Nd} : n ∈ insL t xs ↔ n ∈ t ∨ n ∈ xs := by
  unfold insL
  induction xs generalizing t with
  | nil => simp
  | cons x xs ih =>
    rw [List.foldl_cons, ih, ins_mem, List.mem_cons]
    constructor
    · rintro ((h | h) | h) <;> simp [h]
    · rintro (h | h | h) <;> simp [h]
theorem insL_snoc (t xs : List Nd) (x : Nd) : insL t (xs ++ [x]) = ins (lt := ltT) x (insL t xs) := by unfold insL; rw [List.foldl_append]; rfl
theorem insL_srt {t : List Nd} (h : Srt ltT t) (xs : List Nd) : Srt ltT (insL t xs) := fold_srt ltT_ord xs t h
theorem kidB_ins (t xs : List Nd) (k : Int) (p : B) : kidB (insL t xs) k p = kidB (t ++ xs) k p := by
  unfold kidB
  rw [Bool.eq_iff_iff, List.any_eq_true, List.any_eq_true]
  constructor <;> (rintro ⟨n, hn, h⟩; refine ⟨n, ?_, h⟩)
  · rw [List.mem_append]; exact insL_mem.1 hn
  · rw [List.mem_append] at hn; exact insL_mem.2 hn
theorem sort_ins {t : List Nd} (h : Srt ltT t) (xs : List Nd) : sortT (t ++ xs) = insL t xs := srtL_append ltT_ord h
theorem moreK_mem {t : List Nd} {D : Int} {pol : List B} {all : Bool} {k : Nat} {n : Nd} : n ∈ moreK t D pol all k ↔ ∃ i, i < k ∧ ¬ t[i]!.d < D - 1 ∧ ∃ p ∈ childP t D t[i]! pol all, n = newN D (i : Nat) p := by
  unfold moreK
  rw [List.mem_flatMap]
  constructor
  · rintro ⟨i, hi, hn⟩
    rw [List.mem_range] at hi
    by_cases h : t[i]!.d < D - 1
    · rw [if_pos h] at hn; cases hn
    · rw [if_neg h, List.mem_map] at hn
      obtain ⟨p, hp, rfl⟩ := hn
      exact ⟨i, hi, h, p, hp, rfl⟩
  · rintro ⟨i, hi, h, p, hp, rfl⟩
    exact ⟨i, List.mem_range.2 hi, by rw [if_neg h]; exact List.mem_map.2 ⟨p, hp, rfl⟩⟩
theorem moreK_nodup (t : List Nd) (D : Int) (pol : List B) (all : Bool) : ∀ k, (moreK t D pol all k).Nodup
  | 0 => List.Pairwise.nil
  | k + 1 => by
    rw [moreK_succ, List.nodup_append]
    refine ⟨moreK_nodup t D pol all k, ?_, fun a ha b hb e => ?_⟩
    · split
      · exact List.Pairwise.nil
      · unfold List.Nodup
        rw [List.pairwise_map]
        refine List.Pairwise.imp ?_ (asc_nodup (setB_asc _))
        intro a b hab e
        exact hab (newN_inj.1 e).2
    · obtain ⟨i, hi, -, p, -, rfl⟩ := moreK_mem.1 ha
      split at hb
      · cases hb
      · obtain ⟨q, -, rfl⟩ := List.mem_map.1 hb
        have := (newN_inj.1 e).1
        omega
theorem childP_mem {t : List Nd} {D : Int} {n : Nd} {pol : List B} {all : Bool} {p : B} : p ∈ childP t D n pol all ↔ (p ∈ pol ∧ wantP t D n p = true) ∨ (all = true ∧ p ∈ n.ex) := by
  unfold childP
  rw [setB_mem, List.mem_append, List.mem_filter]
  cases all <;> simp
theorem wantP_iff {t : List Nd} {D : Int} {n : Nd} {p : B} : wantP t D n p = true ↔ p ≠ anyP ∧ (p ∈ n.ex ∨ (expdP t D p = false ∧ n.pol = anyP)) := by
  unfold wantP spec
  simp [-List.getElem!_eq_getElem?_getD]
theorem expdP_iff {t : List Nd} {D : Int} {p : B} : expdP t D p = true ↔ ∃ i, i < t.length ∧ t[i]!.d = D - 1 ∧ p ∈ t[i]!.ex := by
  unfold expdP
  rw [List.any_eq_true]
  constructor
  · rintro ⟨n, hn, h⟩
    obtain ⟨i, hi, rfl⟩ := mem_at.1 hn
    rw [Bool.and_eq_true, decide_eq_true_eq, decide_eq_true_eq] at h
    exact ⟨i, hi, h⟩
  · rintro ⟨i, hi, h⟩
    exact ⟨t[i]!, mem_at.2 ⟨i, hi, rfl⟩, by rw [Bool.and_eq_true, decide_eq_true_eq, decide_eq_true_eq]; exact h⟩
theorem ksP_mem {t : List Nd} {D : Int} {p : B} {k i : Nat} : i ∈ ksP t D p k ↔ i < k ∧ t[i]!.d = D - 1 ∧ p ∈ t[i]!.ex := by
  unfold ksP
  rw [List.mem_filter, List.mem_range, Bool.and_eq_true, decide_eq_true_eq, decide_eq_true_eq]
theorem r1P_mem {t : List Nd} {D : Int} {p : B} {n : Nd} : n ∈ r1P t D p ↔ (∃ i, i < t.length ∧ t[i]!.d = D - 1 ∧ p ∈ t[i]!.ex ∧ n = newN D (i : Nat) p) ∨ (expdP t D p = false ∧ 0 ≤ spAt t (D - 1) ∧ n = newN D (spAt t (D - 1)) p) := by
  unfold r1P
  by_cases h : ksP t D p t.length = []
  · rw [if_pos h]
    have he : expdP t D p = false := by
      cases q : expdP t D p with
      | false => rfl
      | true =>
        obtain ⟨i, hi⟩ := expdP_iff.1 q
        have : i ∈ ksP t D p t.length := ksP_mem.2 hi
        rw [h] at this; cases this
    have hno : ¬ ∃ i, i < t.length ∧ t[i]!.d = D - 1 ∧ p ∈ t[i]!.ex := fun hh => by have := expdP_iff.2 hh; rw [he] at this; cases this
    constructor
    · intro hn
      split at hn
      · rename_i hs
        rw [List.mem_singleton] at hn
        exact .inr ⟨he, hs, hn⟩
      · cases hn
    · rintro (⟨i, h1, h2, h3, -⟩ | ⟨-, h2, rfl⟩)
      · exact absurd ⟨i, h1, h2, h3⟩ hno
      · rw [if_pos h2]; simp
  · rw [if_neg h, List.mem_map]
    have he : expdP t D p = true := by
      obtain ⟨i, hi⟩ := List.exists_mem_of_ne_nil _ h
      exact expdP_iff.2 ⟨i, ksP_mem.1 hi⟩
    constructor
    · rintro ⟨i, hi, rfl⟩
      obtain ⟨h1, h2, h3⟩ := ksP_mem.1 hi
      exact .inl ⟨i, h1, h2, h3, rfl⟩
    · rintro (⟨i, h1, h2, h3, rfl⟩ | ⟨h1, -⟩)
      · exact ⟨i, ksP_mem.2 ⟨h1, h2, h3⟩, rfl⟩
      · rw [he] at h1; cases h1
theorem r1P_nodup (t : List Nd) (D : Int) (p : B) : (r1P t D p).Nodup := by
  unfold r1P
  split
  · split <;> simp
  · unfold List.Nodup
    rw [List.pairwise_map]
    have : (ksP t D p t.length).Nodup := (List.nodup_range).sublist List.filter_sublist
    refine List.Pairwise.imp ?_ this
    intro a b hab e
    have := (newN_inj.1 e).1
    omega
theorem r1P_pol {t : List Nd} {D : Int} {p : B} {n : Nd} (h : n ∈ r1P t D p) : ∃ i, n = newN D i p := by
  rcases r1P_mem.1 h with ⟨i, -, -, -, h⟩ | ⟨-, -, h⟩
  · exact ⟨_, h⟩
  · exact ⟨_, h⟩
theorem r1L_mem {t : List Nd} {D : Int} {set : List B} {n : Nd} : n ∈ r1L t D set ↔ ∃ p ∈ set, p ≠ anyP ∧ n ∈ r1P t D p := by
  unfold r1L
  rw [List.mem_flatMap]
  constructor
  · rintro ⟨p, hp, hn⟩
    split at hn
    · cases hn
    · rename_i h; exact ⟨p, hp, h, hn⟩
  · rintro ⟨p, hp, h, hn⟩
    exact ⟨p, hp, by rw [if_neg h]; exact hn⟩
theorem r1L_nodup (t : List Nd) (D : Int) : ∀ (set : List B), set.Nodup → (r1L t D set).Nodup
  | [], _ => List.Pairwise.nil
  | p :: set, h => by
    have h' := List.nodup_cons.1 h
    have e : r1L t D (p :: set) = (if p = anyP then [] else r1P t D p) ++ r1L t D set := by unfold r1L; rw [List.flatMap_cons]
    rw [e, List.nodup_append]
    refine ⟨?_, r1L_nodup t D set h'.2, fun a ha b hb hab => ?_⟩
    · split
      · exact List.Pairwise.nil
      · exact r1P_nodup t D p
    · subst hab
      obtain ⟨q, hq, -, hn⟩ := r1L_mem.1 hb
      split at ha
      · cases ha
      · obtain ⟨i, e1⟩ := r1P_pol ha
        obtain ⟨j, e2⟩ := r1P_pol hn
        rw [e1] at e2
        have := (newN_inj.1 e2).2
        subst this
        exact h'.1 hq
theorem kidB_iff {l : List Nd} {k : Int} {p : B} : kidB l k p = true ↔ ∃ n ∈ l, n.p = k ∧ n.pol = p := by
  unfold kidB; rw [List.any_eq_true]
  simp [-List.getElem!_eq_getElem?_getD]
/-- what the second loop keeps -/
structure R2 (t : List Nd) (D : Int) (S : Nd → Prop) (xs : List Nd) : Prop where
  nd : xs.Nodup
  form : ∀ n ∈ xs, ∃ i p, n = newN D i p
  mem : ∀ n, n ∈ xs ↔ S n
theorem R2.step {t : List Nd} {D : Int} {S : Nd → Prop} {xs : List Nd} (h : R2 t D S xs) (k : Nat) (p : B) (ht : kidB t (k : Nat) p = false) :
    R2 t D (fun n => S n ∨ n = newN D (k : Nat) p) (if kidB (t ++ xs) (k : Nat) p then xs else xs ++ [newN D (k : Nat) p]) := by
  by_cases hk : kidB (t ++ xs) (k : Nat) p = true
  · rw [if_pos hk]
    refine ⟨h.nd, h.form, fun n => ?_⟩
    obtain ⟨n', hn', h1, h2⟩ := kidB_iff.1 hk
    rw [List.mem_append] at hn'
    rcases hn' with hn' | hn'
    · have := kidB_iff.2 ⟨n', hn', h1, h2⟩
      rw [ht] at this; cases this
    · obtain ⟨i, q, rfl⟩ := h.form _ hn'
      unfold newN at h1 h2
      simp only at h1 h2
      subst h1 h2
      rw [h.mem n]
      constructor
      · exact .inl
      · rintro (q | rfl)
        · exact q
        · exact (h.mem _).1 hn'
  · rw [if_neg hk]
    refine ⟨?_, fun n hn => ?_, fun n => ?_⟩
    · rw [List.nodup_append]
      refine ⟨h.nd, by simp, fun a ha b hb e => ?_⟩
      rw [List.mem_singleton] at hb
      subst e hb
      apply hk
      exact kidB_iff.2 ⟨_, List.mem_append.2 (.inr ha), rfl, rfl⟩
    · rw [List.mem_append, List.mem_singleton] at hn
      rcases hn with hn | rfl
      · exact h.form n hn
      · exact ⟨_, _, rfl⟩
    · rw [List.mem_append, List.mem_singleton, h.mem n]
theorem R2.inner {t : List Nd} {D : Int} (k : Nat) (ht : ∀ p, kidB t (k : Nat) p = false) : ∀ (ps : List B) {S : Nd → Prop} {xs : List Nd}, R2 t D S xs → R2 t D (fun n => S n ∨ ∃ p ∈ ps, n = newN D (k : Nat) p) (r2I t D k xs ps)
  | [], S, xs, h => ⟨h.nd, h.form, fun n => by rw [show r2I t D k xs [] = xs from rfl, h.mem n]; simp⟩
  | p :: ps, S, xs, h => by
    have h1 := R2.inner k ht ps (h.step k p (ht p))
    refine ⟨h1.nd, h1.form, fun n => ?_⟩
    have e : r2I t D k xs (p :: ps) = r2I t D k (if kidB (t ++ xs) (k : Nat) p then xs else xs ++ [newN D (k : Nat) p]) ps := rfl
    rw [e, h1.mem n]
    simp only [List.mem_cons]
    constructor
    · rintro ((h | h) | ⟨q, hq, h⟩)
      · exact .inl h
      · exact .inr ⟨p, .inl rfl, h⟩
      · exact .inr ⟨q, .inr hq, h⟩
    · rintro (h | ⟨q, rfl | hq, h⟩)
      · exact .inl (.inl h)
      · exact .inl (.inr h)
      · exact .inr ⟨q, hq, h⟩
theorem R2.outer {t : List Nd} {D : Int} (ht : ∀ k, k < t.length → t[k]!.d = D - 1 → ∀ p, kidB t (k : Nat) p = false) {S : Nd → Prop} {xs : List Nd} (h : R2 t D S xs) : ∀ k, k ≤ t.length → R2 t D (fun n => S n ∨ ∃ i, i < k ∧ t[i]!.d = D - 1 ∧ ∃ p ∈ t[i]!.ex, n = newN D (i : Nat) p) (r2L t D xs k)
  | 0, _ => ⟨h.nd, h.form, fun n => by rw [show r2L t D xs 0 = xs from rfl, h.mem n]; simp⟩
  | k + 1, hk => by
    have h1 := R2.outer ht h k (by omega)
    unfold r2L
    by_cases hd : t[k]!.d = D - 1
    · rw [if_pos hd]
      have h2 := R2.inner k (ht k (by omega) hd) t[k]!.ex h1
      refine ⟨h2.nd, h2.form, fun n => ?_⟩
      rw [h2.mem n]
      constructor
      · rintro ((q | ⟨i, hi, q⟩) | ⟨p, hp, q⟩)
        · exact .inl q
        · exact .inr ⟨i, by omega, q⟩
        · exact .inr ⟨k, by omega, hd, p, hp, q⟩
      · rintro (q | ⟨i, hi, q1, p, hp, q⟩)
        · exact .inl (.inl q)
        · by_cases e : i = k
          · subst e; exact .inr ⟨p, hp, q⟩
          · exact .inl (.inr ⟨i, by omega, q1, p, hp, q⟩)
    · rw [if_neg hd]
      refine ⟨h1.nd, h1.form, fun n => ?_⟩
      rw [h1.mem n]
      constructor
      · rintro (q | ⟨i, hi, q⟩)
        · exact .inl q
        · exact .inr ⟨i, by omega, q⟩
      · rintro (q | ⟨i, hi, q1, q⟩)
        · exact .inl q
        · by_cases e : i = k
          · subst e; exact absurd q1 hd
          · exact .inr ⟨i, by omega, q1, q⟩
/-- the deepest nodes have no children -/
theorem VT.nokid {t : List Nd} {D : Int} (V : VT t D) (k : Nat) (hk : k < t.length) (hd : t[k]!.d = D) (p : B) : kidB t (k : Nat) p = false := by
  cases q : kidB t (k : Nat) p with
  | false => rfl
  | true =>
    obtain ⟨n, hn, h1, -⟩ := kidB_iff.1 q
    obtain ⟨i, hi, rfl⟩ := mem_at.1 hn
    by_cases h0 : i = 0
    · subst h0
      have := (V.root hi).2.1
      omega
    · have a := V.dd i (by omega) hi
      have b := V.le i hi
      unfold pn at a
      rw [show t[i]!.p.toNat = k by omega] at a
      omega
theorem VT.spAt_iff {t : List Nd} {D : Int} (V : VT t D) {i : Nat} (hi : i < t.length) : spAt t D = (i : Int) ↔ t[i]!.d = D ∧ t[i]!.pol = anyP := by
  unfold spAt
  constructor
  · intro h
    obtain ⟨j, hj, e, hf, -⟩ := idxP_some (t := t) (f := fun n => decide (n.d = D) && spec n) (by omega)
    obtain rfl : i = j := by omega
    rw [Bool.and_eq_true, decide_eq_true_eq] at hf
    unfold spec at hf
    rw [decide_eq_true_eq] at hf
    exact hf
  · rintro ⟨h1, h2⟩
    refine idxP_eq hi (by unfold spec; rw [h1, h2]; simp) fun j hj => ?_
    cases q : (decide (t[j]!.d = D) && spec t[j]!) with
    | false => rfl
    | true =>
      unfold spec at q
      rw [Bool.and_eq_true, decide_eq_true_eq, decide_eq_true_eq] at q
      have := V.one j i (by omega) hi (by omega) q.2 h2
      omega
theorem enter_more {t : List Nd} {D : Int} (V : VT t (D - 1)) (ps : List B) (sp : Bool) :
    insL t (moreK t D (setB ps) (sp && decide (anyP ∈ setB ps)) t.length) = insL t (renterX t D ps sp) := by
  have hx : ∀ n, n ∈ moreK t D (setB ps) (sp && decide (anyP ∈ setB ps)) t.length ↔ (n ∈ r1L t D (setB ps) ∨ (sp && decide (anyP ∈ setB ps)) = true ∧ ∃ i, i < t.length ∧ t[i]!.d = D - 1 ∧ ∃ p ∈ t[i]!.ex, n = newN D (i : Nat) p) := by
    intro n
    rw [moreK_mem, r1L_mem]
    have hdd : ∀ i, i < t.length → (¬ t[i]!.d < D - 1 ↔ t[i]!.d = D - 1) := fun i hi => by have := V.le i hi; omega
    constructor
    · rintro ⟨i, hi, hd, p, hp, rfl⟩
      rw [hdd i hi] at hd
      rcases childP_mem.1 hp with ⟨h1, h2⟩ | ⟨h1, h2⟩
      · obtain ⟨h3, h4 | ⟨h4, h5⟩⟩ := wantP_iff.1 h2
        · exact .inl ⟨p, h1, h3, r1P_mem.2 (.inl ⟨i, hi, hd, h4, rfl⟩)⟩
        · have := (V.spAt_iff hi).2 ⟨hd, h5⟩
          exact .inl ⟨p, h1, h3, r1P_mem.2 (.inr ⟨h4, by omega, by rw [this]⟩)⟩
      · exact .inr ⟨h1, i, hi, hd, p, h2, rfl⟩
    · rintro (⟨p, hp, hne, hn⟩ | ⟨h1, i, hi, hd, p, hp, rfl⟩)
      · rcases r1P_mem.1 hn with ⟨i, hi, hd, he, rfl⟩ | ⟨he, hs, rfl⟩
        · exact ⟨i, hi, (hdd i hi).2 hd, p, childP_mem.2 (.inl ⟨hp, wantP_iff.2 ⟨hne, .inl he⟩⟩), rfl⟩
        · obtain ⟨i, hi, e, -⟩ := idxP_some hs
          have e' : spAt t (D - 1) = (i : Int) := e
          have hh := (V.spAt_iff hi).1 e'
          exact ⟨i, hi, (hdd i hi).2 hh.1, p, childP_mem.2 (.inl ⟨hp, wantP_iff.2 ⟨hne, .inr ⟨he, hh.2⟩⟩⟩), by rw [e']⟩
      · exact ⟨i, hi, (hdd i hi).2 hd, p, childP_mem.2 (.inr ⟨h1, hp⟩), rfl⟩
  have h1 : R2 t D (fun n => n ∈ r1L t D (setB ps)) (r1L t D (setB ps)) := ⟨r1L_nodup t D _ (asc_nodup (setB_asc ps)), fun n hn => by
    obtain ⟨p, -, -, h⟩ := r1L_mem.1 hn
    obtain ⟨i, e⟩ := r1P_pol h
    exact ⟨_, _, e⟩, fun n => Iff.rfl⟩
  have hf : ∀ n ∈ moreK t D (setB ps) (sp && decide (anyP ∈ setB ps)) t.length, ∃ i p, n = newN D i p := by
    intro n hn
    obtain ⟨i, -, -, p, -, e⟩ := moreK_mem.1 hn
    exact ⟨_, _, e⟩
  unfold renterX
  cases hs : (sp && decide (anyP ∈ setB ps)) with
  | false =>
    rw [hs] at hx hf
    refine insL_perm (moreK_nodup _ _ _ _ _) h1.nd (fun n => ?_) hf
    rw [hx n]; simp
  | true =>
    rw [hs] at hx hf
    have h2 := R2.outer (fun k hk hd p => V.nokid k hk hd p) h1 t.length (Nat.le_refl _)
    refine insL_perm (moreK_nodup _ _ _ _ _) h2.nd (fun n => ?_) hf
    rw [hx n]
    simp only [if_true]
    rw [h2.mem n]; simp
theorem enter_eq (t : List Nd) (D : Int) (ps : List B) (sp : Bool) : renterP t D ps sp = enterP t D ps sp := by
  unfold renterP enterP
  cases h : (decide (D < 1) || !validB t (D - 1)) with
  | true => rfl
  | false =>
    rw [Bool.or_eq_false_iff, Bool.not_eq_false'] at h
    have V := (valid_iff t (D - 1)).1 h.2
    simp only [Bool.false_eq_true, if_false]
    rw [sort_ins V.srt, enter_more V ps sp, insL_length]
    have : (renterX t D ps sp).length = (moreK t D (setB ps) (sp && decide (anyP ∈ setB ps)) t.length).length := by
      have := congrArg List.length (enter_more V ps sp)
      rw [insL_length, insL_length] at this
      omega
    rw [this]
theorem list_ext! {α : Type} [Inhabited α] {l m : List α} (hl : l.length = m.length) (h : ∀ i, i < l.length → l[i]! = m[i]!) : l = m := by
  refine List.ext_getElem hl fun i h1 h2 => ?_
  have := h i h1
  rwa [getElem!_pos l i h1, getElem!_pos m i h2] at this
theorem VT.pge {t : List Nd} {D : Int} (V : VT t D) {i : Nat} (hi : i < t.length) : -1 ≤ t[i]!.p ∧ t[i]!.p < i := by
  by_cases h0 : i = 0
  · subst h0; have := (V.root hi).2.1; omega
  · have := V.par i (by omega) hi; omega
theorem VT.root0 {t : List Nd} {D : Int} (V : VT t D) {i : Nat} (hi : i < t.length) : t[i]!.p < 0 ↔ i = 0 := by
  constructor
  · intro h
    by_cases h0 : i = 0
    · exact h0
    · have := V.par i (by omega) hi; omega
  · rintro rfl
    have := (V.root hi).2.1; omega
theorem VT.pard {t : List Nd} {D : Int} (V : VT t D) {i : Nat} (hi : i < t.length) (h : 0 ≤ t[i]!.p) : t[i]!.p.toNat < i ∧ t[t[i]!.p.toNat]!.d = t[i]!.d - 1 := by
  have h0 : 0 < i := by
    rcases Nat.eq_zero_or_pos i with q | q
    · have := (V.root0 hi).2 q; omega
    · exact q
  have a := V.par i h0 hi
  have b := V.dd i h0 hi
  unfold pn at b
  omega
theorem mapP_at {t : List Nd} {β : Type} [Inhabited β] (f : Nd → β) {i : Nat} (hi : i < t.length) : (t.map f)[i]! = f t[i]! := by
  rw [getElem!_pos (t.map f) i (by simpa using hi), getElem!_pos t i hi, List.getElem_map]
/-- Map of the reference -/
def rmapC (t : List Nd) (D : Int) (l : List (B × B)) (i : Nat) : Bool := !(decide (t[i]!.d = D) && decide (t[i]!.pol ∈ srcL l))
def rnowN (l : List (B × B)) (D : Int) (n : Nd) : Nd := if decide (n.d = D) && decide (n.pol ∈ srcL l) then ⟨n.d, n.p, n.pol, subL l n.pol⟩ else n
def thereP (t : List Nd) (D : Int) (q : B) : Bool := t.any fun n => decide (n.d = D) && decide (n.pol = q)
def rmapX (t : List Nd) (D : Int) (l : List (B × B)) : List Nd := if spAt t D < 0 then [] else ((srcL l).filter fun q => !thereP t D q).map fun q => ⟨D, t[(spAt t D).toNat]!.p, q, subL l q⟩
def rmapP (t : List Nd) (D : Int) (l : List (B × B)) (ok : Bool) : List Nd × Int :=
  if decide (D < 1) || !validB t D then ([], 7) else
  if !ok then (pruneP (keepP t (dnM t (rmapC t D l) t.length)) D, 0) else
    if (insL (t.map (rnowN l D)) (rmapX t D l)).length > 2048 then ([], 2) else (pruneP (insL (t.map (rnowN l D)) (rmapX t D l)) D, 0)
section
variable {t : List Nd} {D : Int}
theorem map_now (V : VT t D) (l : List (B × B)) : t.map (nowN l D) = t.map (rnowN l D) := by
  apply List.map_congr_left
  intro n hn
  obtain ⟨i, hi, rfl⟩ := mem_at.1 hn
  have := V.le i hi
  unfold nowN rnowN
  by_cases h : t[i]!.d < D
  · rw [decide_eq_true h, decide_eq_false (show ¬ t[i]!.d = D by omega)]; simp
  · rw [decide_eq_false h, decide_eq_true (show t[i]!.d = D by omega)]; simp
theorem map_marks (V : VT t D) (l : List (B × B)) : dnM t (rmapC t D l) t.length = mapM t D l := by
  have hm : ∀ i, i < t.length → (dnM t (rmapC t D l) t.length)[i]! = rmapC t D l i := by
    intro i
    induction i using Nat.strongRecOn with
    | _ i ih =>
      intro hi
      have hp := V.pge hi
      rw [dnM_at t _ _ i hi hp.2]
      by_cases h : t[i]!.p < 0
      · rw [decide_eq_true h]; simp
      · obtain ⟨h1, h2⟩ := V.pard hi (by omega)
        rw [ih _ h1 (by omega)]
        have : rmapC t D l t[i]!.p.toNat = true := by
          unfold rmapC
          have := V.le i hi
          rw [decide_eq_false (by omega)]; rfl
        rw [this]; simp
  refine list_ext! (by rw [dnM_length]; unfold mapM; simp) fun i hi => ?_
  rw [dnM_length] at hi
  rw [hm i hi]
  unfold mapM rmapC
  rw [mapP_at _ hi]
  have := V.le i hi
  by_cases h : t[i]!.d < D
  · rw [decide_eq_true h, decide_eq_false (show ¬ t[i]!.d = D by omega)]; rfl
  · rw [decide_eq_false h, decide_eq_true (show t[i]!.d = D by omega)]; rfl
theorem lastS_eq (V : VT t D) : ∀ k, k ≤ t.length → lastS t D k = if 0 ≤ spAt t D ∧ spAt t D < k then t[(spAt t D).toNat]!.p else -1
  | 0, _ => by rw [if_neg (by omega)]; rfl
  | k + 1, hk => by
    unfold lastS
    have hi : k < t.length := by omega
    have hle := V.le k hi
    by_cases h : t[k]!.d = D ∧ t[k]!.pol = anyP
    · have e := (V.spAt_iff hi).2 h
      rw [if_pos (by unfold spec; simp [h, -List.getElem!_eq_getElem?_getD]), e, if_pos (by omega)]; simp
    · have e : spAt t D ≠ (k : Int) := fun e => h ((V.spAt_iff hi).1 e)
      rw [if_neg, lastS_eq V k (by omega)]
      · by_cases q : 0 ≤ spAt t D ∧ spAt t D < k
        · rw [if_pos q, if_pos (by omega)]
        · rw [if_neg q, if_neg (by omega)]
      · unfold spec
        intro q
        rw [Bool.and_eq_true, Bool.not_eq_true', decide_eq_false_iff_not, decide_eq_true_eq] at q
        exact h ⟨by omega, q.2⟩
theorem map_more (V : VT t D) (hD : 1 ≤ D) (l : List (B × B)) : mapMore t D l = rmapX t D l := by
  unfold mapMore rmapX
  have hth : ∀ q, foundP t D q = thereP t D q := by
    intro q
    unfold foundP thereP
    rw [Bool.eq_iff_iff, List.any_eq_true, List.any_eq_true]
    constructor <;> (rintro ⟨n, hn, h⟩; refine ⟨n, hn, ?_⟩; obtain ⟨i, hi, rfl⟩ := mem_at.1 hn; have := V.le i hi)
    · rw [Bool.and_eq_true, Bool.not_eq_true', decide_eq_false_iff_not, decide_eq_true_eq] at h
      rw [Bool.and_eq_true, decide_eq_true_eq, decide_eq_true_eq]
      exact ⟨by omega, h.2⟩
    · rw [Bool.and_eq_true, decide_eq_true_eq, decide_eq_true_eq] at h
      rw [Bool.and_eq_true, Bool.not_eq_true', decide_eq_false_iff_not, decide_eq_true_eq]
      exact ⟨by omega, h.2⟩
  rw [lastS_eq V _ (Nat.le_refl _)]
  by_cases hs : spAt t D < 0
  · rw [if_pos hs, if_neg (by omega)]
    simp
  · obtain ⟨k, hk, e, hf, -⟩ := idxP_some (t := t) (f := fun n => decide (n.d = D) && spec n) (show 0 ≤ spAt t D by omega)
    have e' : spAt t D = (k : Int) := e
    have hp : 0 ≤ t[k]!.p := by
      rcases Int.lt_or_le t[k]!.p 0 with q | q
      · have := (V.root0 hk).1 q
        subst this
        have := (V.root hk).1
        rw [Bool.and_eq_true, decide_eq_true_eq] at hf
        omega
      · exact q
    rw [if_neg hs, e', if_pos (by omega), show ((k : Int)).toNat = k from rfl, decide_eq_true (show t[k]!.p ≥ 0 from hp)]
    simp only [Bool.true_and, hth]
end
theorem map_eq (t : List Nd) (D : Int) (l : List (B × B)) (ok : Bool) : rmapP t D l ok = mapP t D l ok := by
  unfold rmapP mapP
  cases h : (decide (D < 1) || !validB t D) with
  | true => rfl
  | false =>
    rw [Bool.or_eq_false_iff, Bool.not_eq_false', decide_eq_false_iff_not] at h
    have V := (valid_iff t D).1 h.2
    simp only [Bool.false_eq_true, if_false]
    rw [map_marks V, map_more V (by omega) l, ← map_now V l]
    have hs : Srt ltT (t.map (nowN l D)) := by
      unfold Srt
      rw [List.pairwise_map]
      have e : ∀ n, (nowN l D n).d = n.d ∧ (nowN l D n).p = n.p ∧ (nowN l D n).pol = n.pol := by
        intro n; unfold nowN; split
        · exact ⟨rfl, rfl, rfl⟩
        · split <;> exact ⟨rfl, rfl, rfl⟩
      refine V.srt.imp ?_
      intro a b hab
      unfold ltT befI at hab ⊢
      rw [(e a).1, (e a).2.1, (e a).2.2, (e b).1, (e b).2.1, (e b).2.2]
      exact hab
    rw [sort_ins hs, insL_length, List.length_map]
/-- Policies of the reference -/
def rpolC (t : List Nd) (D : Int) (i : Nat) : Bool := decide (0 < i) && ((!spec t[i]! && spec (pn t t[i]!)) || (spec t[i]! && decide (t[i]!.d = D)))
def rpolK (t : List Nd) (D : Int) (k : Nat) : List B := ((List.range k).filter fun i => rpolC t D i).map fun i => t[i]!.pol
theorem rpolK_succ (t : List Nd) (D : Int) (k : Nat) : rpolK t D (k + 1) = rpolK t D k ++ if rpolC t D k then [t[k]!.pol] else [] := by
  unfold rpolK
  rw [List.range_succ, List.filter_append, List.map_append]
  cases h : rpolC t D k <;> simp [List.filter_cons, h, -List.getElem!_eq_getElem?_getD]
def rpolP (t : List Nd) (D : Int) : List B := if !validB t D then [] else setB (rpolK t D t.length)
theorem spec_iff {n : Nd} : spec n = true ↔ n.pol = anyP := by unfold spec; simp
theorem pol_eq (t : List Nd) (D : Int) : rpolP t D = polP t D := by
  unfold rpolP polP
  cases h : validB t D with
  | false => rfl
  | true =>
    have V := (valid_iff t D).1 h
    simp only [Bool.not_true, Bool.false_eq_true, if_false]
    unfold rpolK polK
    congr 2
    apply List.filter_congr
    intro i hi
    rw [List.mem_range] at hi
    unfold rpolC polC
    by_cases h0 : i = 0
    · subst h0
      have := (V.root hi).2.1
      rw [decide_eq_false (Nat.lt_irrefl 0), decide_eq_false (show ¬ t[0]!.p ≥ 0 by omega)]; rfl
    · have hp := (V.par i (by omega) hi).1
      rw [decide_eq_true (show 0 < i by omega), decide_eq_true (show t[i]!.p ≥ 0 from hp), Bool.true_and, Bool.true_and]
      cases hs : spec t[i]! with
      | false => simp [-List.getElem!_eq_getElem?_getD]
      | true =>
        have := (V.sp i (by omega) hi (spec_iff.1 hs)).1
        rw [spec_iff.2 this]; simp [-List.getElem!_eq_getElem?_getD]
/-- a tree that ends in nodes with a depth; their parents come before them -/
structure Bs (t : List Nd) (D : Int) (a : Nat) : Prop where
  le : a ≤ t.length
  lo : ∀ j, j < a → t[j]!.d < D
  hi : ∀ j, a ≤ j → j < t.length → t[j]!.d = D
  pa : ∀ j, j < t.length → -1 ≤ t[j]!.p ∧ t[j]!.p < a ∧ t[j]!.p < j
theorem VT.bs {t : List Nd} {D : Int} (V : VT t D) : ∃ a, Bs t D a := by
  have key : ∀ k, k ≤ t.length → ∃ a, a ≤ k ∧ (∀ j, j < a → t[j]!.d < D) ∧ (∀ j, a ≤ j → j < k → t[j]!.d = D) := by
    intro k
    induction k with
    | zero => intro _; exact ⟨0, Nat.le_refl _, fun j h => by omega, fun j h h' => by omega⟩
    | succ k ih =>
      intro hk
      obtain ⟨a, h1, h2, h3⟩ := ih (by omega)
      have hle := V.le k (by omega)
      by_cases h : t[k]!.d < D
      · have : a = k := by
          rcases Nat.lt_or_ge a k with q | q
          · have := h3 a (Nat.le_refl _) q
            have := V.mono (show a ≤ k by omega) (by omega)
            omega
          · omega
        subst this
        refine ⟨a + 1, Nat.le_refl _, fun j hj => ?_, fun j hj hj' => by omega⟩
        by_cases e : j = a
        · subst e; exact h
        · exact h2 j (by omega)
      · refine ⟨a, by omega, h2, fun j hj hj' => ?_⟩
        by_cases e : j = k
        · subst e; omega
        · exact h3 j hj (by omega)
  obtain ⟨a, h1, h2, h3⟩ := key t.length (Nat.le_refl _)
  refine ⟨a, h1, h2, h3, fun j hj => ?_⟩
  have hp := V.pge hj
  refine ⟨hp.1, ?_, hp.2⟩
  rcases Int.lt_or_le t[j]!.p 0 with q | q
  · omega
  · obtain ⟨q1, q2⟩ := V.pard hj q
    rcases Nat.lt_or_ge t[j]!.p.toNat a with q3 | q3
    · omega
    · have := h3 _ q3 (by omega)
      have := V.le j hj
      omega
theorem ins_lo {x : Nd} : ∀ (A L : List Nd), (∀ n ∈ A, ltT x n = false) → ins (lt := ltT) x (A ++ L) = A ++ ins (lt := ltT) x L
  | [], L, _ => rfl
  | y :: A, L, h => by
    rw [List.cons_append, ins, if_neg (by rw [h y (by simp)]; simp), ins_lo A L fun n hn => h n (by simp [hn])]; rfl
theorem getElem!_append_left' {α : Type} [Inhabited α] {A L : List α} {i : Nat} (h : i < A.length) : (A ++ L)[i]! = A[i]! := by
  rw [List.getElem!_eq_getElem?_getD, List.getElem!_eq_getElem?_getD, List.getElem?_append_left h]
theorem getElem!_append_right' {α : Type} [Inhabited α] {A L : List α} {i : Nat} (h : A.length ≤ i) : (A ++ L)[i]! = L[i - A.length]! := by
  rw [List.getElem!_eq_getElem?_getD, List.getElem!_eq_getElem?_getD, List.getElem?_append_right h]
theorem getElem!_take' {α : Type} [Inhabited α] {l : List α} {a i : Nat} (h : i < a) : (l.take a)[i]! = l[i]! := by
  rw [List.getElem!_eq_getElem?_getD, List.getElem!_eq_getElem?_getD, List.getElem?_take_of_lt h]
theorem Bs.ins {t : List Nd} {D : Int} {a : Nat} (h : Bs t D a) {x : Nd} (hx : x.d = D) (hp : -1 ≤ x.p ∧ x.p < a) :
    Bs (ins (lt := ltT) x t) D a ∧ ∀ j, j < a → (St.ins (lt := ltT) x t)[j]! = t[j]! := by
  have hla : (t.take a).length = a := by rw [List.length_take]; have := h.le; omega
  have e : St.ins (lt := ltT) x t = t.take a ++ St.ins (lt := ltT) x (t.drop a) := by
    conv => lhs; rw [← List.take_append_drop a t]
    apply ins_lo
    intro n hn
    obtain ⟨j, hj, rfl⟩ := mem_at.1 hn
    rw [hla] at hj
    rw [getElem!_take' hj]
    have := h.lo j hj
    rw [ltT_false]
    exact .inl (by omega)
  have hl : (St.ins (lt := ltT) x t).length = t.length + 1 := by
    have := insL_length t [x]; simpa [insL] using this
  have key : ∀ j, j < a → (St.ins (lt := ltT) x t)[j]! = t[j]! := fun j hj => by
    rw [e, getElem!_append_left' (by omega), getElem!_take' hj]
  have hi2 : ∀ j, a ≤ j → j < (St.ins (lt := ltT) x t).length → (St.ins (lt := ltT) x t)[j]!.d = D ∧ -1 ≤ (St.ins (lt := ltT) x t)[j]!.p ∧ (St.ins (lt := ltT) x t)[j]!.p < a := by
    intro j h1 h2
    rw [e, getElem!_append_right' (by omega), hla]
    have hm : (St.ins (lt := ltT) x (t.drop a))[j - a]! ∈ St.ins (lt := ltT) x (t.drop a) := mem_at.2 ⟨j - a, by
      rw [e, List.length_append, hla] at h2; omega, rfl⟩
    rcases (ins_mem _ _ _).1 hm with q | q
    · rw [q]; exact ⟨hx, hp⟩
    · obtain ⟨i, hi, e2⟩ := mem_at.1 q
      rw [List.length_drop] at hi
      have e3 : (t.drop a)[i]! = t[a + i]! := by rw [List.getElem!_eq_getElem?_getD, List.getElem!_eq_getElem?_getD, List.getElem?_drop]
      rw [← e2, e3]
      have := h.pa (a + i) (by omega)
      exact ⟨h.hi _ (by omega) (by omega), this.1, this.2.1⟩
  refine ⟨⟨by have := h.le; omega, fun j hj => by rw [key j hj]; exact h.lo j hj, fun j h1 h2 => (hi2 j h1 h2).1, fun j hj => ?_⟩, key⟩
  rcases Nat.lt_or_ge j a with q | q
  · rw [key j q]; exact h.pa j (by have := h.le; omega)
  · have := hi2 j q hj; exact ⟨this.2.1, this.2.2, by omega⟩
theorem Bs.insL {D : Int} {a : Nat} : ∀ (xs : List Nd) {t : List Nd}, Bs t D a → (∀ x ∈ xs, x.d = D ∧ -1 ≤ x.p ∧ x.p < a) → Bs (insL t xs) D a
  | [], t, h, _ => h
  | x :: xs, t, h, hx => by
    have h1 := (h.ins (hx x (by simp)).1 (hx x (by simp)).2).1
    exact Bs.insL xs h1 fun y hy => hx y (by simp [hy])
theorem Bs.sort {D : Int} {a : Nat} {t : List Nd} (h : Bs t D a) (hs : Srt ltT t) {xs : List Nd} (hx : ∀ x ∈ xs, x.d = D ∧ -1 ≤ x.p ∧ x.p < a) : Bs (sortT (t ++ xs)) D a := by
  rw [sort_ins hs]; exact Bs.insL xs h hx
theorem filter_ins (P : Nd → Bool) {x : Nd} (hx : P x = true) {l : List Nd} (hs : Srt ltT l) : (St.ins (lt := ltT) x l).filter P = St.ins (lt := ltT) x (l.filter P) := by
  have h1 := ins_srt ltT_ord x l hs
  have hs' : Srt ltT (l.filter P) := hs.sublist List.filter_sublist
  refine srt_unique ltT_ord _ _ (h1.sublist List.filter_sublist) (ins_srt ltT_ord x _ hs') ?_
  refine Stab.trans ?_ (ins_stab ltT_ord x _ hs')
  intro y
  have e := ins_stab ltT_ord x l hs y
  have e2 : l.filter P ++ [x] = (l ++ [x]).filter P := by rw [List.filter_append]; simp [hx]
  rw [e2, List.filter_filter, List.filter_filter]
  have c : ∀ m : List Nd, m.filter (fun a => eqv ltT y a && P a) = (m.filter (eqv ltT y)).filter P := fun m => by
    rw [List.filter_filter]; congr 1; funext a; rw [Bool.and_comm]
  rw [c, c, e]
theorem filter_insL (P : Nd → Bool) : ∀ (xs : List Nd) {l : List Nd}, (∀ x ∈ xs, P x = true) → Srt ltT l → (insL l xs).filter P = insL (l.filter P) xs
  | [], l, _, _ => rfl
  | x :: xs, l, hx, hs => by
    have e : insL l (x :: xs) = insL (St.ins (lt := ltT) x l) xs := rfl
    rw [e, filter_insL P xs (fun y hy => hx y (by simp [hy])) (ins_srt ltT_ord x l hs), filter_ins P (hx x (by simp)) hs]; rfl
/-- marks that take away deepest nodes alone change no index -/
theorem keep_deep {X : List Nd} {D : Int} {a : Nat} (h : Bs X D a) (P : Nd → Bool) (hP : ∀ n, n.d < D → P n = true) : keepP X (dnM X (fun i => P X[i]!) X.length) = X.filter P := by
  obtain ⟨m, hm⟩ : ∃ m, m = dnM X (fun i => P X[i]!) X.length := ⟨_, rfl⟩
  rw [← hm]
  have hmi : ∀ i, i < X.length → m[i]! = P X[i]! := by
    intro i
    induction i using Nat.strongRecOn with
    | _ i ih =>
      intro hi
      have hp := h.pa i hi
      rw [hm, dnM_at X _ _ i hi hp.2.2, ← hm]
      by_cases q : X[i]!.p < 0
      · rw [decide_eq_true q]; simp
      · rw [ih _ (by omega) (by omega), hP _ (h.lo X[i]!.p.toNat (by omega))]; simp
  have hrk : ∀ k, k ≤ a → rk m k = k := by
    intro k
    induction k with
    | zero => intro _; rfl
    | succ k ih =>
      intro hk
      rw [rk_succ, ih (by omega), hmi k (by have := h.le; omega), hP _ (h.lo k (by omega))]; rfl
  have hkp : ∀ i, i < X.length → kpN m X[i]! = X[i]! := by
    intro i hi
    have hp := h.pa i hi
    have e : (if X[i]!.p < 0 then X[i]!.p else if m[X[i]!.p.toNat]! then ((rk m X[i]!.p.toNat : Nat) : Int) else 0) = X[i]!.p := by
      split
      · rfl
      · rw [hmi _ (by omega), hP _ (h.lo X[i]!.p.toNat (by omega)), if_pos rfl, hrk _ (by omega)]; omega
    unfold kpN
    rw [e]
  have : ∀ k, k ≤ X.length → keepK X m k = (X.take k).filter P := by
    intro k
    induction k with
    | zero => intro _; rfl
    | succ k ih =>
      intro hk
      have e : X.take (k + 1) = X.take k ++ [X[k]!] := by rw [List.take_succ_eq_append_getElem (by omega), getElem!_pos X k (by omega)]
      rw [keepK_succ, ih (by omega), e, List.filter_append, hmi k (by omega), hkp k (by omega)]
      cases q : P X[k]! <;> simp [List.filter_cons, q, -List.getElem!_eq_getElem?_getD]
  have h1 := this X.length (Nat.le_refl _)
  rw [List.take_length] at h1
  exact h1
/-- Restrict of the reference -/
def rresC (t : List Nd) (ps : List B) (free : Bool) (i : Nat) : Bool := free || (decide (i = 0) || (!spec (pn t t[i]!) || (spec t[i]! || decide (t[i]!.pol ∈ ps))))
def rthere (out : List Nd) (q : B) (k : Nat) : Bool := (List.range k).any fun j => decide (0 < j) && (decide (out[j]!.pol = q) && spec (pn out out[j]!))
def rresX (out : List Nd) (D : Int) (ps : List B) : List Nd := ((setB ps).filter fun q => !rthere out q out.length).map (newN D out[(spAt out D).toNat]!.p)
def deepC (D : Int) (n : Nd) : Bool := !decide (n.d = D) || !spec n
def rresP (t : List Nd) (D : Int) (ps : List B) : List Nd × Int :=
  if !validB t D then ([], 7) else
    let free := ps.isEmpty || decide (anyP ∈ ps)
    let out := keepP t (dnM t (rresC t ps free) t.length)
    if free || decide (spAt out D < 1) then (pruneP out D, 0) else
      let X := insL out (rresX out D ps)
      let Y := keepP X (dnM X (fun i => deepC D X[i]!) X.length)
      if Y.length > 2048 then ([], 2) else (pruneP Y D, 0)
theorem keep_all {t : List Nd} {m : List Bool} (hp : ∀ i, i < t.length → -1 ≤ t[i]!.p ∧ t[i]!.p < i) (hm : ∀ i, i < t.length → m[i]! = true) : keepP t m = t := by
  have hr : ∀ k, k ≤ t.length → rk m k = k := by
    intro k
    induction k with
    | zero => intro _; rfl
    | succ k ih => intro hk; rw [rk_succ, ih (by omega), hm k (by omega)]; rfl
  refine list_ext! (by rw [keepP_length, hr _ (Nat.le_refl _)]) fun i hi => ?_
  rw [keepP_length, hr _ (Nat.le_refl _)] at hi
  have e := keepP_at t m hi (hm i hi)
  rw [hr i (by omega)] at e
  rw [e]
  have hpi := hp i hi
  have e2 : (if t[i]!.p < 0 then t[i]!.p else if m[t[i]!.p.toNat]! then ((rk m t[i]!.p.toNat : Nat) : Int) else 0) = t[i]!.p := by
    split
    · rfl
    · rw [hm _ (by omega), if_pos rfl, hr _ (by omega)]; omega
  unfold kpN
  rw [e2]
theorem keepP_congr {t : List Nd} {m m' : List Bool} (hp : ∀ i, i < t.length → t[i]!.p < i) (h : ∀ i, i < t.length → m[i]! = m'[i]!) : keepP t m = keepP t m' := by
  have key : ∀ k, k ≤ t.length → keepK t m k = keepK t m' k := by
    intro k
    induction k with
    | zero => intro _; rfl
    | succ k ih =>
      intro hk
      have e : kpN m t[k]! = kpN m' t[k]! := by
        unfold kpN
        have := hp k (by omega)
        by_cases q : t[k]!.p < 0
        · rw [if_pos q, if_pos q]
        · rw [if_neg q, if_neg q, h _ (by omega), rk_congr _ fun j hj => h j (by omega)]
      rw [keepK_succ, keepK_succ, ih (by omega), e, h k (by omega)]
  exact key _ (Nat.le_refl _)
section
variable {t : List Nd} {D : Int}
theorem VT.dn (V : VT t D) (c : Nat → Bool) {i : Nat} (hi : i < t.length) : (dnM t c t.length)[i]! = (c i && (decide (t[i]!.p < 0) || (dnM t c t.length)[t[i]!.p.toNat]!)) := dnM_at t c _ i hi (V.pge hi).2
def isX (D : Int) (n : Nd) : Bool := spec n && decide (n.d = D) && decide (D > 0)
theorem res_marks (V : VT t D) (ps : List B) : ∀ i, i < t.length → (resM t D ps)[i]! = ((dnM t (rresC t ps false) t.length)[i]! && !isX D t[i]!) := by
  intro i
  induction i using Nat.strongRecOn with
  | _ i ih =>
    intro hi
    unfold resM
    rw [V.dn _ hi, V.dn _ hi]
    have e : resC t D ps i = (rresC t ps false i && !isX D t[i]!) := by
      unfold resC rresC isX
      rw [show decide (t[i]!.p < 0) = decide (i = 0) by rw [Bool.eq_iff_iff, decide_eq_true_eq, decide_eq_true_eq]; exact V.root0 hi]
      simp [Bool.or_assoc, -List.getElem!_eq_getElem?_getD]
    rw [e]
    by_cases q : t[i]!.p < 0
    · rw [decide_eq_true q]; simp [-List.getElem!_eq_getElem?_getD]
    · obtain ⟨h1, h2⟩ := V.pard hi (by omega)
      have h3 := ih _ h1 (by omega)
      unfold resM at h3
      have hx : isX D t[t[i]!.p.toNat]! = false := by
        unfold isX
        have := V.le i hi
        rw [decide_eq_false (show ¬ t[t[i]!.p.toNat]!.d = D by omega)]; simp
      rw [h3, hx]
      cases rresC t ps false i <;> cases isX D t[i]! <;> simp [-List.getElem!_eq_getElem?_getD]
/-- special nodes stay -/
theorem res_spec (V : VT t D) (ps : List B) : ∀ i, i < t.length → t[i]!.pol = anyP → (dnM t (rresC t ps false) t.length)[i]! = true := by
  intro i
  induction i using Nat.strongRecOn with
  | _ i ih =>
    intro hi hs
    rw [V.dn _ hi]
    have e : rresC t ps false i = true := by unfold rresC; rw [spec_iff.2 hs]; simp
    rw [e]
    by_cases q : t[i]!.p < 0
    · rw [decide_eq_true q]; rfl
    · obtain ⟨h1, h2⟩ := V.pard hi (by omega)
      have h0 : 0 < i := by omega
      rw [ih _ h1 (by omega) (V.sp i h0 hi hs).1]; simp
theorem res_par (V : VT t D) (c : Nat → Bool) {i : Nat} (hi : i < t.length) (hm : (dnM t c t.length)[i]! = true) (hp : 0 ≤ t[i]!.p) : (dnM t c t.length)[t[i]!.p.toNat]! = true := by
  rw [V.dn _ hi, decide_eq_false (by omega)] at hm
  simp only [Bool.false_or, Bool.and_eq_true] at hm
  exact hm.2
/-- the deepest special node is what the two differ in -/
theorem res_filter (V : VT t D) (ps : List B) (hD : 0 < D) : keepP t (resM t D ps) = (keepP t (dnM t (rresC t ps false) t.length)).filter (deepC D) := by
  obtain ⟨m', hm'⟩ : ∃ m', m' = dnM t (rresC t ps false) t.length := ⟨_, rfl⟩
  have hm := res_marks V ps
  rw [← hm'] at hm ⊢
  generalize resM t D ps = m at *
  have key : ∀ k, k ≤ t.length → keepK t m k = (keepK t m' k).filter (deepC D) := by
    intro k
    induction k with
    | zero => intro _; rfl
    | succ k ih =>
      intro hk
      have hi : k < t.length := by omega
      have e : kpN m t[k]! = kpN m' t[k]! := by
        unfold kpN
        by_cases q : t[k]!.p < 0
        · rw [if_pos q, if_pos q]
        · obtain ⟨h1, h2⟩ := V.pard hi (by omega)
          have hx : ∀ j, j ≤ t[k]!.p.toNat → m[j]! = m'[j]! := by
            intro j hj
            have h3 := V.mono hj (by omega)
            have h4 := V.le k hi
            have : isX D t[j]! = false := by
              unfold isX
              rw [decide_eq_false (show ¬ t[j]!.d = D by omega)]; simp
            rw [hm j (by omega), this]; simp
          rw [if_neg q, if_neg q, hx _ (Nat.le_refl _), rk_congr _ fun j hj => hx j (by omega)]
      rw [keepK_succ, keepK_succ, List.filter_append, ih (by omega), e, hm k hi]
      congr 1
      have hd : deepC D (kpN m' t[k]!) = !isX D t[k]! := by
        unfold deepC isX
        rw [decide_eq_true (show D > 0 from hD)]
        unfold kpN spec
        cases decide (t[k]!.d = D) <;> cases decide (t[k]!.pol = anyP) <;> rfl
      cases h1 : m'[k]! with
      | false => simp
      | true =>
        cases h2 : isX D t[k]! with
        | false => rw [h2] at hd; simp [List.filter_cons, hd, -List.getElem!_eq_getElem?_getD]
        | true => rw [h2] at hd; simp [List.filter_cons, hd, -List.getElem!_eq_getElem?_getD]
  exact key _ (Nat.le_refl _)
theorem keep_mem {m : List Bool} {n : Nd} : n ∈ keepP t m ↔ ∃ i, i < t.length ∧ m[i]! = true ∧ n = kpN m t[i]! := by
  rw [mem_at]
  constructor
  · rintro ⟨j, hj, rfl⟩
    obtain ⟨i, h1, h2, h3, h4⟩ := keepP_from t m hj
    exact ⟨i, h1, h2, h4⟩
  · rintro ⟨i, h1, h2, rfl⟩
    exact ⟨rk m i, by rw [keepP_length]; exact rk_lt m h1 h2, keepP_at t m h1 h2⟩
/-- what is kept is a tree again, as to its parents -/
theorem keep_bs (V : VT t D) (c : Nat → Bool) : ∃ a, Bs (keepP t (dnM t c t.length)) D a := by
  obtain ⟨a, ha⟩ := V.bs
  obtain ⟨m, hm⟩ : ∃ m, m = dnM t c t.length := ⟨_, rfl⟩
  have hpar := fun i (hi : i < t.length) => res_par V c hi
  rw [← hm] at hpar ⊢
  have hrl : ∀ {i j}, rk m i < rk m j → i < j := fun {i j} h => by
    rcases Nat.lt_or_ge i j with q | q
    · exact q
    · have := rk_mono m q; omega
  refine ⟨rk m a, by rw [keepP_length]; exact rk_mono m ha.le, fun j hj => ?_, fun j hj hj' => ?_, fun j hj => ?_⟩
  · obtain ⟨i, h1, h2, h3, h4⟩ := keepP_from t m (j := j) (by rw [keepP_length]; have := rk_mono m ha.le; omega)
    rw [h4]
    exact ha.lo i (hrl (by omega))
  · obtain ⟨i, h1, h2, h3, h4⟩ := keepP_from t m hj'
    rw [h4]
    refine ha.hi i ?_ h1
    rcases Nat.lt_or_ge i a with q | q
    · have := rk_lt m q h2; omega
    · exact q
  · obtain ⟨i, h1, h2, h3, h4⟩ := keepP_from t m hj
    rw [h4]
    have hp := ha.pa i h1
    unfold kpN
    simp only
    by_cases q : t[i]!.p < 0
    · rw [if_pos q]; omega
    · have hm2 := hpar i h1 h2 (by omega)
      rw [if_neg q, if_pos hm2]
      have := rk_lt m (show t[i]!.p.toNat < a by omega) hm2
      have := rk_lt m (show t[i]!.p.toNat < i by omega) hm2
      omega
theorem keep_srt (V : VT t D) (c : Nat → Bool) : Srt ltT (keepP t (dnM t c t.length)) := by
  obtain ⟨m, hm⟩ : ∃ m, m = dnM t c t.length := ⟨_, rfl⟩
  have hpar := fun i (hi : i < t.length) => res_par V c hi
  rw [← hm] at hpar ⊢
  unfold Srt
  rw [List.pairwise_iff_getElem]
  intro j1 j2 h1 h2 h12
  rw [← getElem!_pos _ j1 h1, ← getElem!_pos _ j2 h2]
  obtain ⟨i1, a1, a2, a3, a4⟩ := keepP_from t m h1
  obtain ⟨i2, b1, b2, b3, b4⟩ := keepP_from t m h2
  rw [a4, b4]
  have hlt : i1 < i2 := by
    rcases Nat.lt_or_ge i1 i2 with q | q
    · exact q
    · have := rk_mono m q; omega
  have h := (ltT_iff _ _).1 (V.lt' i2 i1 hlt b1)
  rw [ltT_false]
  unfold kpN
  simp only
  rcases h with h | ⟨h, h' | ⟨h', h''⟩⟩
  · exact .inl h
  · refine .inr ⟨h.symm, .inl ?_⟩
    have p2 := (V.pge b1)
    by_cases q : t[i1]!.p < 0
    · rw [if_pos q]
      split
      · omega
      · split <;> omega
    · have q2 : ¬ t[i2]!.p < 0 := by omega
      rw [if_neg q, if_neg q2, if_pos (hpar i1 a1 a2 (by omega)), if_pos (hpar i2 b1 b2 (by omega))]
      have := rk_lt m (show t[i1]!.p.toNat < t[i2]!.p.toNat by omega) (hpar i1 a1 a2 (by omega))
      omega
  · refine .inr ⟨h.symm, .inr ⟨by rw [h'], fun e => ltB_irr _ (ltB_tr e h'')⟩⟩
theorem rk_inj (m : List Bool) {i j : Nat} (hi : m[i]! = true) (hj : m[j]! = true) (h : rk m i = rk m j) : i = j := by
  rcases Nat.lt_trichotomy i j with q | q | q
  · have := rk_lt m q hi; omega
  · exact q
  · have := rk_lt m q hj; omega
end
section
variable {t : List Nd} {D : Int}
theorem any_at {f : Nd → Bool} : t.any f = true ↔ ∃ i, i < t.length ∧ f t[i]! = true := by
  rw [List.any_eq_true]
  constructor
  · rintro ⟨n, hn, h⟩
    obtain ⟨i, hi, rfl⟩ := mem_at.1 hn
    exact ⟨i, hi, h⟩
  · rintro ⟨i, hi, h⟩
    exact ⟨_, mem_at.2 ⟨i, hi, rfl⟩, h⟩
theorem spAt_lt (t : List Nd) (D : Int) : spAt t D < t.length := by
  unfold spAt idxP
  split
  · rename_i h; omega
  · omega
/-- without a deepest special node behind the root -/
theorem res_none (V : VT t D) (ps : List B) (h : t.any (isX D) = false) : resP t D ps = rresP t D ps := by
  have hv := (valid_iff t D).2 V
  unfold resP rresP
  rw [hv]
  simp only [Bool.not_true, Bool.false_eq_true, if_false]
  by_cases hf : (ps.isEmpty || decide (anyP ∈ ps)) = true
  · rw [if_pos hf, hf, Bool.true_or, if_pos rfl]
    rw [keep_all (fun i hi => V.pge hi) fun i hi => ?_]
    induction i using Nat.strongRecOn with
    | _ i ih =>
      have hp := V.pge hi
      rw [V.dn _ hi]
      have : rresC t ps true i = true := rfl
      rw [this]
      by_cases q : t[i]!.p < 0
      · rw [decide_eq_true q]; rfl
      · rw [ih t[i]!.p.toNat (by omega) (by omega)]; simp
  · rw [if_neg hf]
    rw [show (ps.isEmpty || decide (anyP ∈ ps)) = false by simpa using hf, Bool.false_or]
    rw [if_neg (show ¬ _ from fun q => by rw [show t.any (fun n => spec n && decide (n.d = D) && decide (D > 0)) = t.any (isX D) from rfl, h] at q; cases q)]
    have hx : ∀ i, i < t.length → isX D t[i]! = false := fun i hi => by
      cases q : isX D t[i]! with
      | false => rfl
      | true => have := any_at.2 ⟨i, hi, q⟩; rw [h] at this; cases this
    have hk : keepP t (resM t D ps) = keepP t (dnM t (rresC t ps false) t.length) :=
      keepP_congr (fun i hi => (V.pge hi).2) fun i hi => by rw [res_marks V ps i hi, hx i hi]; simp
    rw [hk, if_pos]
    rw [decide_eq_true_eq]
    rcases Int.lt_or_le 0 D with q | q
    · have : spAt (keepP t (dnM t (rresC t ps false) t.length)) D = -1 := by
        refine idxP_no fun j hj => ?_
        obtain ⟨i, h1, h2, h3, h4⟩ := keepP_from t _ hj
        rw [h4]
        have := hx i h1
        unfold isX at this
        rw [decide_eq_true (show D > 0 from q), Bool.and_true, Bool.and_comm] at this
        exact this
      omega
    · have hl : t.length ≤ 1 := by
        rcases Nat.lt_or_ge 1 t.length with q1 | q1
        · have a := V.dd 1 (by omega) q1
          have b := V.le 1 q1
          have c := V.par 1 (by omega) q1
          have d := V.dlo t[1]!.p.toNat (by omega)
          unfold pn at a
          omega
        · exact q1
      have := spAt_lt (keepP t (dnM t (rresC t ps false) t.length)) D
      have e := keepP_length t (dnM t (rresC t ps false) t.length)
      have := rk_le (dnM t (rresC t ps false) t.length) t.length
      omega
theorem res_some (V : VT t D) (ps : List B) (h : t.any (isX D) = true) : resP t D ps = rresP t D ps := by
  have hv := (valid_iff t D).2 V
  obtain ⟨s, hs, hsx⟩ := any_at.1 h
  unfold isX at hsx
  rw [Bool.and_eq_true, Bool.and_eq_true, decide_eq_true_eq, decide_eq_true_eq, spec_iff] at hsx
  obtain ⟨⟨hs1, hs2⟩, hD⟩ := hsx
  have hs0 : 0 < s := by
    rcases Nat.eq_zero_or_pos s with q | q
    · subst q; have := (V.root hs).1; omega
    · exact q
  unfold resP rresP
  rw [hv]
  simp only [Bool.not_true, Bool.false_eq_true, if_false]
  by_cases hf : (ps.isEmpty || decide (anyP ∈ ps)) = true
  · rw [if_pos hf, hf, Bool.true_or, if_pos rfl]
    rw [keep_all (fun i hi => V.pge hi) fun i hi => ?_]
    induction i using Nat.strongRecOn with
    | _ i ih =>
      have hp := V.pge hi
      rw [V.dn _ hi]
      have : rresC t ps true i = true := rfl
      rw [this]
      by_cases q : t[i]!.p < 0
      · rw [decide_eq_true q]; rfl
      · rw [ih t[i]!.p.toNat (by omega) (by omega)]; simp
  · rw [if_neg hf]
    have hf' : (ps.isEmpty || decide (anyP ∈ ps)) = false := by simpa using hf
    rw [hf', Bool.false_or]
    rw [if_pos (show t.any (fun n => spec n && decide (n.d = D) && decide (D > 0)) = true from h)]
    rw [Bool.or_eq_false_iff, decide_eq_false_iff_not] at hf'
    have hany := hf'.2
    obtain ⟨m, hm⟩ : ∃ m, m = resM t D ps := ⟨_, rfl⟩
    obtain ⟨m', hm'⟩ : ∃ m', m' = dnM t (rresC t ps false) t.length := ⟨_, rfl⟩
    have hmm := res_marks V ps
    have hflt := res_filter V ps hD
    obtain ⟨a, hbs⟩ := keep_bs V (rresC t ps false)
    have hsrt := keep_srt V (rresC t ps false)
    have hspec := res_spec V ps
    have hpar := fun i (hi : i < t.length) => res_par V (rresC t ps false) hi
    rw [← hm, ← hm'] at hmm hflt
    rw [← hm'] at hbs hsrt hspec hpar
    rw [← hm, ← hm']
    -- the special node's place
    have hm's := hspec s hs hs1
    have h0 : m'[0]! = true := hspec 0 (by omega) (V.root (by omega)).2.2.1
    have hrs : 0 < rk m' s := by have := rk_lt m' hs0 h0; omega
    have hsl : rk m' s < (keepP t m').length := by rw [keepP_length]; exact rk_lt m' hs hm's
    have hsp : spAt (keepP t m') D = (rk m' s : Nat) := by
      refine idxP_eq hsl ?_ fun j hj => ?_
      · rw [keepP_at t m' hs hm's]
        unfold kpN spec
        simp [hs1, hs2, -List.getElem!_eq_getElem?_getD]
      · obtain ⟨i, h1, h2, h3, h4⟩ := keepP_from t m' (j := j) (by omega)
        rw [h4]
        cases q : (decide ((kpN m' t[i]!).d = D) && spec (kpN m' t[i]!)) with
        | false => rfl
        | true =>
          rw [Bool.and_eq_true, decide_eq_true_eq, spec_iff] at q
          have := V.one i s h1 hs (q.1.trans hs2.symm) q.2 hs1
          subst this
          omega
    rw [hsp, if_neg (show ¬ decide (((rk m' s : Nat) : Int) < 1) = true by rw [decide_eq_true_eq]; omega)]
    -- the parent
    have hps := V.par s hs0 hs
    have hpd := V.dd s hs0 hs
    have hpp := (V.sp s hs0 hs hs1).1
    obtain ⟨p, hp⟩ : ∃ p : Nat, t[s]!.p = (p : Int) := ⟨t[s]!.p.toNat, by omega⟩
    unfold pn at hpd hpp
    rw [hp] at hps hpd hpp
    have hpt : ((p : Int)).toNat = p := rfl
    rw [hpt] at hpd hpp
    have hplt : p < s := by omega
    have hmp' := hspec p (by omega) hpp
    have hlow : ∀ j, j ≤ p → m[j]! = m'[j]! := by
      intro j hj
      have h3 := V.mono hj (by omega)
      have : isX D t[j]! = false := by
        unfold isX
        rw [decide_eq_false (show ¬ t[j]!.d = D by omega)]; simp
      rw [hmm j (by omega), this]; simp
    have hmp : m[p]! = true := (hlow p (Nat.le_refl _)).trans hmp'
    have hrkp : rk m p = rk m' p := rk_congr _ fun j hj => hlow j (by omega)
    have hkps : (kpN m' t[s]!).p = (rk m' p : Nat) := by
      unfold kpN
      rw [hp, if_neg (by omega), hpt, if_pos hmp']
    have hix : idxP (keepP t m) (fun n => spec n && decide (n.d = D - 1)) = (rk m' p : Nat) := by
      rw [← hrkp]
      refine idxP_eq (by rw [keepP_length]; exact rk_lt m (by omega) hmp) ?_ fun j hj => ?_
      · rw [keepP_at t m (by omega) hmp]
        unfold kpN spec
        have : t[p]!.d = D - 1 := by omega
        simp [hpp, this, -List.getElem!_eq_getElem?_getD]
      · obtain ⟨i, h1, h2, h3, h4⟩ := keepP_from t m (j := j) (by rw [keepP_length]; have := rk_lt m (show p < t.length by omega) hmp; omega)
        rw [h4]
        cases q : (spec (kpN m t[i]!) && decide ((kpN m t[i]!).d = D - 1)) with
        | false => rfl
        | true =>
          rw [Bool.and_eq_true, decide_eq_true_eq, spec_iff] at q
          have hd : t[i]!.d = D - 1 := q.2
          have := V.one i p h1 (by omega) (by omega) q.1 hpp
          subst this
          omega
    -- the policies
    have hhave : ∀ q, q ∈ setB ps → haveK t D ps q t.length = rthere (keepP t m') q (keepP t m').length := by
      intro q hq
      rw [setB_mem] at hq
      have hqa : q ≠ anyP := fun e => hany (e ▸ hq)
      unfold haveK rthere
      rw [show dnM t (resC t D ps) t.length = m from hm.symm]
      rw [Bool.eq_iff_iff, List.any_eq_true, List.any_eq_true]
      constructor
      · rintro ⟨i, hi, hh⟩
        rw [List.mem_range] at hi
        simp only [Bool.and_eq_true, decide_eq_true_eq, Bool.not_eq_true'] at hh
        obtain ⟨h1, h2, h3, h4, h5, h6⟩ := hh
        have hm'i : m'[i]! = true := by
          rw [hmm i hi, Bool.and_eq_true] at h1; exact h1.1
        have hmpi := hpar i hi hm'i h2
        have hpl := V.pge hi
        refine ⟨rk m' i, List.mem_range.2 (by rw [keepP_length]; exact rk_lt m' hi hm'i), ?_⟩
        rw [keepP_at t m' hi hm'i]
        have e1 : (kpN m' t[i]!).pol = q := h6
        have e2 : (kpN m' t[i]!).p = (rk m' t[i]!.p.toNat : Nat) := by unfold kpN; rw [if_neg (by omega), if_pos hmpi]
        have e3 : pn (keepP t m') (kpN m' t[i]!) = kpN m' t[t[i]!.p.toNat]! := by
          unfold pn
          rw [e2, show ((rk m' t[i]!.p.toNat : Nat) : Int).toNat = rk m' t[i]!.p.toNat from rfl]
          exact keepP_at t m' (by omega) hmpi
        rw [e1, e3]
        have hi0 : 0 < i := by
          rcases Nat.eq_zero_or_pos i with q | q
          · subst q; have := (V.root hi).2.1; omega
          · exact q
        have : 0 < rk m' i := by have := rk_lt m' hi0 h0; omega
        rw [decide_eq_true this, decide_eq_true rfl]
        have h3' : spec t[t[i]!.p.toNat]! = true := h3
        exact h3'
      · rintro ⟨j, hj, hh⟩
        rw [List.mem_range] at hj
        simp only [Bool.and_eq_true, decide_eq_true_eq] at hh
        obtain ⟨h1, h2, h3⟩ := hh
        obtain ⟨i, b1, b2, b3, b4⟩ := keepP_from t m' hj
        rw [b4] at h2 h3
        have h2' : t[i]!.pol = q := h2
        have hi0 : 0 < i := by
          rcases Nat.eq_zero_or_pos i with q | q
          · subst q; rw [rk_zero] at b3; omega
          · exact q
        have hpi := V.par i hi0 b1
        have hmpi := hpar i b1 b2 hpi.1
        have e2 : (kpN m' t[i]!).p = (rk m' t[i]!.p.toNat : Nat) := by unfold kpN; rw [if_neg (by omega), if_pos hmpi]
        have e3 : pn (keepP t m') (kpN m' t[i]!) = kpN m' t[t[i]!.p.toNat]! := by
          unfold pn
          rw [e2, show ((rk m' t[i]!.p.toNat : Nat) : Int).toNat = rk m' t[i]!.p.toNat from rfl]
          exact keepP_at t m' (by omega) hmpi
        rw [e3] at h3
        have h3' : spec (pn t t[i]!) = true := h3
        have hns : spec t[i]! = false := by
          cases q2 : spec t[i]! with
          | false => rfl
          | true => exact absurd (h2'.symm.trans (spec_iff.1 q2)) hqa
        have hmi : m[i]! = true := by
          rw [hmm i b1, b2]; unfold isX; rw [hns]; rfl
        refine ⟨i, List.mem_range.2 b1, ?_⟩
        rw [hmi, h3', hns, decide_eq_true (show t[i]!.p ≥ 0 from hpi.1), h2', decide_eq_true hq, decide_eq_true rfl]; rfl
    have hmore : resMore t (keepP t m) D ps = rresX (keepP t m') D ps := by
      unfold resMore rresX
      rw [hix, hsp, show ((rk m' s : Nat) : Int).toNat = rk m' s from rfl, keepP_at t m' hs hm's, hkps]
      congr 1
      exact List.filter_congr fun q hq => by rw [hhave q hq]
    -- the nodes
    have hX : ∀ x ∈ rresX (keepP t m') D ps, x.d = D ∧ (-1 ≤ x.p ∧ x.p < a) ∧ deepC D x = true := by
      intro x hx
      unfold rresX at hx
      obtain ⟨q, hq, rfl⟩ := List.mem_map.1 hx
      have hq1 := (setB_mem.1 (List.mem_filter.1 hq).1)
      refine ⟨rfl, ?_, ?_⟩
      · have := hbs.pa (rk m' s) hsl
        rw [hsp, show ((rk m' s : Nat) : Int).toNat = rk m' s from rfl]
        exact ⟨this.1, this.2.1⟩
      · unfold deepC newN
        have : spec (⟨D, (keepP t m')[(spAt (keepP t m') D).toNat]!.p, q, [q]⟩ : Nd) = false := by
          unfold spec
          exact decide_eq_false fun e => hany (e ▸ hq1)
        rw [this]; simp
    have hbX := Bs.insL (rresX (keepP t m') D ps) hbs fun x hx => ⟨(hX x hx).1, (hX x hx).2.1⟩
    have hY := keep_deep hbX (deepC D) fun n hn => by unfold deepC; rw [decide_eq_false (by omega)]; rfl
    rw [hmore, hY, filter_insL (deepC D) _ (fun x hx => (hX x hx).2.2) hsrt, ← hflt]
    have hs' : Srt ltT (keepP t m) := by rw [hflt]; exact hsrt.sublist List.filter_sublist
    rw [sort_ins hs', insL_length]
end
theorem res_eq (t : List Nd) (D : Int) (ps : List B) : rresP t D ps = resP t D ps := by
  cases hv : validB t D with
  | false => unfold rresP resP; rw [hv]; rfl
  | true =>
    have V := (valid_iff t D).1 hv
    cases h : t.any (isX D) with
    | false => exact (res_none V ps h).symm
    | true => exact (res_some V ps h).symm
/-- ref.TreeValid -/
def rbadA (t : List Nd) (i : Nat) (D : Int) : Bool :=
  decide (t[i]!.p < 0) || (decide (t[i]!.p ≥ (i : Int)) || ((t[i]!.d != IntKind.i64.wrap ((pn t t[i]!).d + 1)) || (decide (t[i]!.d > D) || !ascB t[i]!.ex)))
def rbadB (t : List Nd) (i : Nat) : Bool :=
  (spec t[i]! && (!spec (pn t t[i]!) || decide (t[i]!.ex.length ≠ 1))) || (spec t[i]! != decide (anyP ∈ t[i]!.ex))
def rbadC (t : List Nd) (i : Nat) : Bool :=
  decide (i > 1) && (decide (t[i]!.d < t[i - 1]!.d) || (decide (t[i]!.d = t[i - 1]!.d) && (decide (t[i]!.p < t[i - 1]!.p) || (decide (t[i]!.p = t[i - 1]!.p) && !decide (t[i - 1]!.pol < t[i]!.pol)))))
def rvalidP (t : List Nd) (D : Int) : Bool :=
  !(decide (D < 0) || decide (t.length > 2048)) && (decide (t.length = 0) || (fit0 t[0]! && ((List.range t.length).all (fun i => decide (i = 0) || !(rbadA t i D || (rbadB t i || rbadC t i))) &&
    (List.range t.length).all (fun i => !(decide (t[i]!.d < D) && decide ((List.range t.length).countP (fun j => decide (0 < j) && decide (t[j]!.p = (i : Int))) = 0))))))
theorem only_iff {l : List B} (ha : ascB l = true) : (l.length = 1 ∧ anyP ∈ l) ↔ l = [anyP] := by
  constructor
  · rintro ⟨h1, h2⟩
    obtain ⟨x, rfl⟩ := List.length_eq_one_iff.1 h1
    rw [List.mem_singleton] at h2
    rw [h2]
  · rintro rfl; simp
theorem rfit_iff {t : List Nd} {D : Int} {i : Nat} (hi : 0 < i) (hC : i = 1 → t[0]!.d < t[1]!.d) : (rbadA t i D || (rbadB t i || rbadC t i)) = false ↔ fitB t i D = true := by
  rw [fitB_iff t i hi D]
  have hlt : ltT t[i - 1]! t[i]! = true ↔ rbadC t i = false := by
    unfold rbadC
    by_cases h1 : i > 1
    · rw [decide_eq_true h1, Bool.true_and, ltT_iff]
      simp only [Bool.or_eq_false_iff, Bool.and_eq_false_iff, decide_eq_false_iff_not, Bool.not_eq_false', decide_eq_true_eq]
      constructor
      · rintro (h | ⟨h, h' | ⟨h', h''⟩⟩)
        · exact ⟨by omega, .inl (by omega)⟩
        · exact ⟨by omega, .inr ⟨by omega, .inl (by omega)⟩⟩
        · exact ⟨by omega, .inr ⟨by omega, .inr h''⟩⟩
      · rintro ⟨h, h' | ⟨h', h''⟩⟩
        · exact .inl (by omega)
        · by_cases e : t[i - 1]!.d = t[i]!.d
          · refine .inr ⟨e, ?_⟩
            rcases h'' with q | q
            · exact .inl (by omega)
            · by_cases e2 : t[i - 1]!.p = t[i]!.p
              · exact .inr ⟨e2, q⟩
              · exact .inl (by omega)
          · exact .inl (by omega)
    · obtain rfl : i = 1 := by omega
      rw [decide_eq_false h1, Bool.false_and]
      refine ⟨fun _ => rfl, fun _ => ?_⟩
      rw [ltT_iff]
      exact .inl (hC rfl)
  rw [hlt]
  have hA : rbadA t i D = false ↔ 0 ≤ t[i]!.p ∧ t[i]!.p < i ∧ t[i]!.d = IntKind.i64.wrap ((pn t t[i]!).d + 1) ∧ t[i]!.d ≤ D ∧ ascB t[i]!.ex = true := by
    unfold rbadA
    generalize t[i]! = x
    simp
  rw [Bool.or_eq_false_iff, Bool.or_eq_false_iff, hA]
  have hB : ascB t[i]!.ex = true → (rbadB t i = false ↔ (t[i]!.pol = anyP → (pn t t[i]!).pol = anyP ∧ t[i]!.ex = [anyP]) ∧ (t[i]!.pol ≠ anyP → anyP ∉ t[i]!.ex)) := by
    intro ha
    have := only_iff ha
    unfold rbadB spec
    generalize t[i]! = x at *
    generalize pn t x = q at *
    by_cases h : x.pol = anyP
    · by_cases h2 : q.pol = anyP
      · by_cases h3 : anyP ∈ x.ex
        · by_cases h4 : x.ex.length = 1
          · have h5 := this.1 ⟨h4, h3⟩
            simp [h, h2, h5]
          · have h5 : x.ex ≠ [anyP] := fun e => h4 (this.2 e).1
            simp [h, h2, h3, h4, h5]
        · have h5 : x.ex ≠ [anyP] := fun e => h3 (this.2 e).2
          simp [h, h2, h3, h5]
      · simp [h, h2]
    · simp [h]
  constructor
  · rintro ⟨⟨a, b, c, d, e⟩, f, g⟩
    have := (hB e).1 f
    exact ⟨a, b, c, d, g, e, this.1, this.2⟩
  · rintro ⟨a, b, c, d, g, e, f1, f2⟩
    exact ⟨⟨a, b, c, d, e⟩, (hB e).2 ⟨f1, f2⟩, g⟩
theorem rvalid_eq (t : List Nd) (D : Int) : rvalidP t D = validB t D := by
  unfold rvalidP validB
  cases h1 : (decide (D < 0) || decide (t.length > 2048)) with
  | true => rfl
  | false =>
    rw [Bool.not_false, Bool.true_and, Bool.true_and]
    by_cases h0 : t.length = 0
    · rw [decide_eq_true h0, h0]; rfl
    · rw [decide_eq_false h0, Bool.false_or]
      have hl : t.length ≤ 2048 := by
        rw [Bool.or_eq_false_iff, decide_eq_false_iff_not, decide_eq_false_iff_not] at h1; omega
      have hf0 : fitB t 0 D = fit0 t[0]! := by unfold fitB; rw [if_pos rfl]
      cases hr : fit0 t[0]! with
      | false =>
        rw [Bool.false_and]
        symm
        rw [Bool.and_eq_false_iff]
        left
        rw [List.all_eq_false]
        exact ⟨0, List.mem_range.2 (by omega), by rw [hf0, hr]; simp⟩
      | true =>
        rw [Bool.true_and]
        have hd0 := ((fit0_iff _).1 hr).1
        have hp0 := ((fit0_iff _).1 hr).2.1
        have hC : ∀ i, i < t.length → 0 < i → (rbadA t i D = false ∨ fitB t i D = true) → i = 1 → t[0]!.d < t[1]!.d := by
          intro i hi h2 h3 h4
          subst h4
          have : 0 ≤ t[1]!.p ∧ t[1]!.p < 1 ∧ t[1]!.d = IntKind.i64.wrap ((pn t t[1]!).d + 1) := by
            rcases h3 with h3 | h3
            · unfold rbadA at h3
              generalize t[1]! = x at *
              simp [-List.getElem!_eq_getElem?_getD] at h3
              exact ⟨h3.1, by omega, h3.2.2.1⟩
            · have := (fitB_iff t 1 (by omega) D).1 h3
              exact ⟨this.1, by have := this.2.1; omega, this.2.2.1⟩
          obtain ⟨a, b, c⟩ := this
          unfold pn at c
          rw [show t[1]!.p.toNat = 0 by omega, hd0, wrap_small (by omega) (by omega)] at c
          omega
        have e1 : ∀ i, i < t.length → (decide (i = 0) || !(rbadA t i D || (rbadB t i || rbadC t i))) = fitB t i D := by
          intro i hi
          by_cases q : i = 0
          · subst q; rw [hf0, hr]; rfl
          · rw [decide_eq_false q, Bool.false_or]
            cases hb : rbadA t i D with
            | true =>
              cases hfb : fitB t i D with
              | false => rfl
              | true =>
                have := (fitB_iff t i (by omega) D).1 hfb
                have : rbadA t i D = false := by
                  unfold rbadA
                  obtain ⟨a, b, c, d, e, f, -⟩ := this
                  generalize t[i]! = x at *
                  simp [a, b, ← c, d, f, -List.getElem!_eq_getElem?_getD]
                rw [hb] at this; cases this
            | false =>
              have hh := rfit_iff (t := t) (D := D) (i := i) (by omega) (hC i hi (by omega) (.inl hb))
              rw [hb] at hh
              cases hfb : fitB t i D with
              | false =>
                have : ¬ (false || (rbadB t i || rbadC t i)) = false := fun e => by rw [hh.1 e] at hfb; cases hfb
                simpa using this
              | true => rw [hh.2 hfb]; rfl
        have e2 : (List.range t.length).all (fun i => decide (i = 0) || !(rbadA t i D || (rbadB t i || rbadC t i))) = (List.range t.length).all (fun i => fitB t i D) := by
          rw [Bool.eq_iff_iff, List.all_eq_true, List.all_eq_true]
          constructor <;> (intro h i hi; have := h i hi; have e := e1 i (List.mem_range.1 hi))
          · rw [← e]; exact this
          · rw [e]; exact this
        have e3 : (List.range t.length).all (fun i => !(decide (t[i]!.d < D) && decide ((List.range t.length).countP (fun j => decide (0 < j) && decide (t[j]!.p = (i : Int))) = 0))) = (List.range t.length).all (fun i => !(decide (t[i]!.d < D)) || t.any (fun n => decide (n.p = (i : Int)))) := by
          rw [Bool.eq_iff_iff, List.all_eq_true, List.all_eq_true]
          have key : ∀ i : Nat, (decide ((List.range t.length).countP (fun j => decide (0 < j) && decide (t[j]!.p = (i : Int))) = 0)) = !t.any (fun n => decide (n.p = (i : Int))) := by
            intro i
            rw [Bool.eq_iff_iff, decide_eq_true_eq, List.countP_eq_zero, Bool.not_eq_true']
            constructor
            · intro h
              cases q : t.any (fun n => decide (n.p = (i : Int))) with
              | false => rfl
              | true =>
                obtain ⟨j, hj, hq⟩ := any_at.1 q
                rw [decide_eq_true_eq] at hq
                have := h j (List.mem_range.2 hj)
                rw [Bool.and_eq_true, decide_eq_true_eq, decide_eq_true_eq] at this
                exfalso
                apply this
                refine ⟨?_, hq⟩
                rcases Nat.eq_zero_or_pos j with q | q
                · subst q; omega
                · exact q
            · intro h j hj hh
              rw [List.mem_range] at hj
              rw [Bool.and_eq_true, decide_eq_true_eq, decide_eq_true_eq] at hh
              have := any_at (f := fun n => decide (n.p = (i : Int))).2 ⟨j, hj, decide_eq_true hh.2⟩
              rw [h] at this; cases this
          constructor <;> (intro h i hi; have := h i hi; rw [key] at *)
          · simpa [Bool.and_eq_false_iff, -List.getElem!_eq_getElem?_getD] using this
          · simpa [Bool.and_eq_false_iff, -List.getElem!_eq_getElem?_getD] using this
        rw [e2, e3]
end Go.Proofs.Ytmagjdocondmhaa.Tr
