/-
  Trees in plain Lean: how many nodes a tree of a few certificates has.
-/
import Derived.Test.YtmagjdocondmhaaTrStayV
namespace Go.Proofs.Ytmagjdocondmhaa.Tr
open Go Go.RowKit Go.Proofs.Ytmagjdocondmhaa.St
set_option linter.unusedVariables false
set_option linter.unusedSimpArgs false

theorem nodup_len {α : Type} [BEq α] [LawfulBEq α] : ∀ (l m : List α), l.Nodup → (∀ x ∈ l, x ∈ m) → l.length ≤ m.length
  | [], m, _, _ => by simp
  | a :: l, m, h, hs => by
    rw [List.nodup_cons] at h
    have h1 := nodup_len l (m.erase a) h.2 fun x hx => (List.mem_erase_of_ne (by rintro rfl; exact h.1 hx)).2 (hs x (by simp [hx]))
    have h2 := List.length_erase_of_mem (hs a (by simp))
    have h3 := List.length_pos_of_mem (hs a (by simp))
    rw [List.length_cons]; omega
theorem cons_at (a : Nd) (l : List Nd) (i : Nat) : (a :: l)[i + 1]! = l[i]! := by
  rw [List.getElem!_eq_getElem?_getD, List.getElem!_eq_getElem?_getD, List.getElem?_cons_succ]
theorem count_one (f : Nd → Bool) : ∀ (l : List Nd), (∀ i j, i < l.length → j < l.length → f l[i]! = true → f l[j]! = true → i = j) → l.countP f ≤ 1
  | [], _ => by simp
  | a :: l, h => by
    rw [List.countP_cons]
    by_cases ha : f a = true
    · rw [if_pos ha]
      have : l.countP f = 0 := by
        rw [List.countP_eq_zero]
        intro x hx hf
        obtain ⟨i, hi, rfl⟩ := mem_at.1 hx
        have := h 0 (i + 1) (by simp) (by simp; omega) (by simpa using ha) (by rw [cons_at]; exact hf)
        omega
      omega
    · rw [if_neg ha]
      have := count_one f l fun i j hi hj h1 h2 => by
        have := h (i + 1) (j + 1) (by simp; omega) (by simp; omega) (by rw [cons_at]; exact h1) (by rw [cons_at]; exact h2)
        omega
      omega
theorem keep_count (t : List Nd) (m : List Bool) (f : Nd → Bool) (hf : ∀ n, f (kpN m n) = f n) : (keepP t m).countP f ≤ t.countP f := by
  have key : ∀ k, k ≤ t.length → (keepK t m k).countP f ≤ (t.take k).countP f := by
    intro k
    induction k with
    | zero => intro _; rw [keepK_zero]; simp
    | succ k ih =>
      intro hk
      have := ih (by omega)
      rw [keepK_succ, List.countP_append, List.take_succ_eq_append_getElem (by omega), List.countP_append]
      rw [getElem!_pos t k (by omega)]
      split
      · simp only [List.countP_singleton, hf]; omega
      · simp; omega
  have := key t.length (Nat.le_refl _)
  rwa [List.take_length] at this
theorem keep_len (t : List Nd) (m : List Bool) : (keepP t m).length ≤ t.length := by rw [keepP_length]; exact rk_le _ _
theorem sort_perm (l : List Nd) : (sortT l).Perm l := by
  have := insL_perm' l []
  rwa [List.nil_append] at this
section
variable {t : List Nd} {D : Int}
/-- the nodes at a depth -/
abbrev cntD (t : List Nd) (D : Int) : Nat := t.countP fun n => decide (n.d = D)
theorem child_len (V : VT t D) (h : ∀ n ∈ t, n.d = D → n.ex.length ≤ 3) {i : Nat} (hi : i < t.length) (hd : t[i]!.d = D) {ps : List B} (hp : ps.length ≤ 3) (all : Bool) : (childP t (D + 1) t[i]! ps all).length ≤ 3 + if spec t[i]! then 1 else 0 := by
  by_cases hs : spec t[i]! = true
  · rw [if_pos hs]
    have he : t[i]!.ex.length = 1 := by
      rcases Nat.eq_zero_or_pos i with q | q
      · subst q; rw [(V.root hi).2.2.2]; rfl
      · rw [(V.sp i q hi (spec_iff.1 hs)).2]; rfl
    unfold childP
    refine Nat.le_trans (setB_length _) ?_
    rw [List.length_append]
    have := List.length_filter_le (wantP t (D + 1) t[i]!) ps
    cases all
    · rw [if_neg (by simp)]; simp only [List.length_nil]; omega
    · rw [if_pos rfl]; omega
  · rw [if_neg hs]
    have := h _ (mem_at.2 ⟨i, hi, rfl⟩) hd
    refine Nat.le_trans (nodup_len _ t[i]!.ex (asc_nodup (setB_asc _)) fun p hp => ?_) this
    rcases childP_mem.1 hp with ⟨-, q⟩ | ⟨-, q⟩
    · rcases (wantP_iff.1 q).2 with q | q
      · exact q
      · exact absurd (spec_iff.2 q.2) hs
    · exact q
theorem more_len (V : VT t D) (h : ∀ n ∈ t, n.d = D → n.ex.length ≤ 3) {ps : List B} (hp : ps.length ≤ 3) (cnt : Bool) : (moreE t (D + 1) ps cnt).length ≤ 3 * cntD t D + 1 := by
  unfold moreE
  have hq : (setB ps).length ≤ 3 := Nat.le_trans (setB_length _) hp
  generalize setB ps = qs at hq
  generalize allE ps cnt = al
  have key : ∀ j, j ≤ t.length → (moreK t (D + 1) qs al j).length ≤ 3 * cntD (t.take j) D + (t.take j).countP (fun n => decide (n.d = D) && spec n) := by
    intro j
    induction j with
    | zero => intro _; simp [moreK]
    | succ j ih =>
      intro hj
      have hjl : j < t.length := by omega
      have h0 := ih (by omega)
      rw [moreK_succ, List.length_append, List.take_succ_eq_append_getElem hjl, List.countP_append]
      unfold cntD
      rw [List.countP_append]
      have hle := V.le j hjl
      unfold cntD at h0
      by_cases hd : t[j]!.d < D + 1 - 1
      · rw [if_pos hd]
        have : t[j]!.d ≠ D := by omega
        rw [getElem!_pos t j hjl] at this
        simp only [List.countP_singleton, decide_eq_false this, Bool.false_and, Bool.false_eq_true, if_false, List.length_nil]
        omega
      · have he : t[j]!.d = D := by omega
        rw [if_neg hd, List.length_map]
        have h1 := child_len V h hjl he hq al
        rw [getElem!_pos t j hjl] at he h1 ⊢
        simp only [List.countP_singleton, decide_eq_true he, Bool.true_and, if_true]
        omega
  have h1 := key t.length (Nat.le_refl _)
  rw [List.take_length] at h1
  have h2 := count_one (fun n => decide (n.d = D) && spec n) t fun i j hi hj h1 h2 => by
    simp only [Bool.and_eq_true, decide_eq_true_eq] at h1 h2
    exact V.one i j hi hj (by omega) (spec_iff.1 h1.2) (spec_iff.1 h2.2)
  omega
end
structure StI (t : List Nd) (D : Nat) (c T : Nat) : Prop where
  V : VT t (D : Int)
  cnt : cntD t (D : Int) ≤ c
  len : t.length ≤ T
  ex : ∀ n ∈ t, n.d = (D : Int) → n.ex.length ≤ 3
theorem sti_root : StI [⟨0, -1, anyP, [anyP]⟩] 0 1 1 := by
  refine ⟨(valid_iff _ _).1 (by kernel_rfl), by decide, by simp, fun n hn _ => ?_⟩
  rw [List.mem_singleton] at hn
  subst hn; simp
theorem prune_ex {X : List Nd} {D E : Int} {b : Nat} (h : ∀ n ∈ X, n.d = E → n.ex.length ≤ b) : ∀ n ∈ pruneP X D, n.d = E → n.ex.length ≤ b := by
  intro n hn hd
  unfold pruneP at hn
  obtain ⟨i, hi, -, rfl⟩ := keep_mem.1 hn
  exact h X[i]! (mem_at.2 ⟨i, hi, rfl⟩) hd
theorem sti_enter {t : List Nd} {D c T : Nat} (h : StI t D c T) {ps : List B} (hp : ps.length ≤ 3) (cnt : Bool) (hb : T + (3 * c + 1) ≤ 2048) :
    ∃ r, enterP t ((D : Int) + 1) ps cnt = (r, 0) ∧ StI r (D + 1) (3 * c + 1) (T + (3 * c + 1)) := by
  have hm := more_len h.V h.ex hp cnt
  have h1 := h.len
  have h2 := h.cnt
  have V' : VT t ((D : Int) + 1 - 1) := by rw [show (D : Int) + 1 - 1 = D by omega]; exact h.V
  obtain ⟨s1, s2, s3⟩ := enter_stay V' (by omega) ps cnt (by omega)
  have hpm := sort_perm (t ++ moreE t ((D : Int) + 1) ps cnt)
  generalize hX : sortT (t ++ moreE t ((D : Int) + 1) ps cnt) = X at *
  refine ⟨_, s1, by rw [show ((D + 1 : Nat) : Int) = (D : Int) + 1 by omega]; exact s2, ?_, ?_, ?_⟩
  · rw [show ((D + 1 : Nat) : Int) = (D : Int) + 1 by omega]
    refine Nat.le_trans (keep_count X _ _ fun n => rfl) ?_
    rw [hpm.countP_eq, List.countP_append]
    have : t.countP (fun n => decide (n.d = (D : Int) + 1)) = 0 := by
      rw [List.countP_eq_zero]
      intro n hn
      obtain ⟨i, hi, rfl⟩ := mem_at.1 hn
      have := h.V.le i hi
      simp [-List.getElem!_eq_getElem?_getD]; omega
    have := List.countP_le_length (p := fun n => decide (n.d = (D : Int) + 1)) (l := moreE t ((D : Int) + 1) ps cnt)
    omega
  · refine Nat.le_trans (keep_len X _) ?_
    rw [hpm.length_eq, List.length_append]; omega
  · rw [show ((D + 1 : Nat) : Int) = (D : Int) + 1 by omega]
    refine prune_ex fun n hn hd => ?_
    rcases List.mem_append.1 (hpm.mem_iff.1 hn) with q | q
    · obtain ⟨i, hi, rfl⟩ := mem_at.1 q
      have := h.V.le i hi; omega
    · obtain ⟨i, -, -, p, -, rfl⟩ := moreK_mem.1 q
      simp [newN]
theorem sti_map {t : List Nd} {D c T : Nat} (h : StI t D c T) (hD : 1 ≤ D) {ms : List (B × B)} (hm : ms.length ≤ 3) (ok : Bool) (hb : T + 3 ≤ 2048) :
    ∃ r, mapP t (D : Int) ms ok = (r, 0) ∧ StI r D (c + 3) (T + 3) := by
  have h1 := h.len
  have h2 := h.cnt
  have hsub : ∀ x, (subL ms x).length ≤ 3 := fun x => by
    unfold subL
    refine Nat.le_trans (setB_length _) ?_
    rw [List.length_map]
    exact Nat.le_trans (List.length_filter_le _ _) hm
  cases ok with
  | false =>
    obtain ⟨s1, s2, s3⟩ := map_stay_no h.V (by omega) ms
    refine ⟨_, s1, s2, ?_, ?_, ?_⟩
    · refine Nat.le_trans (keep_count _ _ _ fun n => rfl) (Nat.le_trans (keep_count _ _ _ fun n => rfl) ?_)
      unfold cntD at h2; omega
    · exact Nat.le_trans (keep_len _ _) (Nat.le_trans (keep_len _ _) (by omega))
    · refine prune_ex fun n hn hd => ?_
      obtain ⟨i, hi, -, rfl⟩ := keep_mem.1 hn
      exact h.ex t[i]! (mem_at.2 ⟨i, hi, rfl⟩) hd
  | true =>
    have hml : (mapMore t (D : Int) ms).length ≤ 3 := by
      unfold mapMore
      rw [List.length_map]
      refine Nat.le_trans (List.length_filter_le _ _) ?_
      unfold srcL
      refine Nat.le_trans (setB_length _) ?_
      rw [List.length_map]
      exact Nat.le_trans (List.length_filter_le _ _) hm
    obtain ⟨s1, s2, s3⟩ := map_stay h.V (by omega) ms (by omega)
    have hpm := sort_perm (t.map (nowN ms D) ++ mapMore t D ms)
    generalize hX : sortT (t.map (nowN ms D) ++ mapMore t D ms) = X at *
    have hcm : (t.map (nowN ms D)).countP (fun n => decide (n.d = (D : Int))) = cntD t D := by
      rw [List.countP_map]
      apply List.countP_congr
      intro n _
      simp only [Function.comp, (now_d ms D n).1]
    refine ⟨_, s1, s2, ?_, ?_, ?_⟩
    · refine Nat.le_trans (keep_count X _ _ fun n => rfl) ?_
      rw [hpm.countP_eq, List.countP_append, hcm]
      have := List.countP_le_length (p := fun n => decide (n.d = (D : Int))) (l := mapMore t (D : Int) ms)
      omega
    · refine Nat.le_trans (keep_len X _) ?_
      rw [hpm.length_eq, List.length_append, List.length_map]; omega
    · refine prune_ex fun n hn hd => ?_
      rcases List.mem_append.1 (hpm.mem_iff.1 hn) with q | q
      · obtain ⟨m, hm2, rfl⟩ := List.mem_map.1 q
        have hmd : m.d = D := by rw [(now_d ms D m).1] at hd; exact hd
        have := h.ex m hm2 hmd
        unfold nowN
        split
        · exact this
        · split
          · exact hsub _
          · exact this
      · unfold mapMore at q
        obtain ⟨x, -, rfl⟩ := List.mem_map.1 q
        exact hsub _
def cB : Nat → Nat
  | 0 => 1
  | k + 1 => 3 * cB k + 4
def tB : Nat → Nat
  | 0 => 1
  | k + 1 => tB k + 3 * cB k + 4
theorem tB_ok : ∀ k, k < 5 → tB k + (3 * cB k + 4) ≤ 1090 := by decide
theorem tB_le : ∀ k, k < 6 → tB k ≤ 1100 := by decide
end Go.Proofs.Ytmagjdocondmhaa.Tr
