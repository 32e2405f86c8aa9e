/-
  A region that draws its order, in which every operation waits for one (the m-th) or is waited for by it: only that one turns the world.
-/
import Derived.Test.YtbfgkcgnhgfkmaaGreatFactsH
namespace Go.Proofs.YtbfgkcgnhgfkmaaGreat
open Go Go.RowKit
section
variable {P : Program} {md : Region.Mode}

/-- the m-th waits for all ahead of it -/
def earlyB (l : List Oper) (m : Nat) : Bool := (List.range m).all fun i => (List.range (m + 1)).any fun k => decide (i < k) && (match l[k]? with | some o => o.after.toList.any (fun e => Region.binds .any e && e.on == i) | none => false)
theorem early_of {l : List Oper} {d : Nat → Bool} {m : Nat} (hB : earlyB l m = true) (hcl : Closed l d) (hm : d m = true) : ∀ j i, i + j = m → d i = true := by
  intro j
  induction j using Nat.strongRecOn with
  | _ j ih =>
    intro i hij
    rcases Nat.eq_zero_or_pos j with h | h
    · obtain rfl : i = m := by omega
      exact hm
    · unfold earlyB at hB
      rw [List.all_eq_true] at hB
      have h1 := hB i (List.mem_range.2 (by omega))
      rw [List.any_eq_true] at h1
      obtain ⟨k, hk, h2⟩ := h1
      rw [List.mem_range] at hk
      rw [Bool.and_eq_true, decide_eq_true_eq] at h2
      obtain ⟨h3, h4⟩ := h2
      split at h4
      · rename_i o ho
        rw [List.any_eq_true] at h4
        obtain ⟨e, he, h5⟩ := h4
        rw [Bool.and_eq_true, beq_iff_eq] at h5
        have := hcl k o ho (ih (m - k) (by omega) k (by omega)) e (by simpa using he) h5.1
        rwa [h5.2] at this
      · cases h4
theorem wp_region_mid {id : Nat} {Q : Exit → Act → World → Prop} {a : Act} {w : World} {l : List Oper} (n m : Nat) (Φ : Nat → Value → World → Prop) (Af : World → Prop) (hm : P.follows .mixedOrders = true) (hB : factsB l.toArray n = true)
    (hsz : (l.take n).all (fun o => match o.dst with | some d => decide (d < a.tmps.size) | none => true) = true)
    (hlate : lateB l m n = true) (hearlyB : earlyB l m = true) (hmn : m < n)
    (hst : ∀ i v w w', Φ i v w → Below w.heap.size w w' → Φ i v w') (hfree : ∀ i v w w', i < m → Φ i v w → Φ i v w') (hAf : ∀ w w', Af w → Below w.heap.size w w' → Af w')
    (hearly : ∀ i o, i < m → l[i]? = some o → ∀ (x : Nat → Value), NeedsB .any (fun j => Φ j (x j) { w with drawn := w.drawn + 1 }) (fun _ => none) i o.after.toList →
      wpList P l.toArray (Fin1 (Said o.dst a.defers fun v w'' => Φ i v w'' ∧ w'' = { w with drawn := w.drawn + 1 })) [o] (putFrom 0 (l.take n) a x) { w with drawn := w.drawn + 1 })
    (hmid : ∀ o, l[m]? = some o → ∀ (x : Nat → Value), NeedsB .any (fun j => Φ j (x j) { w with drawn := w.drawn + 1 }) (fun _ => none) m o.after.toList →
      wpList P l.toArray (Fin1 (Said o.dst a.defers fun v w'' => Φ m v w'' ∧ Af w'')) [o] (putFrom 0 (l.take n) a x) { w with drawn := w.drawn + 1 })
    (hlater : ∀ i o, m < i → i < n → l[i]? = some o → ∀ (x : Nat → Value) (w' : World), Af w' → NeedsB .any (fun j => Φ j (x j) w') (fun _ => none) i o.after.toList →
      wpList P l.toArray (Fin1 (Said o.dst a.defers fun v w'' => Φ i v w'' ∧ Below w'.heap.size w' w'')) [o] (putFrom 0 (l.take n) a x) w')
    (hend : ∀ (x : Nat → Value) (w' : World), Af w' → (∀ j, j < n → Φ j (x j) w') → wpList P l.toArray Q (l.drop n) (putFrom 0 (l.take n) a x) w') : (Code.region id l.toArray true).wp P Q a w := by
  refine wp_region_factsH n (fun _ => none) (fun i => decide (i ≤ m) || decide (n ≤ i)) (fun j x w => Φ j (x j) w) (fun d w' => ((∀ i, m ≤ i → i < n → d i = false) → w' = { w with drawn := w.drawn + 1 }) ∧ (d m = true → Af w'))
    (fun i w1 w2 => if i = m then w1 = { w with drawn := w.drawn + 1 } ∧ Af w2 else if i < m then w2 = w1 else False) ⟨fun _ => rfl, fun h => by cases h⟩ hm hB hsz ?_ (fun i x => hst i (x i)) ?_ ?_ ?_ ?_ ?_
  · intro j oj x y w1 _ _ hxy _ h
    show Φ j (y j) w1
    rw [← hxy]; exact h
  · rintro d i w1 w2 ⟨h1, h2⟩ hb hd hbel
    simp only [Bool.or_eq_false_iff, decide_eq_false_iff_not] at hb
    refine ⟨fun hall => ?_, fun hmk => ?_⟩
    · have := hall i (by omega) (by omega)
      simp [mark] at this
    · refine hAf _ _ (h2 ?_) hbel
      unfold mark at hmk
      rwa [if_neg (by omega)] at hmk
  · rintro d i oi w1 w2 ho hdep ⟨h1, h2⟩ hb hd hg
    by_cases him : i = m
    · subst him
      rw [if_pos rfl] at hg
      refine ⟨fun hall => ?_, fun _ => hg.2⟩
      have := hall i (Nat.le_refl _) hmn
      simp [mark] at this
    · rw [if_neg him] at hg
      by_cases hlt : i < m
      · rw [if_pos hlt] at hg
        subst hg
        refine ⟨fun hall => h1 fun k hk1 hk2 => ?_, fun hmk => h2 ?_⟩
        · have := hall k hk1 hk2
          unfold mark at this
          rwa [if_neg (by omega)] at this
        · unfold mark at hmk
          rwa [if_neg (by omega)] at hmk
      · rw [if_neg hlt] at hg; exact hg.elim
  · intro b ob j x d w1 w2 hb ho hdep _ hne hj hcl hdj hdb hφ hg
    by_cases him : b = m
    · subst him
      rcases Nat.lt_or_ge j b with q | q
      · exact hfree j _ _ _ q hφ
      · rw [late_of hlate hcl hdb j q hj] at hdj; cases hdj
    · rw [if_neg him] at hg
      by_cases hlt : b < m
      · rw [if_pos hlt] at hg; subst hg; exact hφ
      · rw [if_neg hlt] at hg; exact hg.elim
  · rintro i o hi ho d x w1 hcl hdi hdep ⟨h1, h2⟩ hN
    rcases Nat.lt_trichotomy i m with q | q | q
    · have hw : w1 = { w with drawn := w.drawn + 1 } := by
        refine h1 fun k hk1 hk2 => late_of hlate hcl ?_ k hk1 hk2
        cases hdm : d m with
        | false => rfl
        | true =>
          have := early_of hearlyB hcl hdm (m - i) i (by omega)
          rw [this] at hdi; cases hdi
      subst hw
      have hh := hearly i o q ho x hN
      have hb : (decide (i ≤ m) || decide (n ≤ i)) = true := by simp; omega
      simp only [hb, if_true, if_neg (Nat.ne_of_lt q), if_pos q, upd]
      exact hh
    · subst q
      have hw : w1 = { w with drawn := w.drawn + 1 } := h1 fun k hk1 hk2 => late_of hlate hcl hdi k hk1 hk2
      subst hw
      have hh := hmid o ho x hN
      have hb : (decide (i ≤ i) || decide (n ≤ i)) = true := by simp
      simp only [hb, if_true, true_and, upd]
      exact hh
    · have hh := hlater i o q hi ho x w1 (h2 (late_done hlate hcl q hi ho hdep)) hN
      have hb : (decide (i ≤ m) || decide (n ≤ i)) = false := by simp; omega
      simp only [hb, Bool.false_eq_true, if_false, if_true, upd]
      exact hh
  · intro d x w1 hd hC hf
    exact hend x w1 (hC.2 (hd m hmn)) fun j hj => hf j hj fun c hc => by cases hc
end

end Go.Proofs.YtbfgkcgnhgfkmaaGreat
