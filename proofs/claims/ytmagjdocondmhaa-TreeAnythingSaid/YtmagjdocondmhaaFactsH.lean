/-
  The law of facts once more: a fact of an operation that waits for the big one need not outlive it.
-/
import Derived.Test.YtmagjdocondmhaaFactsB
namespace Go.Proofs.Ytmagjdocondmhaa
open Go Go.RowKit
section
variable {P : Program} {md : Region.Mode}

theorem wpAny_of_factsH {l : List Oper} {n : Nat} {a0 : Act} {Q : Exit → Act → World → Prop} (cons : Nat → Option Nat) (big : Nat → Bool) (Φ : Nat → (Nat → Value) → World → Prop) (C : (Nat → Bool) → World → Prop) (G : Nat → World → World → Prop) (hB : factsB l.toArray n = true)
    (hsz : (l.take n).all (fun o => match o.dst with | some d => decide (d < a0.tmps.size) | none => true) = true)
    (hloc : ∀ j oj (x y : Nat → Value) w, l[j]? = some oj → j < n → x j = y j → (∀ e ∈ oj.after.toList, Region.binds .any e = true → x e.on = y e.on) → Φ j x w → Φ j y w) (hst : ∀ i x w w', Φ i x w → Below w.heap.size w w' → Φ i x w')
    (hC : ∀ d i w w', C d w → big i = false → d i = false → Below w.heap.size w w' → C (mark d i) w') (hGC : ∀ d i oi w w', l[i]? = some oi → (∀ e ∈ oi.after.toList, Region.binds .any e = true → d e.on = true) → C d w → big i = true → d i = false → G i w w' → C (mark d i) w')
    (hbig : ∀ b ob j x (d : Nat → Bool) w w', big b = true → l[b]? = some ob → (∀ e ∈ ob.after.toList, Region.binds .any e = true → d e.on = true) → (∀ c, cons j = some c → mark d b c = false) → j ≠ b → j < n → Closed l d → d j = true → d b = false → Φ j x w → G b w w' → Φ j x w')
    (hstep : ∀ i o, i < n → l[i]? = some o → ∀ (d : Nat → Bool) (x : Nat → Value) (w : World), Closed l d → d i = false → (∀ e ∈ o.after.toList, Region.binds .any e = true → d e.on = true) → C d w → NeedsB .any (fun j => Φ j x w) cons i o.after.toList →
      wpList P l.toArray (Fin1 (Said o.dst a0.defers fun v w' => Φ i (upd x i v) w' ∧ (if big i = true then G i w w' else Below w.heap.size w w'))) [o] (putFrom 0 (l.take n) a0 x) w)
    (hend : ∀ (d : Nat → Bool) (x : Nat → Value) (w : World), (∀ j, j < n → d j = true) → C d w → (∀ j, j < n → (∀ c, cons j = some c → n ≤ c) → Φ j x w) → wpList P l.toArray Q (l.drop n) (putFrom 0 (l.take n) a0 x) w) :
    ∀ (f : Nat) (done : Array Bool) (x : Nat → Value) (w : World), HeadInv .any l.toArray n done → undone done n = f → C (fun j => done.getD j false) w → (∀ j, j < n → done.getD j false = true → (∀ c, cons j = some c → done.getD c false = false) → Φ j x w) →
      wpAny P .any l.toArray Q (f + (l.toArray.size - n)) done (putFrom 0 (l.take n) a0 x) w := by
  simp only [factsB, Bool.and_eq_true, Bool.or_eq_true, decide_eq_true_eq] at hB
  obtain ⟨⟨⟨⟨hn, hsc⟩, hback⟩, hseq⟩, hdst⟩ := hB
  intro f
  induction f with
  | zero =>
    intro done x w inv hu hb hf
    have hall := undone_zero hu
    have hD : done = Array.replicate n true ++ Array.replicate (l.toArray.size - n) false := by
      apply Array.ext
      · rw [inv.size]; simp; simp at hn; omega
      · intro j h1 h2
        rcases Nat.lt_or_ge j n with h | h
        · have := hall j h
          rw [Array.getElem_append_left (by simpa using h), Array.getElem_replicate]
          simpa [Array.getD_eq_getD_getElem?, h1] using this
        · have := inv.tail j h (by rw [← inv.size]; exact h1)
          rw [Array.getElem_append_right (by simpa using h), Array.getElem_replicate]
          simpa [Array.getD_eq_getD_getElem?, h1] using this
    have hE := hend (fun j => done.getD j false) x w (fun j hj => by have h1 := hall j hj; have h2 : j < done.size := (by rw [inv.size]; simp at hn ⊢; omega); simpa [Array.getD_eq_getD_getElem?, h2] using h1) hb fun j hj hc => hf j hj (by
      rw [hD, Array.getD_eq_getD_getElem?, Array.getElem?_append_left (by simpa using hj)]; simp [hj]) fun c hcc => by
        have hnc := hc c hcc
        rcases Nat.lt_or_ge c l.toArray.size with q | q
        · exact getD_both (inv.tail c hnc q)
        · rw [Array.getD_eq_getD_getElem?, Array.getElem?_eq_none (by rw [inv.size]; exact q)]; rfl
    rw [Nat.zero_add, show l.toArray.size - n = (l.drop n).length by simp]
    refine wpAny_of_seq (md := .any) (l.drop n) n done _ w (fun j => by simp [List.getElem?_drop]) ?_ hE
    rw [hD, show (l.drop n).length = l.toArray.size - n by simp]; exact hseq
  | succ f ih =>
    intro done x w inv hu hb hf
    obtain ⟨i0, hi0, hd0⟩ := undone_pos (done := done) (k := n) (by omega)
    rw [show f + 1 + (l.toArray.size - n) = (f + (l.toArray.size - n)) + 1 by omega]
    refine ⟨fun h0 => ?_, fun i hi => ?_⟩
    · obtain ⟨j, hj⟩ := ready_some (md := .any) hback inv.size i0 (by omega) hd0
      rw [h0] at hj; cases hj
    · obtain ⟨hun, o, ho, hall⟩ := mem_ready.1 hi
      have hin : i < n := by
        rcases Nat.lt_or_ge i n with h | h
        · exact h
        · rcases hsc with hsc | ⟨hs, hc⟩
          · have := (Array.getElem?_eq_some_iff.1 ho).1; omega
          · have hlt := (Array.getElem?_eq_some_iff.1 ho).1
            exact absurd hi (tail_waits hs hc (by omega) inv _ i0 rfl hi0 hd0 i h)
      have hol : l[i]? = some o := by simpa using ho
      have hS := hstep i o hin hol (fun j => done.getD j false) x w (fun j oj hj hd e he hbd => inv.closed j oj (by simpa using hj) hd e he hbd) (getD_both hun) (fun e he hbd => hall e (by simpa using he) hbd) hb <| needsB_of _ fun e he1 he2 hcn => by
        have hd := hall e (by simpa using he1) he2
        refine hf e.on ?_ hd fun c hcc => ?_
        · rcases Nat.lt_or_ge e.on n with h | h
          · exact h
          · rcases Nat.lt_or_ge e.on l.toArray.size with h' | h'
            · have := inv.tail e.on h h'
              rw [getD_both this] at hd; cases hd
            · rw [Array.getD_eq_getD_getElem?, Array.getElem?_eq_none (by rw [inv.size]; exact h')] at hd; cases hd
        · rcases hcn with h | h
          · rw [h] at hcc; cases hcc
          · rw [h] at hcc; cases hcc; exact getD_both hun
      have hot : (l.take n)[i]? = some o := by rw [List.getElem?_take_of_lt hin]; exact hol
      obtain ⟨z1, z2⟩ := putFrom_size (l.take n) 0 a0 x
      refine wpOp_of_fin1 ho (fun a' w' hp h => ?_) hS
      rw [← z2] at h
      obtain ⟨v, rfl, hφ, hbw⟩ := h.puts hp fun d hd => by
        have := List.all_eq_true.1 hsz o (List.mem_of_getElem? hot)
        rw [hd] at this
        rw [z1]
        simpa using this
      have hbw0 : C (fun j => (done.setIfInBounds i true).getD j false) w' := by
        rw [show (fun j => (done.setIfInBounds i true).getD j false) = mark (fun j => done.getD j false) i from funext fun j => getD_mark done i (by rw [inv.size]; omega) j]
        by_cases hbi : big i = true
        · rw [if_pos hbi] at hbw; exact hGC _ i o w w' hol (fun e he hbd => hall e (by simpa using he) hbd) hb hbi (getD_both hun) hbw
        · rw [if_neg hbi] at hbw; exact hC _ i w w' hb (by simpa using hbi) (getD_both hun) hbw
      rw [putFrom_upd (l.take n) 0 i a0 x o v (by simpa using hdst) hot, Nat.zero_add]
      refine ih _ _ w' (inv.set hi hin) (by have := undone_set done i hun n hin; omega) hbw0 fun j hj hd hcs => ?_
      by_cases hji : j = i
      · subst hji
        exact hφ
      · rw [getD_set_ne false (Ne.symm hji)] at hd
        have hci : cons j ≠ some i := fun hc => by
          have h1 := hcs i hc
          have hlt : i < done.size := by rw [inv.size]; omega
          simp [hlt] at h1
        have hold := hf j hj hd fun c hc => by
          have h1 := hcs c hc
          have hne : i ≠ c := fun e => hci (by rw [e]; exact hc)
          rwa [getD_set_ne false hne] at h1
        have hnew : Φ j x w' := by
          by_cases hbi : big i = true
          · rw [if_pos hbi] at hbw; exact hbig i o j x (fun k => done.getD k false) w w' hbi hol (fun e he hbd => hall e (by simpa using he) hbd) (fun c hc => by
              have h1 := hcs c hc
              have hsz2 : i < done.size := by rw [inv.size]; omega
              rw [getD_mark done i hsz2 c] at h1; exact h1) hji hj (fun j oj hj hd e he hbd => inv.closed j oj (by simpa using hj) hd e he hbd) hd (getD_both hun) hold hbw
          · rw [if_neg hbi] at hbw; exact hst j x w w' hold hbw
        obtain ⟨oj, hoj⟩ : ∃ oj, l[j]? = some oj := ⟨l[j]'(by simp at hn; omega), List.getElem?_eq_getElem _⟩
        refine hloc j oj x (upd x i v) w' hoj hj (by simp [upd, hji]) (fun e he hbd => ?_) hnew
        have hde := inv.closed j oj (by simpa using hoj) hd e (by simpa using he) hbd
        have hei : e.on ≠ i := fun q => by rw [q, getD_both hun] at hde; cases hde
        simp [upd, hei]

theorem wp_region_factsH {id : Nat} {Q : Exit → Act → World → Prop} {a : Act} {w : World} {l : List Oper} (n : Nat) (cons : Nat → Option Nat) (big : Nat → Bool) (Φ : Nat → (Nat → Value) → World → Prop) (C : (Nat → Bool) → World → Prop) (G : Nat → World → World → Prop) (hC0 : C (fun _ => false) { w with drawn := w.drawn + 1 }) (hm : P.follows .mixedOrders = true) (hB : factsB l.toArray n = true)
    (hsz : (l.take n).all (fun o => match o.dst with | some d => decide (d < a.tmps.size) | none => true) = true)
    (hloc : ∀ j oj (x y : Nat → Value) w, l[j]? = some oj → j < n → x j = y j → (∀ e ∈ oj.after.toList, Region.binds .any e = true → x e.on = y e.on) → Φ j x w → Φ j y w) (hst : ∀ i x w w', Φ i x w → Below w.heap.size w w' → Φ i x w')
    (hC : ∀ d i w w', C d w → big i = false → d i = false → Below w.heap.size w w' → C (mark d i) w') (hGC : ∀ d i oi w w', l[i]? = some oi → (∀ e ∈ oi.after.toList, Region.binds .any e = true → d e.on = true) → C d w → big i = true → d i = false → G i w w' → C (mark d i) w')
    (hbig : ∀ b ob j x (d : Nat → Bool) w1 w', big b = true → l[b]? = some ob → (∀ e ∈ ob.after.toList, Region.binds .any e = true → d e.on = true) → (∀ c, cons j = some c → mark d b c = false) → j ≠ b → j < n → Closed l d → d j = true → d b = false → Φ j x w1 → G b w1 w' → Φ j x w')
    (hstep : ∀ i o, i < n → l[i]? = some o → ∀ (d : Nat → Bool) (x : Nat → Value) (w' : World), Closed l d → d i = false → (∀ e ∈ o.after.toList, Region.binds .any e = true → d e.on = true) → C d w' → NeedsB .any (fun j => Φ j x w') cons i o.after.toList →
      wpList P l.toArray (Fin1 (Said o.dst a.defers fun v w'' => Φ i (upd x i v) w'' ∧ (if big i = true then G i w' w'' else Below w'.heap.size w' w''))) [o] (putFrom 0 (l.take n) a x) w')
    (hend : ∀ (d : Nat → Bool) (x : Nat → Value) (w' : World), (∀ j, j < n → d j = true) → C d w' → (∀ j, j < n → (∀ c, cons j = some c → n ≤ c) → Φ j x w') → wpList P l.toArray Q (l.drop n) (putFrom 0 (l.take n) a x) w') : (Code.region id l.toArray true).wp P Q a w := by
  have hB' := hB
  simp only [factsB, Bool.and_eq_true, Bool.or_eq_true, decide_eq_true_eq] at hB'
  obtain ⟨⟨⟨⟨hn, hsc⟩, hback⟩, hseq⟩, hdst⟩ := hB'
  refine wp_region_any hm ?_
  have hu : ∀ k, k ≤ l.toArray.size → undone (Array.replicate l.toArray.size false) k = k := by
    intro k
    induction k with
    | zero => intro _; rfl
    | succ k ih =>
      intro hk
      rw [undone, ih (by omega), getD_in (by simp at hk ⊢; omega) (getD_replicate_false _ _)]; simp
  have inv0 : HeadInv .any l.toArray n (Array.replicate l.toArray.size false) :=
    ⟨by simp, fun j oj _ hl => (by rw [getD_replicate_false] at hl; cases hl), fun t _ ht => getD_in (by simpa using ht) (getD_replicate_false _ _)⟩
  have H := wpAny_of_factsH (a0 := a) (Q := Q) cons big Φ C G hB hsz hloc hst hC hGC hbig hstep hend n (Array.replicate l.toArray.size false)
    (fun j => match (l.take n)[j]? with | some o => (match o.dst with | some d => a.tmps.getD d undef | none => undef) | none => undef) { w with drawn := w.drawn + 1 } inv0 (hu n hn) (by rw [show (fun j => (Array.replicate l.toArray.size false).getD j false) = fun _ => false from funext fun j => getD_replicate_false _ _]; exact hC0)
    (fun j _ hl => by rw [getD_replicate_false] at hl; cases hl)
  rw [putFrom_start (l.take n) 0 a _ fun i o d hi hd => by rw [Nat.zero_add]; simp only [hi, hd], show n + (l.toArray.size - n) = l.toArray.size by omega] at H
  exact H
/-- all operations behind m wait for it -/
def lateB (l : List Oper) (m n : Nat) : Bool := (List.range n).all fun k => decide (k ≤ m) || (match l[k]? with | some o => o.after.toList.any (fun e => Region.binds .any e && decide (m ≤ e.on) && decide (e.on < k)) | none => false)
theorem lateB_at {l : List Oper} {m n k : Nat} (hB : lateB l m n = true) (hk : m < k) (hn : k < n) : ∃ o, l[k]? = some o ∧ ∃ e ∈ o.after.toList, Region.binds .any e = true ∧ m ≤ e.on ∧ e.on < k := by
  unfold lateB at hB
  rw [List.all_eq_true] at hB
  have h := hB k (List.mem_range.2 hn)
  rw [Bool.or_eq_true] at h
  rcases h with h | h
  · rw [decide_eq_true_eq] at h; omega
  · split at h
    · rename_i o ho
      rw [List.any_eq_true] at h
      obtain ⟨e, he, h⟩ := h
      simp only [Bool.and_eq_true, decide_eq_true_eq] at h
      exact ⟨o, ho, e, he, h.1.1, h.1.2, h.2⟩
    · cases h
theorem late_of {l : List Oper} {d : Nat → Bool} {m n : Nat} (hB : lateB l m n = true) (hcl : Closed l d) (hm : d m = false) : ∀ k, m ≤ k → k < n → d k = false := by
  intro k
  induction k using Nat.strongRecOn with
  | _ k ih =>
    intro h1 h2
    rcases Nat.lt_or_eq_of_le h1 with h | h
    · obtain ⟨o, ho, e, he, hb, q1, q2⟩ := lateB_at hB h h2
      cases hd : d k with
      | false => rfl
      | true =>
        have h3 := hcl k o ho hd e (by simpa using he) hb
        rw [ih e.on q2 q1 (by omega)] at h3
        exact absurd h3 (by simp)
    · rw [← h]; exact hm
theorem late_done {l : List Oper} {d : Nat → Bool} {m n i : Nat} {o : Oper} (hB : lateB l m n = true) (hcl : Closed l d) (hi : m < i) (hn : i < n) (ho : l[i]? = some o) (hdep : ∀ e ∈ o.after.toList, Region.binds .any e = true → d e.on = true) : d m = true := by
  obtain ⟨o', ho', e, he, hb, q1, q2⟩ := lateB_at hB hi hn
  rw [ho] at ho'
  obtain rfl := Option.some.inj ho'
  cases hd : d m with
  | true => rfl
  | false =>
    have h3 := hdep e he hb
    rw [late_of hB hcl hd e.on q1 (by omega)] at h3
    exact absurd h3 (by simp)
end

end Go.Proofs.Ytmagjdocondmhaa
