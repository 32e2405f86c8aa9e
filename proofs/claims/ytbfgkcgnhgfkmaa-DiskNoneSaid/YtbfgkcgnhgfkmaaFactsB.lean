/-
  The law of facts, for a region in which some operations write to what others of it have made: such an operation uses up the facts of what it writes to.
-/
import Derived.Test.YtbfgkcgnhgfkmaaFacts
namespace Go.Proofs.Ytbfgkcgnhgfkmaa
open Go Go.RowKit
section
variable {P : Program} {md : Region.Mode}

/-- what an operation waits for, and may use -/
def NeedsB (md : Region.Mode) (R : Nat → Prop) (cons : Nat → Option Nat) (i : Nat) : List Edge → Prop
  | [] => True
  | e :: l => (Region.binds md e = true → (cons e.on = none ∨ cons e.on = some i) → R e.on) ∧ NeedsB md R cons i l
theorem needsB_of {R : Nat → Prop} {cons : Nat → Option Nat} {i : Nat} : ∀ (l : List Edge), (∀ e ∈ l, Region.binds md e = true → (cons e.on = none ∨ cons e.on = some i) → R e.on) → NeedsB md R cons i l
  | [], _ => trivial
  | e :: l, h => ⟨h e (by simp), needsB_of l fun e' he => h e' (by simp [he])⟩

theorem wpAny_of_factsB {l : List Oper} {n : Nat} {a0 : Act} {w0 : World} {Q : Exit → Act → World → Prop} (cons : Nat → Option Nat) (big : Nat → Bool) (Φ : Nat → Value → World → Prop) (hB : factsB l.toArray n = true)
    (hsz : (l.take n).all (fun o => match o.dst with | some d => decide (d < a0.tmps.size) | none => true) = true)
    (hst : ∀ i v w w', Φ i v w → Below w.heap.size w w' → Φ i v w')
    (hbig : ∀ b j v w w', big b = true → cons j ≠ some b → j ≠ b → j < n → Φ j v w → Below w0.heap.size w w' → w.heap.size ≤ w'.heap.size → Φ j v w')
    (hstep : ∀ i o, i < n → l[i]? = some o → ∀ (x : Nat → Value) (w : World), Below w0.heap.size w0 w → NeedsB .any (fun j => Φ j (x j) w) cons i o.after.toList →
      wpList P l.toArray (Fin1 (Said o.dst a0.defers fun v w' => Φ i v w' ∧ Below (if big i then w0.heap.size else w.heap.size) w w')) [o] (putFrom 0 (l.take n) a0 x) w)
    (hend : ∀ (x : Nat → Value) (w : World), Below w0.heap.size w0 w → (∀ j, j < n → (∀ c, cons j = some c → n ≤ c) → Φ j (x j) w) → wpList P l.toArray Q (l.drop n) (putFrom 0 (l.take n) a0 x) w) :
    ∀ (f : Nat) (done : Array Bool) (x : Nat → Value) (w : World), HeadInv .any l.toArray n done → undone done n = f → Below w0.heap.size w0 w → (∀ j, j < n → done.getD j false = true → (∀ c, cons j = some c → done.getD c false = false) → Φ j (x j) w) →
      wpAny P .any l.toArray Q (f + (l.toArray.size - n)) done (putFrom 0 (l.take n) a0 x) w := by
  simp only [factsB, Bool.and_eq_true, Bool.or_eq_true, decide_eq_true_eq] at hB
  obtain ⟨⟨⟨⟨hn, hsc⟩, hback⟩, hseq⟩, hdst⟩ := hB
  intro f
  induction f with
  | zero =>
    intro done x w inv hu hb hf
    have hall := undone_zero hu
    have hD : done = Array.replicate n true ++ Array.replicate (l.toArray.size - n) false := by
      apply Array.ext
      · rw [inv.size]; simp; simp at hn; omega
      · intro j h1 h2
        rcases Nat.lt_or_ge j n with h | h
        · have := hall j h
          rw [Array.getElem_append_left (by simpa using h), Array.getElem_replicate]
          simpa [Array.getD_eq_getD_getElem?, h1] using this
        · have := inv.tail j h (by rw [← inv.size]; exact h1)
          rw [Array.getElem_append_right (by simpa using h), Array.getElem_replicate]
          simpa [Array.getD_eq_getD_getElem?, h1] using this
    have hE := hend x w hb fun j hj hc => hf j hj (by
      rw [hD, Array.getD_eq_getD_getElem?, Array.getElem?_append_left (by simpa using hj)]; simp [hj]) fun c hcc => by
        have hnc := hc c hcc
        rcases Nat.lt_or_ge c l.toArray.size with q | q
        · exact getD_both (inv.tail c hnc q)
        · rw [Array.getD_eq_getD_getElem?, Array.getElem?_eq_none (by rw [inv.size]; exact q)]; rfl
    rw [Nat.zero_add, show l.toArray.size - n = (l.drop n).length by simp]
    refine wpAny_of_seq (md := .any) (l.drop n) n done _ w (fun j => by simp [List.getElem?_drop]) ?_ hE
    rw [hD, show (l.drop n).length = l.toArray.size - n by simp]; exact hseq
  | succ f ih =>
    intro done x w inv hu hb hf
    obtain ⟨i0, hi0, hd0⟩ := undone_pos (done := done) (k := n) (by omega)
    rw [show f + 1 + (l.toArray.size - n) = (f + (l.toArray.size - n)) + 1 by omega]
    refine ⟨fun h0 => ?_, fun i hi => ?_⟩
    · obtain ⟨j, hj⟩ := ready_some (md := .any) hback inv.size i0 (by omega) hd0
      rw [h0] at hj; cases hj
    · obtain ⟨hun, o, ho, hall⟩ := mem_ready.1 hi
      have hin : i < n := by
        rcases Nat.lt_or_ge i n with h | h
        · exact h
        · rcases hsc with hsc | ⟨hs, hc⟩
          · have := (Array.getElem?_eq_some_iff.1 ho).1; omega
          · have hlt := (Array.getElem?_eq_some_iff.1 ho).1
            exact absurd hi (tail_waits hs hc (by omega) inv _ i0 rfl hi0 hd0 i h)
      have hol : l[i]? = some o := by simpa using ho
      have hS := hstep i o hin hol x w hb <| needsB_of _ fun e he1 he2 hcn => by
        have hd := hall e (by simpa using he1) he2
        refine hf e.on ?_ hd fun c hcc => ?_
        · rcases Nat.lt_or_ge e.on n with h | h
          · exact h
          · rcases Nat.lt_or_ge e.on l.toArray.size with h' | h'
            · have := inv.tail e.on h h'
              rw [getD_both this] at hd; cases hd
            · rw [Array.getD_eq_getD_getElem?, Array.getElem?_eq_none (by rw [inv.size]; exact h')] at hd; cases hd
        · rcases hcn with h | h
          · rw [h] at hcc; cases hcc
          · rw [h] at hcc; cases hcc; exact getD_both hun
      have hot : (l.take n)[i]? = some o := by rw [List.getElem?_take_of_lt hin]; exact hol
      obtain ⟨z1, z2⟩ := putFrom_size (l.take n) 0 a0 x
      refine wpOp_of_fin1 ho (fun a' w' hp h => ?_) hS
      rw [← z2] at h
      obtain ⟨v, rfl, hφ, hbw⟩ := h.puts hp fun d hd => by
        have := List.all_eq_true.1 hsz o (List.mem_of_getElem? hot)
        rw [hd] at this
        rw [z1]
        simpa using this
      have hbw0 : Below w0.heap.size w w' := by
        by_cases hbi : big i = true
        · rw [if_pos hbi] at hbw; exact hbw
        · rw [if_neg hbi] at hbw; exact hbw.mono hb.size
      rw [putFrom_upd (l.take n) 0 i a0 x o v (by simpa using hdst) hot, Nat.zero_add]
      refine ih _ _ w' (inv.set hi hin) (by have := undone_set done i hun n hin; omega) (hb.trans hbw0) fun j hj hd hcs => ?_
      by_cases hji : j = i
      · subst hji
        simpa [upd] using hφ
      · rw [getD_set_ne false (Ne.symm hji)] at hd
        have hci : cons j ≠ some i := fun hc => by
          have h1 := hcs i hc
          have hlt : i < done.size := by rw [inv.size]; omega
          simp [hlt] at h1
        have hold := hf j hj hd fun c hc => by
          have h1 := hcs c hc
          have hne : i ≠ c := fun e => hci (by rw [e]; exact hc)
          rwa [getD_set_ne false hne] at h1
        have hnew : Φ j (x j) w' := by
          by_cases hbi : big i = true
          · exact hbig i j (x j) w w' hbi hci hji hj hold hbw0 hbw0.size
          · rw [if_neg hbi] at hbw; exact hst j (x j) w w' hold hbw
        simpa [upd, hji] using hnew

theorem wp_region_factsB {id : Nat} {Q : Exit → Act → World → Prop} {a : Act} {w : World} {l : List Oper} (n : Nat) (cons : Nat → Option Nat) (big : Nat → Bool) (Φ : Nat → Value → World → Prop) (hm : P.follows .mixedOrders = true) (hB : factsB l.toArray n = true)
    (hsz : (l.take n).all (fun o => match o.dst with | some d => decide (d < a.tmps.size) | none => true) = true)
    (hst : ∀ i v w w', Φ i v w → Below w.heap.size w w' → Φ i v w')
    (hbig : ∀ b j v w1 w', big b = true → cons j ≠ some b → j ≠ b → j < n → Φ j v w1 → Below w.heap.size w1 w' → w1.heap.size ≤ w'.heap.size → Φ j v w')
    (hstep : ∀ i o, i < n → l[i]? = some o → ∀ (x : Nat → Value) (w' : World), Below w.heap.size w w' → NeedsB .any (fun j => Φ j (x j) w') cons i o.after.toList →
      wpList P l.toArray (Fin1 (Said o.dst a.defers fun v w'' => Φ i v w'' ∧ Below (if big i then w.heap.size else w'.heap.size) w' w'')) [o] (putFrom 0 (l.take n) a x) w')
    (hend : ∀ (x : Nat → Value) (w' : World), Below w.heap.size w w' → (∀ j, j < n → (∀ c, cons j = some c → n ≤ c) → Φ j (x j) w') → wpList P l.toArray Q (l.drop n) (putFrom 0 (l.take n) a x) w') : (Code.region id l.toArray true).wp P Q a w := by
  have hB' := hB
  simp only [factsB, Bool.and_eq_true, Bool.or_eq_true, decide_eq_true_eq] at hB'
  obtain ⟨⟨⟨⟨hn, hsc⟩, hback⟩, hseq⟩, hdst⟩ := hB'
  refine wp_region_any hm ?_
  have hu : ∀ k, k ≤ l.toArray.size → undone (Array.replicate l.toArray.size false) k = k := by
    intro k
    induction k with
    | zero => intro _; rfl
    | succ k ih =>
      intro hk
      rw [undone, ih (by omega), getD_in (by simp at hk ⊢; omega) (getD_replicate_false _ _)]; simp
  have inv0 : HeadInv .any l.toArray n (Array.replicate l.toArray.size false) :=
    ⟨by simp, fun j oj _ hl => (by rw [getD_replicate_false] at hl; cases hl), fun t _ ht => getD_in (by simpa using ht) (getD_replicate_false _ _)⟩
  have H := wpAny_of_factsB (a0 := a) (w0 := w) (Q := Q) cons big Φ hB hsz hst hbig hstep hend n (Array.replicate l.toArray.size false)
    (fun j => match (l.take n)[j]? with | some o => (match o.dst with | some d => a.tmps.getD d undef | none => undef) | none => undef) { w with drawn := w.drawn + 1 } inv0 (hu n hn) ⟨rfl, rfl, rfl, Nat.le_refl _, fun _ _ => rfl⟩
    (fun j _ hl => by rw [getD_replicate_false] at hl; cases hl)
  rw [putFrom_start (l.take n) 0 a _ fun i o d hi hd => by rw [Nat.zero_add]; simp only [hi, hd], show n + (l.toArray.size - n) = l.toArray.size by omega] at H
  exact H
end

end Go.Proofs.Ytbfgkcgnhgfkmaa
