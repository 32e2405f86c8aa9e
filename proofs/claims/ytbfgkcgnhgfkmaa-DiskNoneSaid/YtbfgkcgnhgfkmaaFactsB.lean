/-
  The law of facts, for a region in which some operations write to what others of it have made: such an operation uses up the facts of what it writes to.
-/
/-
  The law of facts in a class of worlds: some operations ('big') turn the world by a relation G of the caller's; the others lay new memory alone.
-/
/-
  The law of facts in a class of worlds, where an operation's fact may speak of the values of those that it waits for.
-/
/-
  A region that draws its order and holds some operations in a chain (its spine: calls that change the world); all others yield what is known beforehand, in whatever world the spine has left so far.
-/
import Derived.Test.YtbfgkcgnhgfkmaaFacts
namespace Go.Proofs.Ytbfgkcgnhgfkmaa
open Go Go.RowKit
section
variable {P : Program} {md : Region.Mode}

/-- what an operation waits for, and may use -/
def NeedsB (md : Region.Mode) (R : Nat → Prop) (cons : Nat → Option Nat) (i : Nat) : List Edge → Prop
  | [] => True
  | e :: l => (Region.binds md e = true → (cons e.on = none ∨ cons e.on = some i) → R e.on) ∧ NeedsB md R cons i l
theorem needsB_of {R : Nat → Prop} {cons : Nat → Option Nat} {i : Nat} : ∀ (l : List Edge), (∀ e ∈ l, Region.binds md e = true → (cons e.on = none ∨ cons e.on = some i) → R e.on) → NeedsB md R cons i l
  | [], _ => trivial
  | e :: l, h => ⟨h e (by simp), needsB_of l fun e' he => h e' (by simp [he])⟩

theorem wpAny_of_factsB {l : List Oper} {n : Nat} {a0 : Act} {w0 : World} {Q : Exit → Act → World → Prop} (cons : Nat → Option Nat) (big : Nat → Bool) (Φ : Nat → Value → World → Prop) (hB : factsB l.toArray n = true)
    (hsz : (l.take n).all (fun o => match o.dst with | some d => decide (d < a0.tmps.size) | none => true) = true)
    (hst : ∀ i v w w', Φ i v w → Below w.heap.size w w' → Φ i v w')
    (hbig : ∀ b j v w w', big b = true → cons j ≠ some b → j ≠ b → j < n → Φ j v w → Below w0.heap.size w w' → w.heap.size ≤ w'.heap.size → Φ j v w')
    (hstep : ∀ i o, i < n → l[i]? = some o → ∀ (x : Nat → Value) (w : World), Below w0.heap.size w0 w → NeedsB .any (fun j => Φ j (x j) w) cons i o.after.toList →
      wpList P l.toArray (Fin1 (Said o.dst a0.defers fun v w' => Φ i v w' ∧ Below (if big i then w0.heap.size else w.heap.size) w w')) [o] (putFrom 0 (l.take n) a0 x) w)
    (hend : ∀ (x : Nat → Value) (w : World), Below w0.heap.size w0 w → (∀ j, j < n → (∀ c, cons j = some c → n ≤ c) → Φ j (x j) w) → wpList P l.toArray Q (l.drop n) (putFrom 0 (l.take n) a0 x) w) :
    ∀ (f : Nat) (done : Array Bool) (x : Nat → Value) (w : World), HeadInv .any l.toArray n done → undone done n = f → Below w0.heap.size w0 w → (∀ j, j < n → done.getD j false = true → (∀ c, cons j = some c → done.getD c false = false) → Φ j (x j) w) →
      wpAny P .any l.toArray Q (f + (l.toArray.size - n)) done (putFrom 0 (l.take n) a0 x) w := by
  simp only [factsB, Bool.and_eq_true, Bool.or_eq_true, decide_eq_true_eq] at hB
  obtain ⟨⟨⟨⟨hn, hsc⟩, hback⟩, hseq⟩, hdst⟩ := hB
  intro f
  induction f with
  | zero =>
    intro done x w inv hu hb hf
    have hall := undone_zero hu
    have hD : done = Array.replicate n true ++ Array.replicate (l.toArray.size - n) false := by
      apply Array.ext
      · rw [inv.size]; simp; simp at hn; omega
      · intro j h1 h2
        rcases Nat.lt_or_ge j n with h | h
        · have := hall j h
          rw [Array.getElem_append_left (by simpa using h), Array.getElem_replicate]
          simpa [Array.getD_eq_getD_getElem?, h1] using this
        · have := inv.tail j h (by rw [← inv.size]; exact h1)
          rw [Array.getElem_append_right (by simpa using h), Array.getElem_replicate]
          simpa [Array.getD_eq_getD_getElem?, h1] using this
    have hE := hend x w hb fun j hj hc => hf j hj (by
      rw [hD, Array.getD_eq_getD_getElem?, Array.getElem?_append_left (by simpa using hj)]; simp [hj]) fun c hcc => by
        have hnc := hc c hcc
        rcases Nat.lt_or_ge c l.toArray.size with q | q
        · exact getD_both (inv.tail c hnc q)
        · rw [Array.getD_eq_getD_getElem?, Array.getElem?_eq_none (by rw [inv.size]; exact q)]; rfl
    rw [Nat.zero_add, show l.toArray.size - n = (l.drop n).length by simp]
    refine wpAny_of_seq (md := .any) (l.drop n) n done _ w (fun j => by simp [List.getElem?_drop]) ?_ hE
    rw [hD, show (l.drop n).length = l.toArray.size - n by simp]; exact hseq
  | succ f ih =>
    intro done x w inv hu hb hf
    obtain ⟨i0, hi0, hd0⟩ := undone_pos (done := done) (k := n) (by omega)
    rw [show f + 1 + (l.toArray.size - n) = (f + (l.toArray.size - n)) + 1 by omega]
    refine ⟨fun h0 => ?_, fun i hi => ?_⟩
    · obtain ⟨j, hj⟩ := ready_some (md := .any) hback inv.size i0 (by omega) hd0
      rw [h0] at hj; cases hj
    · obtain ⟨hun, o, ho, hall⟩ := mem_ready.1 hi
      have hin : i < n := by
        rcases Nat.lt_or_ge i n with h | h
        · exact h
        · rcases hsc with hsc | ⟨hs, hc⟩
          · have := (Array.getElem?_eq_some_iff.1 ho).1; omega
          · have hlt := (Array.getElem?_eq_some_iff.1 ho).1
            exact absurd hi (tail_waits hs hc (by omega) inv _ i0 rfl hi0 hd0 i h)
      have hol : l[i]? = some o := by simpa using ho
      have hS := hstep i o hin hol x w hb <| needsB_of _ fun e he1 he2 hcn => by
        have hd := hall e (by simpa using he1) he2
        refine hf e.on ?_ hd fun c hcc => ?_
        · rcases Nat.lt_or_ge e.on n with h | h
          · exact h
          · rcases Nat.lt_or_ge e.on l.toArray.size with h' | h'
            · have := inv.tail e.on h h'
              rw [getD_both this] at hd; cases hd
            · rw [Array.getD_eq_getD_getElem?, Array.getElem?_eq_none (by rw [inv.size]; exact h')] at hd; cases hd
        · rcases hcn with h | h
          · rw [h] at hcc; cases hcc
          · rw [h] at hcc; cases hcc; exact getD_both hun
      have hot : (l.take n)[i]? = some o := by rw [List.getElem?_take_of_lt hin]; exact hol
      obtain ⟨z1, z2⟩ := putFrom_size (l.take n) 0 a0 x
      refine wpOp_of_fin1 ho (fun a' w' hp h => ?_) hS
      rw [← z2] at h
      obtain ⟨v, rfl, hφ, hbw⟩ := h.puts hp fun d hd => by
        have := List.all_eq_true.1 hsz o (List.mem_of_getElem? hot)
        rw [hd] at this
        rw [z1]
        simpa using this
      have hbw0 : Below w0.heap.size w w' := by
        by_cases hbi : big i = true
        · rw [if_pos hbi] at hbw; exact hbw
        · rw [if_neg hbi] at hbw; exact hbw.mono hb.size
      rw [putFrom_upd (l.take n) 0 i a0 x o v (by simpa using hdst) hot, Nat.zero_add]
      refine ih _ _ w' (inv.set hi hin) (by have := undone_set done i hun n hin; omega) (hb.trans hbw0) fun j hj hd hcs => ?_
      by_cases hji : j = i
      · subst hji
        simpa [upd] using hφ
      · rw [getD_set_ne false (Ne.symm hji)] at hd
        have hci : cons j ≠ some i := fun hc => by
          have h1 := hcs i hc
          have hlt : i < done.size := by rw [inv.size]; omega
          simp [hlt] at h1
        have hold := hf j hj hd fun c hc => by
          have h1 := hcs c hc
          have hne : i ≠ c := fun e => hci (by rw [e]; exact hc)
          rwa [getD_set_ne false hne] at h1
        have hnew : Φ j (x j) w' := by
          by_cases hbi : big i = true
          · exact hbig i j (x j) w w' hbi hci hji hj hold hbw0 hbw0.size
          · rw [if_neg hbi] at hbw; exact hst j (x j) w w' hold hbw
        simpa [upd, hji] using hnew

theorem wp_region_factsB {id : Nat} {Q : Exit → Act → World → Prop} {a : Act} {w : World} {l : List Oper} (n : Nat) (cons : Nat → Option Nat) (big : Nat → Bool) (Φ : Nat → Value → World → Prop) (hm : P.follows .mixedOrders = true) (hB : factsB l.toArray n = true)
    (hsz : (l.take n).all (fun o => match o.dst with | some d => decide (d < a.tmps.size) | none => true) = true)
    (hst : ∀ i v w w', Φ i v w → Below w.heap.size w w' → Φ i v w')
    (hbig : ∀ b j v w1 w', big b = true → cons j ≠ some b → j ≠ b → j < n → Φ j v w1 → Below w.heap.size w1 w' → w1.heap.size ≤ w'.heap.size → Φ j v w')
    (hstep : ∀ i o, i < n → l[i]? = some o → ∀ (x : Nat → Value) (w' : World), Below w.heap.size w w' → NeedsB .any (fun j => Φ j (x j) w') cons i o.after.toList →
      wpList P l.toArray (Fin1 (Said o.dst a.defers fun v w'' => Φ i v w'' ∧ Below (if big i then w.heap.size else w'.heap.size) w' w'')) [o] (putFrom 0 (l.take n) a x) w')
    (hend : ∀ (x : Nat → Value) (w' : World), Below w.heap.size w w' → (∀ j, j < n → (∀ c, cons j = some c → n ≤ c) → Φ j (x j) w') → wpList P l.toArray Q (l.drop n) (putFrom 0 (l.take n) a x) w') : (Code.region id l.toArray true).wp P Q a w := by
  have hB' := hB
  simp only [factsB, Bool.and_eq_true, Bool.or_eq_true, decide_eq_true_eq] at hB'
  obtain ⟨⟨⟨⟨hn, hsc⟩, hback⟩, hseq⟩, hdst⟩ := hB'
  refine wp_region_any hm ?_
  have hu : ∀ k, k ≤ l.toArray.size → undone (Array.replicate l.toArray.size false) k = k := by
    intro k
    induction k with
    | zero => intro _; rfl
    | succ k ih =>
      intro hk
      rw [undone, ih (by omega), getD_in (by simp at hk ⊢; omega) (getD_replicate_false _ _)]; simp
  have inv0 : HeadInv .any l.toArray n (Array.replicate l.toArray.size false) :=
    ⟨by simp, fun j oj _ hl => (by rw [getD_replicate_false] at hl; cases hl), fun t _ ht => getD_in (by simpa using ht) (getD_replicate_false _ _)⟩
  have H := wpAny_of_factsB (a0 := a) (w0 := w) (Q := Q) cons big Φ hB hsz hst hbig hstep hend n (Array.replicate l.toArray.size false)
    (fun j => match (l.take n)[j]? with | some o => (match o.dst with | some d => a.tmps.getD d undef | none => undef) | none => undef) { w with drawn := w.drawn + 1 } inv0 (hu n hn) ⟨rfl, rfl, rfl, Nat.le_refl _, fun _ _ => rfl⟩
    (fun j _ hl => by rw [getD_replicate_false] at hl; cases hl)
  rw [putFrom_start (l.take n) 0 a _ fun i o d hi hd => by rw [Nat.zero_add]; simp only [hi, hd], show n + (l.toArray.size - n) = l.toArray.size by omega] at H
  exact H
end

end Go.Proofs.Ytbfgkcgnhgfkmaa

namespace Go.Proofs.Ytbfgkcgnhgfkmaa
open Go Go.RowKit
section
variable {P : Program} {md : Region.Mode}

/-- one operation more is done -/
def mark (d : Nat → Bool) (i : Nat) : Nat → Bool := fun j => if j = i then true else d j
theorem getD_mark (done : Array Bool) (i : Nat) (hi : i < done.size) (j : Nat) : (done.setIfInBounds i true).getD j false = mark (fun j => done.getD j false) i j := by
  unfold mark
  by_cases e : j = i
  · subst e; simp [hi]
  · rw [if_neg e]; simp only [Array.getD_eq_getD_getElem?]; rw [Array.getElem?_setIfInBounds_ne (Ne.symm e)]
/-- what is done has what it waits for done -/
def Closed (l : List Oper) (d : Nat → Bool) : Prop := ∀ j oj, l[j]? = some oj → d j = true → ∀ e ∈ oj.after, Region.binds .any e = true → d e.on = true
theorem wpAny_of_factsC {l : List Oper} {n : Nat} {a0 : Act} {Q : Exit → Act → World → Prop} (cons : Nat → Option Nat) (big : Nat → Bool) (Φ : Nat → Value → World → Prop) (C : (Nat → Bool) → World → Prop) (G : World → World → Prop) (hB : factsB l.toArray n = true)
    (hsz : (l.take n).all (fun o => match o.dst with | some d => decide (d < a0.tmps.size) | none => true) = true)
    (hst : ∀ i v w w', Φ i v w → Below w.heap.size w w' → Φ i v w')
    (hC : ∀ d i w w', C d w → big i = false → d i = false → Below w.heap.size w w' → C (mark d i) w') (hGC : ∀ d i w w', C d w → big i = true → d i = false → G w w' → C (mark d i) w')
    (hbig : ∀ b j v w w', big b = true → cons j ≠ some b → j ≠ b → j < n → Φ j v w → G w w' → Φ j v w')
    (hstep : ∀ i o, i < n → l[i]? = some o → ∀ (d : Nat → Bool) (x : Nat → Value) (w : World), Closed l d → d i = false → C d w → NeedsB .any (fun j => Φ j (x j) w) cons i o.after.toList →
      wpList P l.toArray (Fin1 (Said o.dst a0.defers fun v w' => Φ i v w' ∧ (if big i = true then G w w' else Below w.heap.size w w'))) [o] (putFrom 0 (l.take n) a0 x) w)
    (hend : ∀ (d : Nat → Bool) (x : Nat → Value) (w : World), C d w → (∀ j, j < n → (∀ c, cons j = some c → n ≤ c) → Φ j (x j) w) → wpList P l.toArray Q (l.drop n) (putFrom 0 (l.take n) a0 x) w) :
    ∀ (f : Nat) (done : Array Bool) (x : Nat → Value) (w : World), HeadInv .any l.toArray n done → undone done n = f → C (fun j => done.getD j false) w → (∀ j, j < n → done.getD j false = true → (∀ c, cons j = some c → done.getD c false = false) → Φ j (x j) w) →
      wpAny P .any l.toArray Q (f + (l.toArray.size - n)) done (putFrom 0 (l.take n) a0 x) w := by
  simp only [factsB, Bool.and_eq_true, Bool.or_eq_true, decide_eq_true_eq] at hB
  obtain ⟨⟨⟨⟨hn, hsc⟩, hback⟩, hseq⟩, hdst⟩ := hB
  intro f
  induction f with
  | zero =>
    intro done x w inv hu hb hf
    have hall := undone_zero hu
    have hD : done = Array.replicate n true ++ Array.replicate (l.toArray.size - n) false := by
      apply Array.ext
      · rw [inv.size]; simp; simp at hn; omega
      · intro j h1 h2
        rcases Nat.lt_or_ge j n with h | h
        · have := hall j h
          rw [Array.getElem_append_left (by simpa using h), Array.getElem_replicate]
          simpa [Array.getD_eq_getD_getElem?, h1] using this
        · have := inv.tail j h (by rw [← inv.size]; exact h1)
          rw [Array.getElem_append_right (by simpa using h), Array.getElem_replicate]
          simpa [Array.getD_eq_getD_getElem?, h1] using this
    have hE := hend _ x w hb fun j hj hc => hf j hj (by
      rw [hD, Array.getD_eq_getD_getElem?, Array.getElem?_append_left (by simpa using hj)]; simp [hj]) fun c hcc => by
        have hnc := hc c hcc
        rcases Nat.lt_or_ge c l.toArray.size with q | q
        · exact getD_both (inv.tail c hnc q)
        · rw [Array.getD_eq_getD_getElem?, Array.getElem?_eq_none (by rw [inv.size]; exact q)]; rfl
    rw [Nat.zero_add, show l.toArray.size - n = (l.drop n).length by simp]
    refine wpAny_of_seq (md := .any) (l.drop n) n done _ w (fun j => by simp [List.getElem?_drop]) ?_ hE
    rw [hD, show (l.drop n).length = l.toArray.size - n by simp]; exact hseq
  | succ f ih =>
    intro done x w inv hu hb hf
    obtain ⟨i0, hi0, hd0⟩ := undone_pos (done := done) (k := n) (by omega)
    rw [show f + 1 + (l.toArray.size - n) = (f + (l.toArray.size - n)) + 1 by omega]
    refine ⟨fun h0 => ?_, fun i hi => ?_⟩
    · obtain ⟨j, hj⟩ := ready_some (md := .any) hback inv.size i0 (by omega) hd0
      rw [h0] at hj; cases hj
    · obtain ⟨hun, o, ho, hall⟩ := mem_ready.1 hi
      have hin : i < n := by
        rcases Nat.lt_or_ge i n with h | h
        · exact h
        · rcases hsc with hsc | ⟨hs, hc⟩
          · have := (Array.getElem?_eq_some_iff.1 ho).1; omega
          · have hlt := (Array.getElem?_eq_some_iff.1 ho).1
            exact absurd hi (tail_waits hs hc (by omega) inv _ i0 rfl hi0 hd0 i h)
      have hol : l[i]? = some o := by simpa using ho
      have hS := hstep i o hin hol (fun j => done.getD j false) x w (fun j oj hj hd e he hbd => inv.closed j oj (by simpa using hj) hd e he hbd) (getD_both hun) hb <| needsB_of _ fun e he1 he2 hcn => by
        have hd := hall e (by simpa using he1) he2
        refine hf e.on ?_ hd fun c hcc => ?_
        · rcases Nat.lt_or_ge e.on n with h | h
          · exact h
          · rcases Nat.lt_or_ge e.on l.toArray.size with h' | h'
            · have := inv.tail e.on h h'
              rw [getD_both this] at hd; cases hd
            · rw [Array.getD_eq_getD_getElem?, Array.getElem?_eq_none (by rw [inv.size]; exact h')] at hd; cases hd
        · rcases hcn with h | h
          · rw [h] at hcc; cases hcc
          · rw [h] at hcc; cases hcc; exact getD_both hun
      have hot : (l.take n)[i]? = some o := by rw [List.getElem?_take_of_lt hin]; exact hol
      obtain ⟨z1, z2⟩ := putFrom_size (l.take n) 0 a0 x
      refine wpOp_of_fin1 ho (fun a' w' hp h => ?_) hS
      rw [← z2] at h
      obtain ⟨v, rfl, hφ, hbw⟩ := h.puts hp fun d hd => by
        have := List.all_eq_true.1 hsz o (List.mem_of_getElem? hot)
        rw [hd] at this
        rw [z1]
        simpa using this
      have hbw0 : C (fun j => (done.setIfInBounds i true).getD j false) w' := by
        rw [show (fun j => (done.setIfInBounds i true).getD j false) = mark (fun j => done.getD j false) i from funext fun j => getD_mark done i (by rw [inv.size]; omega) j]
        by_cases hbi : big i = true
        · rw [if_pos hbi] at hbw; exact hGC _ i w w' hb hbi (getD_both hun) hbw
        · rw [if_neg hbi] at hbw; exact hC _ i w w' hb (by simpa using hbi) (getD_both hun) hbw
      rw [putFrom_upd (l.take n) 0 i a0 x o v (by simpa using hdst) hot, Nat.zero_add]
      refine ih _ _ w' (inv.set hi hin) (by have := undone_set done i hun n hin; omega) hbw0 fun j hj hd hcs => ?_
      by_cases hji : j = i
      · subst hji
        simpa [upd] using hφ
      · rw [getD_set_ne false (Ne.symm hji)] at hd
        have hci : cons j ≠ some i := fun hc => by
          have h1 := hcs i hc
          have hlt : i < done.size := by rw [inv.size]; omega
          simp [hlt] at h1
        have hold := hf j hj hd fun c hc => by
          have h1 := hcs c hc
          have hne : i ≠ c := fun e => hci (by rw [e]; exact hc)
          rwa [getD_set_ne false hne] at h1
        have hnew : Φ j (x j) w' := by
          by_cases hbi : big i = true
          · rw [if_pos hbi] at hbw; exact hbig i j (x j) w w' hbi hci hji hj hold hbw
          · rw [if_neg hbi] at hbw; exact hst j (x j) w w' hold hbw
        simpa [upd, hji] using hnew

theorem wp_region_factsC {id : Nat} {Q : Exit → Act → World → Prop} {a : Act} {w : World} {l : List Oper} (n : Nat) (cons : Nat → Option Nat) (big : Nat → Bool) (Φ : Nat → Value → World → Prop) (C : (Nat → Bool) → World → Prop) (G : World → World → Prop) (hC0 : C (fun _ => false) { w with drawn := w.drawn + 1 }) (hm : P.follows .mixedOrders = true) (hB : factsB l.toArray n = true)
    (hsz : (l.take n).all (fun o => match o.dst with | some d => decide (d < a.tmps.size) | none => true) = true)
    (hst : ∀ i v w w', Φ i v w → Below w.heap.size w w' → Φ i v w')
    (hC : ∀ d i w w', C d w → big i = false → d i = false → Below w.heap.size w w' → C (mark d i) w') (hGC : ∀ d i w w', C d w → big i = true → d i = false → G w w' → C (mark d i) w')
    (hbig : ∀ b j v w1 w', big b = true → cons j ≠ some b → j ≠ b → j < n → Φ j v w1 → G w1 w' → Φ j v w')
    (hstep : ∀ i o, i < n → l[i]? = some o → ∀ (d : Nat → Bool) (x : Nat → Value) (w' : World), Closed l d → d i = false → C d w' → NeedsB .any (fun j => Φ j (x j) w') cons i o.after.toList →
      wpList P l.toArray (Fin1 (Said o.dst a.defers fun v w'' => Φ i v w'' ∧ (if big i = true then G w' w'' else Below w'.heap.size w' w''))) [o] (putFrom 0 (l.take n) a x) w')
    (hend : ∀ (d : Nat → Bool) (x : Nat → Value) (w' : World), C d w' → (∀ j, j < n → (∀ c, cons j = some c → n ≤ c) → Φ j (x j) w') → wpList P l.toArray Q (l.drop n) (putFrom 0 (l.take n) a x) w') : (Code.region id l.toArray true).wp P Q a w := by
  have hB' := hB
  simp only [factsB, Bool.and_eq_true, Bool.or_eq_true, decide_eq_true_eq] at hB'
  obtain ⟨⟨⟨⟨hn, hsc⟩, hback⟩, hseq⟩, hdst⟩ := hB'
  refine wp_region_any hm ?_
  have hu : ∀ k, k ≤ l.toArray.size → undone (Array.replicate l.toArray.size false) k = k := by
    intro k
    induction k with
    | zero => intro _; rfl
    | succ k ih =>
      intro hk
      rw [undone, ih (by omega), getD_in (by simp at hk ⊢; omega) (getD_replicate_false _ _)]; simp
  have inv0 : HeadInv .any l.toArray n (Array.replicate l.toArray.size false) :=
    ⟨by simp, fun j oj _ hl => (by rw [getD_replicate_false] at hl; cases hl), fun t _ ht => getD_in (by simpa using ht) (getD_replicate_false _ _)⟩
  have H := wpAny_of_factsC (a0 := a) (Q := Q) cons big Φ C G hB hsz hst hC hGC hbig hstep hend n (Array.replicate l.toArray.size false)
    (fun j => match (l.take n)[j]? with | some o => (match o.dst with | some d => a.tmps.getD d undef | none => undef) | none => undef) { w with drawn := w.drawn + 1 } inv0 (hu n hn) (by rw [show (fun j => (Array.replicate l.toArray.size false).getD j false) = fun _ => false from funext fun j => getD_replicate_false _ _]; exact hC0)
    (fun j _ hl => by rw [getD_replicate_false] at hl; cases hl)
  rw [putFrom_start (l.take n) 0 a _ fun i o d hi hd => by rw [Nat.zero_add]; simp only [hi, hd], show n + (l.toArray.size - n) = l.toArray.size by omega] at H
  exact H
end

end Go.Proofs.Ytbfgkcgnhgfkmaa

namespace Go.Proofs.Ytbfgkcgnhgfkmaa
open Go Go.RowKit
section
variable {P : Program} {md : Region.Mode}

theorem wpAny_of_factsD {l : List Oper} {n : Nat} {a0 : Act} {Q : Exit → Act → World → Prop} (cons : Nat → Option Nat) (big : Nat → Bool) (Φ : Nat → (Nat → Value) → World → Prop) (C : (Nat → Bool) → World → Prop) (G : Nat → World → World → Prop) (hB : factsB l.toArray n = true)
    (hsz : (l.take n).all (fun o => match o.dst with | some d => decide (d < a0.tmps.size) | none => true) = true)
    (hloc : ∀ j oj (x y : Nat → Value) w, l[j]? = some oj → j < n → x j = y j → (∀ e ∈ oj.after.toList, Region.binds .any e = true → x e.on = y e.on) → Φ j x w → Φ j y w) (hst : ∀ i x w w', Φ i x w → Below w.heap.size w w' → Φ i x w')
    (hC : ∀ d i w w', C d w → big i = false → d i = false → Below w.heap.size w w' → C (mark d i) w') (hGC : ∀ d i oi w w', l[i]? = some oi → (∀ e ∈ oi.after.toList, Region.binds .any e = true → d e.on = true) → C d w → big i = true → d i = false → G i w w' → C (mark d i) w')
    (hbig : ∀ b ob j x (d : Nat → Bool) w w', big b = true → l[b]? = some ob → (∀ e ∈ ob.after.toList, Region.binds .any e = true → d e.on = true) → (∀ c, cons j = some c → mark d b c = false) → j ≠ b → j < n → Φ j x w → G b w w' → Φ j x w')
    (hstep : ∀ i o, i < n → l[i]? = some o → ∀ (d : Nat → Bool) (x : Nat → Value) (w : World), Closed l d → d i = false → (∀ e ∈ o.after.toList, Region.binds .any e = true → d e.on = true) → C d w → NeedsB .any (fun j => Φ j x w) cons i o.after.toList →
      wpList P l.toArray (Fin1 (Said o.dst a0.defers fun v w' => Φ i (upd x i v) w' ∧ (if big i = true then G i w w' else Below w.heap.size w w'))) [o] (putFrom 0 (l.take n) a0 x) w)
    (hend : ∀ (d : Nat → Bool) (x : Nat → Value) (w : World), (∀ j, j < n → d j = true) → C d w → (∀ j, j < n → (∀ c, cons j = some c → n ≤ c) → Φ j x w) → wpList P l.toArray Q (l.drop n) (putFrom 0 (l.take n) a0 x) w) :
    ∀ (f : Nat) (done : Array Bool) (x : Nat → Value) (w : World), HeadInv .any l.toArray n done → undone done n = f → C (fun j => done.getD j false) w → (∀ j, j < n → done.getD j false = true → (∀ c, cons j = some c → done.getD c false = false) → Φ j x w) →
      wpAny P .any l.toArray Q (f + (l.toArray.size - n)) done (putFrom 0 (l.take n) a0 x) w := by
  simp only [factsB, Bool.and_eq_true, Bool.or_eq_true, decide_eq_true_eq] at hB
  obtain ⟨⟨⟨⟨hn, hsc⟩, hback⟩, hseq⟩, hdst⟩ := hB
  intro f
  induction f with
  | zero =>
    intro done x w inv hu hb hf
    have hall := undone_zero hu
    have hD : done = Array.replicate n true ++ Array.replicate (l.toArray.size - n) false := by
      apply Array.ext
      · rw [inv.size]; simp; simp at hn; omega
      · intro j h1 h2
        rcases Nat.lt_or_ge j n with h | h
        · have := hall j h
          rw [Array.getElem_append_left (by simpa using h), Array.getElem_replicate]
          simpa [Array.getD_eq_getD_getElem?, h1] using this
        · have := inv.tail j h (by rw [← inv.size]; exact h1)
          rw [Array.getElem_append_right (by simpa using h), Array.getElem_replicate]
          simpa [Array.getD_eq_getD_getElem?, h1] using this
    have hE := hend (fun j => done.getD j false) x w (fun j hj => by have h1 := hall j hj; have h2 : j < done.size := (by rw [inv.size]; simp at hn ⊢; omega); simpa [Array.getD_eq_getD_getElem?, h2] using h1) hb fun j hj hc => hf j hj (by
      rw [hD, Array.getD_eq_getD_getElem?, Array.getElem?_append_left (by simpa using hj)]; simp [hj]) fun c hcc => by
        have hnc := hc c hcc
        rcases Nat.lt_or_ge c l.toArray.size with q | q
        · exact getD_both (inv.tail c hnc q)
        · rw [Array.getD_eq_getD_getElem?, Array.getElem?_eq_none (by rw [inv.size]; exact q)]; rfl
    rw [Nat.zero_add, show l.toArray.size - n = (l.drop n).length by simp]
    refine wpAny_of_seq (md := .any) (l.drop n) n done _ w (fun j => by simp [List.getElem?_drop]) ?_ hE
    rw [hD, show (l.drop n).length = l.toArray.size - n by simp]; exact hseq
  | succ f ih =>
    intro done x w inv hu hb hf
    obtain ⟨i0, hi0, hd0⟩ := undone_pos (done := done) (k := n) (by omega)
    rw [show f + 1 + (l.toArray.size - n) = (f + (l.toArray.size - n)) + 1 by omega]
    refine ⟨fun h0 => ?_, fun i hi => ?_⟩
    · obtain ⟨j, hj⟩ := ready_some (md := .any) hback inv.size i0 (by omega) hd0
      rw [h0] at hj; cases hj
    · obtain ⟨hun, o, ho, hall⟩ := mem_ready.1 hi
      have hin : i < n := by
        rcases Nat.lt_or_ge i n with h | h
        · exact h
        · rcases hsc with hsc | ⟨hs, hc⟩
          · have := (Array.getElem?_eq_some_iff.1 ho).1; omega
          · have hlt := (Array.getElem?_eq_some_iff.1 ho).1
            exact absurd hi (tail_waits hs hc (by omega) inv _ i0 rfl hi0 hd0 i h)
      have hol : l[i]? = some o := by simpa using ho
      have hS := hstep i o hin hol (fun j => done.getD j false) x w (fun j oj hj hd e he hbd => inv.closed j oj (by simpa using hj) hd e he hbd) (getD_both hun) (fun e he hbd => hall e (by simpa using he) hbd) hb <| needsB_of _ fun e he1 he2 hcn => by
        have hd := hall e (by simpa using he1) he2
        refine hf e.on ?_ hd fun c hcc => ?_
        · rcases Nat.lt_or_ge e.on n with h | h
          · exact h
          · rcases Nat.lt_or_ge e.on l.toArray.size with h' | h'
            · have := inv.tail e.on h h'
              rw [getD_both this] at hd; cases hd
            · rw [Array.getD_eq_getD_getElem?, Array.getElem?_eq_none (by rw [inv.size]; exact h')] at hd; cases hd
        · rcases hcn with h | h
          · rw [h] at hcc; cases hcc
          · rw [h] at hcc; cases hcc; exact getD_both hun
      have hot : (l.take n)[i]? = some o := by rw [List.getElem?_take_of_lt hin]; exact hol
      obtain ⟨z1, z2⟩ := putFrom_size (l.take n) 0 a0 x
      refine wpOp_of_fin1 ho (fun a' w' hp h => ?_) hS
      rw [← z2] at h
      obtain ⟨v, rfl, hφ, hbw⟩ := h.puts hp fun d hd => by
        have := List.all_eq_true.1 hsz o (List.mem_of_getElem? hot)
        rw [hd] at this
        rw [z1]
        simpa using this
      have hbw0 : C (fun j => (done.setIfInBounds i true).getD j false) w' := by
        rw [show (fun j => (done.setIfInBounds i true).getD j false) = mark (fun j => done.getD j false) i from funext fun j => getD_mark done i (by rw [inv.size]; omega) j]
        by_cases hbi : big i = true
        · rw [if_pos hbi] at hbw; exact hGC _ i o w w' hol (fun e he hbd => hall e (by simpa using he) hbd) hb hbi (getD_both hun) hbw
        · rw [if_neg hbi] at hbw; exact hC _ i w w' hb (by simpa using hbi) (getD_both hun) hbw
      rw [putFrom_upd (l.take n) 0 i a0 x o v (by simpa using hdst) hot, Nat.zero_add]
      refine ih _ _ w' (inv.set hi hin) (by have := undone_set done i hun n hin; omega) hbw0 fun j hj hd hcs => ?_
      by_cases hji : j = i
      · subst hji
        exact hφ
      · rw [getD_set_ne false (Ne.symm hji)] at hd
        have hci : cons j ≠ some i := fun hc => by
          have h1 := hcs i hc
          have hlt : i < done.size := by rw [inv.size]; omega
          simp [hlt] at h1
        have hold := hf j hj hd fun c hc => by
          have h1 := hcs c hc
          have hne : i ≠ c := fun e => hci (by rw [e]; exact hc)
          rwa [getD_set_ne false hne] at h1
        have hnew : Φ j x w' := by
          by_cases hbi : big i = true
          · rw [if_pos hbi] at hbw; exact hbig i o j x (fun k => done.getD k false) w w' hbi hol (fun e he hbd => hall e (by simpa using he) hbd) (fun c hc => by
              have h1 := hcs c hc
              have hsz2 : i < done.size := by rw [inv.size]; omega
              rw [getD_mark done i hsz2 c] at h1; exact h1) hji hj hold hbw
          · rw [if_neg hbi] at hbw; exact hst j x w w' hold hbw
        obtain ⟨oj, hoj⟩ : ∃ oj, l[j]? = some oj := ⟨l[j]'(by simp at hn; omega), List.getElem?_eq_getElem _⟩
        refine hloc j oj x (upd x i v) w' hoj hj (by simp [upd, hji]) (fun e he hbd => ?_) hnew
        have hde := inv.closed j oj (by simpa using hoj) hd e (by simpa using he) hbd
        have hei : e.on ≠ i := fun q => by rw [q, getD_both hun] at hde; cases hde
        simp [upd, hei]

theorem wp_region_factsD {id : Nat} {Q : Exit → Act → World → Prop} {a : Act} {w : World} {l : List Oper} (n : Nat) (cons : Nat → Option Nat) (big : Nat → Bool) (Φ : Nat → (Nat → Value) → World → Prop) (C : (Nat → Bool) → World → Prop) (G : Nat → World → World → Prop) (hC0 : C (fun _ => false) { w with drawn := w.drawn + 1 }) (hm : P.follows .mixedOrders = true) (hB : factsB l.toArray n = true)
    (hsz : (l.take n).all (fun o => match o.dst with | some d => decide (d < a.tmps.size) | none => true) = true)
    (hloc : ∀ j oj (x y : Nat → Value) w, l[j]? = some oj → j < n → x j = y j → (∀ e ∈ oj.after.toList, Region.binds .any e = true → x e.on = y e.on) → Φ j x w → Φ j y w) (hst : ∀ i x w w', Φ i x w → Below w.heap.size w w' → Φ i x w')
    (hC : ∀ d i w w', C d w → big i = false → d i = false → Below w.heap.size w w' → C (mark d i) w') (hGC : ∀ d i oi w w', l[i]? = some oi → (∀ e ∈ oi.after.toList, Region.binds .any e = true → d e.on = true) → C d w → big i = true → d i = false → G i w w' → C (mark d i) w')
    (hbig : ∀ b ob j x (d : Nat → Bool) w1 w', big b = true → l[b]? = some ob → (∀ e ∈ ob.after.toList, Region.binds .any e = true → d e.on = true) → (∀ c, cons j = some c → mark d b c = false) → j ≠ b → j < n → Φ j x w1 → G b w1 w' → Φ j x w')
    (hstep : ∀ i o, i < n → l[i]? = some o → ∀ (d : Nat → Bool) (x : Nat → Value) (w' : World), Closed l d → d i = false → (∀ e ∈ o.after.toList, Region.binds .any e = true → d e.on = true) → C d w' → NeedsB .any (fun j => Φ j x w') cons i o.after.toList →
      wpList P l.toArray (Fin1 (Said o.dst a.defers fun v w'' => Φ i (upd x i v) w'' ∧ (if big i = true then G i w' w'' else Below w'.heap.size w' w''))) [o] (putFrom 0 (l.take n) a x) w')
    (hend : ∀ (d : Nat → Bool) (x : Nat → Value) (w' : World), (∀ j, j < n → d j = true) → C d w' → (∀ j, j < n → (∀ c, cons j = some c → n ≤ c) → Φ j x w') → wpList P l.toArray Q (l.drop n) (putFrom 0 (l.take n) a x) w') : (Code.region id l.toArray true).wp P Q a w := by
  have hB' := hB
  simp only [factsB, Bool.and_eq_true, Bool.or_eq_true, decide_eq_true_eq] at hB'
  obtain ⟨⟨⟨⟨hn, hsc⟩, hback⟩, hseq⟩, hdst⟩ := hB'
  refine wp_region_any hm ?_
  have hu : ∀ k, k ≤ l.toArray.size → undone (Array.replicate l.toArray.size false) k = k := by
    intro k
    induction k with
    | zero => intro _; rfl
    | succ k ih =>
      intro hk
      rw [undone, ih (by omega), getD_in (by simp at hk ⊢; omega) (getD_replicate_false _ _)]; simp
  have inv0 : HeadInv .any l.toArray n (Array.replicate l.toArray.size false) :=
    ⟨by simp, fun j oj _ hl => (by rw [getD_replicate_false] at hl; cases hl), fun t _ ht => getD_in (by simpa using ht) (getD_replicate_false _ _)⟩
  have H := wpAny_of_factsD (a0 := a) (Q := Q) cons big Φ C G hB hsz hloc hst hC hGC hbig hstep hend n (Array.replicate l.toArray.size false)
    (fun j => match (l.take n)[j]? with | some o => (match o.dst with | some d => a.tmps.getD d undef | none => undef) | none => undef) { w with drawn := w.drawn + 1 } inv0 (hu n hn) (by rw [show (fun j => (Array.replicate l.toArray.size false).getD j false) = fun _ => false from funext fun j => getD_replicate_false _ _]; exact hC0)
    (fun j _ hl => by rw [getD_replicate_false] at hl; cases hl)
  rw [putFrom_start (l.take n) 0 a _ fun i o d hi hd => by rw [Nat.zero_add]; simp only [hi, hd], show n + (l.toArray.size - n) = l.toArray.size by omega] at H
  exact H
/-- the same where no operation writes to what was there -/
theorem wp_region_factsE {id : Nat} {Q : Exit → Act → World → Prop} {a : Act} {w : World} {l : List Oper} (n : Nat) (Φ : Nat → (Nat → Value) → World → Prop) (hm : P.follows .mixedOrders = true) (hB : factsB l.toArray n = true)
    (hsz : (l.take n).all (fun o => match o.dst with | some d => decide (d < a.tmps.size) | none => true) = true)
    (hloc : ∀ j oj (x y : Nat → Value) w, l[j]? = some oj → j < n → x j = y j → (∀ e ∈ oj.after.toList, Region.binds .any e = true → x e.on = y e.on) → Φ j x w → Φ j y w)
    (hst : ∀ i x w w', Φ i x w → Below w.heap.size w w' → Φ i x w')
    (hstep : ∀ i o, i < n → l[i]? = some o → ∀ (x : Nat → Value) (w' : World), Below w.heap.size w w' → NeedsB .any (fun j => Φ j x w') (fun _ => none) i o.after.toList →
      wpList P l.toArray (Fin1 (Said o.dst a.defers fun v w'' => Φ i (upd x i v) w'' ∧ Below w'.heap.size w' w'')) [o] (putFrom 0 (l.take n) a x) w')
    (hend : ∀ (x : Nat → Value) (w' : World), Below w.heap.size w w' → (∀ j, j < n → Φ j x w') → wpList P l.toArray Q (l.drop n) (putFrom 0 (l.take n) a x) w') : (Code.region id l.toArray true).wp P Q a w :=
  wp_region_factsD n (fun _ => none) (fun _ => false) Φ (fun _ w' => Below w.heap.size w w') (fun _ _ _ => True) ⟨rfl, rfl, rfl, Nat.le_refl _, fun _ _ => rfl⟩ hm hB hsz hloc hst
    (fun d i w1 w' h _ _ hb => h.trans (hb.mono h.size)) (fun d i oi w1 w' _ _ h hb => by cases hb) (fun b ob j x d w1 w' hb => by cases hb)
    (fun i o hi ho d x w' _ _ _ hC hN => by simpa using hstep i o hi ho x w' hC hN) (fun d x w' _ hC hF => hend x w' hC fun j hj => hF j hj fun c hc => by cases hc)
/-- facts of values alone; big operations write to what the region made -/
theorem wp_region_factsV {id : Nat} {Q : Exit → Act → World → Prop} {a : Act} {w : World} {l : List Oper} (n : Nat) (cons : Nat → Option Nat) (big : Nat → Bool) (Φ : Nat → Value → World → Prop) (hm : P.follows .mixedOrders = true) (hB : factsB l.toArray n = true)
    (hsz : (l.take n).all (fun o => match o.dst with | some d => decide (d < a.tmps.size) | none => true) = true)
    (hst : ∀ i v w w', Φ i v w → Below w.heap.size w w' → Φ i v w')
    (hbig : ∀ b ob j v (d : Nat → Bool) w1 w', big b = true → l[b]? = some ob → (∀ e ∈ ob.after.toList, Region.binds .any e = true → d e.on = true) → (∀ c, cons j = some c → mark d b c = false) → j ≠ b → j < n → Φ j v w1 → Below w.heap.size w1 w' → Φ j v w')
    (hstep : ∀ i o, i < n → l[i]? = some o → ∀ (x : Nat → Value) (w' : World), Below w.heap.size w w' → NeedsB .any (fun j => Φ j (x j) w') cons i o.after.toList →
      wpList P l.toArray (Fin1 (Said o.dst a.defers fun v w'' => Φ i (upd x i v i) w'' ∧ (if big i = true then Below w.heap.size w' w'' else Below w'.heap.size w' w''))) [o] (putFrom 0 (l.take n) a x) w')
    (hend : ∀ (x : Nat → Value) (w' : World), Below w.heap.size w w' → (∀ j, j < n → (∀ c, cons j = some c → n ≤ c) → Φ j (x j) w') → wpList P l.toArray Q (l.drop n) (putFrom 0 (l.take n) a x) w') : (Code.region id l.toArray true).wp P Q a w :=
  wp_region_factsD n cons big (fun j x w' => Φ j (x j) w') (fun _ w' => Below w.heap.size w w') (fun _ w1 w' => Below w.heap.size w1 w') ⟨rfl, rfl, rfl, Nat.le_refl _, fun _ _ => rfl⟩ hm hB hsz
    (fun j oj x y w _ _ e _ h => by rw [← e]; exact h) (fun i x w w' h hb => hst i (x i) w w' h hb)
    (fun d i w1 w' h _ _ hb => h.trans (hb.mono h.size)) (fun d i oi w1 w' _ _ h _ _ hg => h.trans hg) (fun b ob j x d w1 w' hb hob hd hc hne hj h hg => hbig b ob j (x j) d w1 w' hb hob hd hc hne hj h hg)
    (fun i o hi ho d x w' _ _ _ hC hN => hstep i o hi ho x w' hC hN)
    (fun d x w' _ hC hF => hend x w' hC hF)
end

end Go.Proofs.Ytbfgkcgnhgfkmaa

namespace Go.Proofs.Ytbfgkcgnhgfkmaa
open Go Go.RowKit
section
variable {P : Program}

/-- the spine's operations wait one for the other -/
def spineB (l : List Oper) (n : Nat) : List Nat → Bool
  | [] => true
  | [i] => decide (i < n)
  | i :: j :: r => decide (i < n) && ((match l[j]? with | some o => o.after.toList.any (fun e => Region.binds .any e && e.on == i) | none => false) && spineB l n (j :: r))
theorem spine_lt {l : List Oper} {n : Nat} : ∀ {sp : List Nat}, spineB l n sp = true → ∀ i ∈ sp, i < n
  | [], _, i, hi => by simp at hi
  | [a], h, i, hi => by simp [spineB] at h hi; omega
  | a :: b :: r, h, i, hi => by
    simp only [spineB, Bool.and_eq_true, decide_eq_true_eq] at h
    rcases List.mem_cons.1 hi with rfl | hi
    · exact h.1
    · exact spine_lt h.2.2 i hi
theorem spine_edge {l : List Oper} {n : Nat} : ∀ {sp : List Nat}, spineB l n sp = true → ∀ k i j, sp[k]? = some i → sp[k + 1]? = some j → ∀ o, l[j]? = some o → ∃ e ∈ o.after.toList, Region.binds .any e = true ∧ e.on = i
  | [], _, k, i, j, hi, _, o, _ => by simp at hi
  | [a], h, k, i, j, hi, hj, o, _ => by simp at hj
  | a :: b :: r, h, 0, i, j, hi, hj, o, ho => by
    simp only [spineB, Bool.and_eq_true, decide_eq_true_eq] at h
    simp only [List.getElem?_cons_zero, Option.some.injEq, List.getElem?_cons_succ, Nat.zero_add] at hi hj
    subst hi hj
    have h1 := h.2.1
    rw [ho] at h1
    simp only [List.any_eq_true, Bool.and_eq_true, beq_iff_eq] at h1
    obtain ⟨e, he, hb, hon⟩ := h1
    exact ⟨e, he, hb, hon⟩
  | a :: b :: r, h, k + 1, i, j, hi, hj, o, ho => by
    simp only [spineB, Bool.and_eq_true] at h
    exact spine_edge h.2.2 k i j (by simpa using hi) (by simpa using hj) o ho
theorem nodup_at {sp : List Nat} (hn : sp.Nodup) {j k i : Nat} (hj : sp[j]? = some i) (hk : sp[k]? = some i) : j = k :=
  (List.getElem?_inj (List.getElem?_eq_some_iff.1 hj).1 hn).1 (hj.trans hk.symm)
/-- how much of the spine is done -/
def SpC (sp : List Nat) (I : Nat → World → Prop) (d : Nat → Bool) (w : World) : Prop := ∃ k, (∀ j i, sp[j]? = some i → d i = decide (j < k)) ∧ k ≤ sp.length ∧ I k w
theorem spine_next {l : List Oper} {n : Nat} {sp : List Nat} (hs : spineB l n sp = true) {d : Nat → Bool} {i k j : Nat} {o : Oper} (ho : l[i]? = some o) (hd : d i = false)
    (hrd : ∀ e ∈ o.after.toList, Region.binds .any e = true → d e.on = true) (hj : sp[j]? = some i) (hk : ∀ j i, sp[j]? = some i → d i = decide (j < k)) : j = k := by
  have h1 := hk j i hj
  rw [hd] at h1
  have h2 : k ≤ j := by
    rcases Nat.lt_or_ge j k with q | q
    · rw [decide_eq_true q] at h1; cases h1
    · exact q
  cases j with
  | zero => omega
  | succ j =>
    have hlt : j < sp.length := by have := (List.getElem?_eq_some_iff.1 hj).1; omega
    obtain ⟨e, he, hb, hon⟩ := spine_edge hs j _ i (List.getElem?_eq_getElem hlt) hj o ho
    have h3 := hrd e he hb
    rw [hon, hk j _ (List.getElem?_eq_getElem hlt), decide_eq_true_eq] at h3
    omega
theorem wp_region_spine {id : Nat} {Q : Exit → Act → World → Prop} {a : Act} {w : World} {l : List Oper} (n : Nat) (sp : List Nat) (vals : Nat → Value) (I : Nat → World → Prop) (hm : P.follows .mixedOrders = true) (hB : factsB l.toArray n = true)
    (hsz : (l.take n).all (fun o => match o.dst with | some d => decide (d < a.tmps.size) | none => true) = true) (hsp : spineB l n sp = true) (hnd : sp.Nodup)
    (h0 : I 0 { w with drawn := w.drawn + 1 }) (hI : ∀ k w1 w2, I k w1 → Below w1.heap.size w1 w2 → I k w2)
    (hstep : ∀ i o, i < n → l[i]? = some o → ∀ (x : Nat → Value) (w' : World), (∀ j, sp[j]? = some i → I j w') → (∃ k, I k w') → NeedsB .any (fun j => x j = vals j) (fun _ => none) i o.after.toList →
      wpList P l.toArray (Fin1 (Said o.dst a.defers fun v w'' => upd x i v i = vals i ∧ (if decide (i ∈ sp) = true then ∃ k, sp[k]? = some i ∧ I k w' ∧ I (k + 1) w'' else Below w'.heap.size w' w''))) [o] (putFrom 0 (l.take n) a x) w')
    (hend : ∀ (x : Nat → Value) (w' : World), (∀ j, j < n → x j = vals j) → I sp.length w' → wpList P l.toArray Q (l.drop n) (putFrom 0 (l.take n) a x) w') : (Code.region id l.toArray true).wp P Q a w := by
  refine wp_region_factsD n (fun _ => none) (fun i => decide (i ∈ sp)) (fun j x _ => x j = vals j) (SpC sp I) (fun i w w'' => ∃ k, sp[k]? = some i ∧ I k w ∧ I (k + 1) w'') ⟨0, fun j i _ => by simp, Nat.zero_le _, h0⟩ hm hB hsz
    (fun j oj x y w _ _ e _ h => by rw [← e]; exact h) (fun i x w w' h _ => h) ?_ ?_ (fun b ob j x d w1 w' _ _ _ _ _ _ h _ => h) ?_ ?_
  · rintro d i w1 w2 ⟨k, hk, hkl, hIk⟩ hbig hd hbel
    refine ⟨k, fun j i' hj => ?_, hkl, hI _ _ _ hIk hbel⟩
    have hne : i' ≠ i := fun q => by
      subst q
      have := List.mem_of_getElem? hj
      simp [this] at hbig
    unfold mark
    rw [if_neg hne]
    exact hk j i' hj
  · rintro d i oi w1 w2 hoi hrd ⟨k, hk, hkl, hIk⟩ hbig hd ⟨k', hk', h1, h2⟩
    have e := spine_next hsp hoi hd hrd hk' hk
    subst e
    refine ⟨k' + 1, fun j i' hj => ?_, ?_, h2⟩
    · unfold mark
      by_cases q : i' = i
      · subst q
        have := nodup_at hnd hj hk'
        subst this
        simp
      · rw [if_neg q, hk j i' hj]
        have : j ≠ k' := fun q2 => q (by subst q2; rw [hk'] at hj; exact (Option.some.inj hj).symm)
        congr 1
        apply propext
        omega
    · have := (List.getElem?_eq_some_iff.1 hk').1; omega
  · rintro i o hi ho d x w1 hcl hd hrd ⟨k, hk, hkl, hIk⟩ hN
    exact hstep i o hi ho x w1 (fun j hj => by rw [spine_next hsp ho hd hrd hj hk]; exact hIk) ⟨k, hIk⟩ hN
  · rintro d x w1 hall ⟨k, hk, hkl, hIk⟩ hf
    have : k = sp.length := by
      rcases Nat.lt_or_ge k sp.length with q | q
      · have h1 := hk k _ (List.getElem?_eq_getElem q)
        rw [hall _ (spine_lt hsp _ (List.getElem_mem q))] at h1
        simp at h1
      · omega
    subst this
    exact hend x w1 (fun j hj => hf j hj fun c hc => by cases hc) hIk
end
end Go.Proofs.Ytbfgkcgnhgfkmaa
