/-
  A region that draws its order: every operation by itself, out of the facts that those leave that it waits for. A fact says of an operation's value, in a world, what stays true whatever new memory is made.
-/
import Derived.Test.YtbfgkcgnhgfkmaaGreatTail
namespace Go.Proofs.YtbfgkcgnhgfkmaaGreat
open Go Go.RowKit

/-- the frame with a value in the slot of each listed operation -/
def putFrom : Nat → List Oper → Act → (Nat → Value) → Act
  | _, [], a, _ => a
  | k, o :: l, a, x => putFrom (k + 1) l (a.put o.dst (x k)) x
def upd (x : Nat → Value) (i : Nat) (v : Value) : Nat → Value := fun j => if j = i then v else x j
def dstsB : List Oper → Bool
  | [] => true
  | o :: l => (match o.dst with | none => true | some d => l.all (fun o' => o'.dst != some d)) && dstsB l

theorem put_same (a : Act) (d : Tmp) (u v : Value) : (a.put (some d) u).put (some d) v = a.put (some d) v := by simp [Act.put]
theorem put_comm (a : Act) (d e : Tmp) (u v : Value) (h : d ≠ e) : (a.put (some d) u).put (some e) v = (a.put (some e) v).put (some d) u := by
  simp only [Act.put]; congr 1; exact Array.setIfInBounds_comm _ _ h
theorem putFrom_congr : ∀ (l : List Oper) (k : Nat) (a : Act) (x y : Nat → Value), (∀ j, k ≤ j → x j = y j) → putFrom k l a x = putFrom k l a y
  | [], _, _, _, _, _ => rfl
  | o :: l, k, a, x, y, h => by
    rw [putFrom, putFrom, h k (Nat.le_refl _)]
    exact putFrom_congr l (k + 1) _ x y fun j hj => h j (by omega)
theorem putFrom_late : ∀ (l : List Oper) (k : Nat) (a : Act) (x : Nat → Value) (d : Tmp) (v : Value), l.all (fun o' => o'.dst != some d) = true → (putFrom k l a x).put (some d) v = putFrom k l (a.put (some d) v) x
  | [], _, _, _, _, _, _ => rfl
  | o :: l, k, a, x, d, v, h => by
    simp only [List.all_cons, Bool.and_eq_true, bne_iff_ne, ne_eq] at h
    rw [putFrom, putFrom, putFrom_late l (k + 1) _ x d v (by simpa using h.2)]
    congr 1
    cases hd : o.dst with
    | none => rfl
    | some e => exact put_comm a e d _ _ (fun q => h.1 (by rw [hd, q]))
theorem putFrom_upd : ∀ (l : List Oper) (k i : Nat) (a : Act) (x : Nat → Value) (o : Oper) (v : Value), dstsB l = true → l[i]? = some o → (putFrom k l a x).put o.dst v = putFrom k l a (upd x (k + i) v)
  | [], _, _, _, _, _, _, _, h => by simp at h
  | o' :: l, k, 0, a, x, o, v, hB, h => by
    simp only [List.getElem?_cons_zero, Option.some.injEq] at h
    subst h
    rw [putFrom, putFrom]
    have e1 : upd x (k + 0) v k = v := by simp [upd]
    rw [e1, putFrom_congr l (k + 1) _ (upd x (k + 0) v) x fun j hj => by simp only [upd]; rw [if_neg (by omega)]]
    simp only [dstsB, Bool.and_eq_true] at hB
    cases hd : o'.dst with
    | none => rfl
    | some d =>
      rw [hd] at hB
      rw [putFrom_late l (k + 1) _ x d v hB.1, put_same]
  | o' :: l, k, i + 1, a, x, o, v, hB, h => by
    simp only [List.getElem?_cons_succ] at h
    simp only [dstsB, Bool.and_eq_true] at hB
    rw [putFrom, putFrom, putFrom_upd l (k + 1) i _ x o v hB.2 h, show k + 1 + i = k + (i + 1) by omega]
    have e1 : upd x (k + (i + 1)) v k = x k := by simp only [upd]; rw [if_neg (by omega)]
    rw [e1]
theorem put_self (a : Act) (d : Tmp) : a.put (some d) (a.tmps.getD d undef) = a := by
  obtain ⟨t, df⟩ := a
  simp only [Act.put]
  congr 1
  apply Array.ext
  · simp
  · intro j h1 h2
    by_cases hjd : d = j
    · subst hjd
      simp [h2]
    · rw [Array.getElem_setIfInBounds_ne _ hjd]
theorem putFrom_start : ∀ (l : List Oper) (k : Nat) (a : Act) (x : Nat → Value), (∀ (i : Nat) o d, l[i]? = some o → o.dst = some d → x (k + i) = a.tmps.getD d undef) → putFrom k l a x = a
  | [], _, _, _, _ => rfl
  | o :: l, k, a, x, h => by
    have e : a.put o.dst (x k) = a := by
      cases hd : o.dst with
      | none => rfl
      | some d => rw [show x k = a.tmps.getD d undef from h 0 o d rfl hd]; exact put_self a d
    rw [putFrom, e]
    exact putFrom_start l (k + 1) a x fun i o' d hi hd => by rw [show k + 1 + i = k + (i + 1) by omega]; exact h (i + 1) o' d hi hd

section
variable {P : Program} {ops : Array Oper} {md : Region.Mode}

/-- the end of one operation's walk -/
def Fin1 (K : Act → World → Prop) (e : Exit) (a : Act) (w : World) : Prop := e = .normal ∧ K a w
theorem letsOut_fin1 {K : Act → World → Prop} : ¬ LetsOut (Fin1 K) := fun ⟨_, _, h⟩ => by cases h.1
/-- what a step does to the frame -/
def Puts (o : Oper) (a a' : Act) : Prop := (∃ v, a' = a.put o.dst v) ∨ (∃ d v, a' = ({ a with defers := d :: a.defers } : Act).put o.dst v)
theorem Oper.wp_of_fin1 {o : Oper} {a : Act} {w : World} {K K' : Act → World → Prop} {Q : Exit → Act → World → Prop} (h : ∀ a' w, Puts o a a' → K a' w → K' a' w)
    (hh : o.wp P a w (wpList P ops (Fin1 K) []) (Fin1 K)) : o.wp P a w K' Q := by
  unfold Oper.wp at *
  generalize (execOp a.eval o).run P w = r at *
  cases r with
  | ok n w' =>
    cases n <;> simp only [Oper.upon] at hh ⊢ <;>
      first
        | exact h _ _ (.inl ⟨_, rfl⟩) hh.2
        | exact h _ _ (.inr ⟨_, _, rfl⟩) hh.2
        | exact Calls.mono hh (fun e w'' he => by cases e <;> first | exact h _ _ (.inl ⟨_, rfl⟩) he.2 | (cases he.1; done) | exact absurd he letsOut_fin1)
        | exact Rows.mono hh (fun _ _ he => h _ _ (.inl ⟨_, rfl⟩) he.2)
  | halt x w' =>
    cases x <;> simp only [Oper.upon] at hh ⊢ <;> first | exact hh | (cases hh.1)
theorem wpOp_of_fin1 {i : Nat} {o : Oper} {a : Act} {w : World} {K K' : Act → World → Prop} {Q : Exit → Act → World → Prop} (hi : ops[i]? = some o) (h : ∀ a' w, Puts o a a' → K a' w → K' a' w)
    (hh : wpList P ops (Fin1 K) [o] a w) : wpOp P ops Q i K' a w := by
  unfold wpOp
  simp only [hi]
  unfold wpList at hh
  split
  · rename_i hw
    rw [if_pos hw] at hh
    rcases hh with hh | hh
    · exact .inl (Oper.wp_of_fin1 h hh)
    · exact absurd hh.2 letsOut_fin1
  · rename_i hw
    rw [if_neg hw] at hh
    exact h _ _ (.inl ⟨_, rfl⟩) hh.2
/-- what is asked behind a step: nothing deferred; of the value, in its slot -/
def Said (dst : Option Tmp) (df : List Deferred) (R : Value → World → Prop) (a : Act) (w : World) : Prop :=
  a.defers = df ∧ match dst with | some d => R (a.tmps.getD d undef) w | none => R undef w
theorem Said.puts {o : Oper} {a a' : Act} {w : World} {R : Value → World → Prop} (h : Said o.dst a.defers R a' w) (hp : Puts o a a') (hd : ∀ d, o.dst = some d → d < a.tmps.size) : ∃ v, a' = a.put o.dst v ∧ R v w := by
  obtain ⟨h1, h2⟩ := h
  rcases hp with ⟨v, rfl⟩ | ⟨d, v, rfl⟩
  · cases ho : o.dst with
    | none => rw [ho] at h2; exact ⟨undef, rfl, h2⟩
    | some d =>
      rw [ho] at h2
      refine ⟨v, rfl, ?_⟩
      have : (a.put (some d) v).tmps.getD d undef = v := by
        have hlt := hd d ho
        simp [Act.put, hlt]
      simpa [this] using h2
  · exfalso
    have : (({ a with defers := d :: a.defers } : Act).put o.dst v).defers = d :: a.defers := by cases o.dst <;> rfl
    rw [this] at h1
    have := congrArg List.length h1
    simp at this
theorem put_size (a : Act) (d : Option Tmp) (v : Value) : (a.put d v).tmps.size = a.tmps.size := by cases d <;> simp [Act.put]
theorem put_defers (a : Act) (d : Option Tmp) (v : Value) : (a.put d v).defers = a.defers := by cases d <;> rfl
theorem putFrom_size : ∀ (l : List Oper) (k : Nat) (a : Act) (x : Nat → Value), (putFrom k l a x).tmps.size = a.tmps.size ∧ (putFrom k l a x).defers = a.defers
  | [], _, _, _ => ⟨rfl, rfl⟩
  | o :: l, k, a, x => by
    rw [putFrom]
    obtain ⟨h1, h2⟩ := putFrom_size l (k + 1) (a.put o.dst (x k)) x
    exact ⟨h1.trans (put_size _ _ _), h2.trans (put_defers _ _ _)⟩

/-- how many of the first n are not listed -/
def undone (done : Array Bool) : Nat → Nat
  | 0 => 0
  | k + 1 => undone done k + if done.getD k true then 0 else 1
theorem undone_set_le (done : Array Bool) (i : Nat) : ∀ k, k ≤ i → undone (done.setIfInBounds i true) k = undone done k
  | 0, _ => rfl
  | k + 1, h => by rw [undone, undone, undone_set_le done i k (by omega), getD_set_ne true (by omega)]
theorem getD_set_self (done : Array Bool) (i : Nat) : (done.setIfInBounds i true).getD i true = true := by
  rcases Nat.lt_or_ge i done.size with h | h
  · simp [h]
  · simp [h]
theorem undone_set (done : Array Bool) (i : Nat) (hi : done.getD i true = false) : ∀ k, i < k → undone (done.setIfInBounds i true) k + 1 = undone done k
  | 0, h => by omega
  | k + 1, h => by
    rw [undone, undone]
    by_cases hk : k = i
    · subst hk
      rw [undone_set_le done k k (Nat.le_refl _), getD_set_self, hi]; simp
    · have := undone_set done i hi k (by omega)
      rw [getD_set_ne true (by omega)]; omega
theorem undone_zero {done : Array Bool} : ∀ {k}, undone done k = 0 → ∀ i, i < k → done.getD i true = true
  | 0, _, i, h => by omega
  | k + 1, h0, i, h => by
    rw [undone] at h0
    have h1 : undone done k = 0 := by omega
    have h2 : (if done.getD k true then 0 else 1) = 0 := by omega
    by_cases hk : i = k
    · subst hk; split at h2 <;> simp_all
    · exact undone_zero h1 i (by omega)
theorem undone_pos {done : Array Bool} : ∀ {k}, 0 < undone done k → ∃ i, i < k ∧ done.getD i true = false
  | 0, h => by simp [undone] at h
  | k + 1, h => by
    rw [undone] at h
    by_cases hk : done.getD k true = true
    · rw [if_pos hk] at h
      obtain ⟨i, hi, hd⟩ := undone_pos (k := k) (by omega)
      exact ⟨i, by omega, hd⟩
    · exact ⟨k, by omega, by simpa using hk⟩

def backM (md : Region.Mode) (ops : Array Oper) : Bool := (List.range ops.size).all fun i => match ops[i]? with | some o => o.after.all (fun e => !Region.binds md e || decide (e.on < i)) | none => true
abbrev backB (ops : Array Oper) : Bool := backM .any ops
theorem ready_some (hb : backM md ops = true) {done : Array Bool} (hsz : done.size = ops.size) : ∀ i, i < ops.size → done.getD i true = false → ∃ j, j ∈ Region.ready md ops done := by
  intro i
  induction i using Nat.strongRecOn with
  | _ i ih =>
    intro hi hd
    obtain ⟨o, ho⟩ : ∃ o, ops[i]? = some o := ⟨ops[i], by simp [hi]⟩
    by_cases hall : ∀ e ∈ o.after, Region.binds md e = true → done.getD e.on false = true
    · exact ⟨i, mem_ready.2 ⟨hd, o, ho, hall⟩⟩
    · have h1 := List.all_eq_true.1 hb i (List.mem_range.2 hi)
      rw [ho] at h1
      simp only [Classical.not_forall] at hall
      obtain ⟨e, he, hbd, hf⟩ := hall
      have h2 := Array.all_eq_true'.1 h1 e he
      rw [hbd] at h2
      simp only [Bool.not_true, Bool.false_or, decide_eq_true_eq] at h2
      have hf' : done.getD e.on false = false := by simpa using hf
      exact ih e.on h2 (by omega) (getD_in (by omega) hf')

/-- what an operation waits for -/
def Needs (md : Region.Mode) (R : Nat → Prop) : List Edge → Prop
  | [] => True
  | e :: l => (Region.binds md e = true → R e.on) ∧ Needs md R l
theorem needs_of {R : Nat → Prop} : ∀ (l : List Edge), (∀ e ∈ l, Region.binds md e = true → R e.on) → Needs md R l
  | [], _ => trivial
  | e :: l, h => ⟨h e (by simp), needs_of l fun e' he => h e' (by simp [he])⟩
def factsB (ops : Array Oper) (n : Nat) : Bool :=
  decide (n ≤ ops.size) && (decide (n = ops.size) || (Region.sinkB .any ops n && Region.chainB .any ops n)) && backB ops && Region.seqB .any ops (ops.size - n) n (Array.replicate n true ++ Array.replicate (ops.size - n) false) && dstsB (ops.toList.take n)

theorem wpAny_of_facts {l : List Oper} {n : Nat} {a0 : Act} {w0 : World} {Q : Exit → Act → World → Prop} (Φ : Nat → Value → World → Prop) (hB : factsB l.toArray n = true)
    (hsz : (l.take n).all (fun o => match o.dst with | some d => decide (d < a0.tmps.size) | none => true) = true)
    (hst : ∀ i v w w', Φ i v w → Below w.heap.size w w' → Φ i v w')
    (hstep : ∀ i o, i < n → l[i]? = some o → ∀ (x : Nat → Value) (w : World), Below w0.heap.size w0 w → Needs .any (fun j => Φ j (x j) w) o.after.toList →
      wpList P l.toArray (Fin1 (Said o.dst a0.defers fun v w' => Φ i v w' ∧ Below w.heap.size w w')) [o] (putFrom 0 (l.take n) a0 x) w)
    (hend : ∀ (x : Nat → Value) (w : World), Below w0.heap.size w0 w → (∀ j, j < n → Φ j (x j) w) → wpList P l.toArray Q (l.drop n) (putFrom 0 (l.take n) a0 x) w) :
    ∀ (f : Nat) (done : Array Bool) (x : Nat → Value) (w : World), HeadInv .any l.toArray n done → undone done n = f → Below w0.heap.size w0 w → (∀ j, j < n → done.getD j false = true → Φ j (x j) w) →
      wpAny P .any l.toArray Q (f + (l.toArray.size - n)) done (putFrom 0 (l.take n) a0 x) w := by
  simp only [factsB, Bool.and_eq_true, Bool.or_eq_true, decide_eq_true_eq] at hB
  obtain ⟨⟨⟨⟨hn, hsc⟩, hback⟩, hseq⟩, hdst⟩ := hB
  intro f
  induction f with
  | zero =>
    intro done x w inv hu hb hf
    have hall := undone_zero hu
    have hD : done = Array.replicate n true ++ Array.replicate (l.toArray.size - n) false := by
      apply Array.ext
      · rw [inv.size]; simp; simp at hn; omega
      · intro j h1 h2
        rcases Nat.lt_or_ge j n with h | h
        · have := hall j h
          rw [Array.getElem_append_left (by simpa using h), Array.getElem_replicate]
          simpa [Array.getD_eq_getD_getElem?, h1] using this
        · have := inv.tail j h (by rw [← inv.size]; exact h1)
          rw [Array.getElem_append_right (by simpa using h), Array.getElem_replicate]
          simpa [Array.getD_eq_getD_getElem?, h1] using this
    have hE := hend x w hb fun j hj => hf j hj (by
      rw [hD, Array.getD_eq_getD_getElem?, Array.getElem?_append_left (by simpa using hj)]; simp [hj])
    rw [Nat.zero_add, show l.toArray.size - n = (l.drop n).length by simp]
    refine wpAny_of_seq (md := .any) (l.drop n) n done _ w (fun j => by simp [List.getElem?_drop]) ?_ hE
    rw [hD, show (l.drop n).length = l.toArray.size - n by simp]; exact hseq
  | succ f ih =>
    intro done x w inv hu hb hf
    obtain ⟨i0, hi0, hd0⟩ := undone_pos (done := done) (k := n) (by omega)
    rw [show f + 1 + (l.toArray.size - n) = (f + (l.toArray.size - n)) + 1 by omega]
    refine ⟨fun h0 => ?_, fun i hi => ?_⟩
    · obtain ⟨j, hj⟩ := ready_some (md := .any) hback inv.size i0 (by omega) hd0
      rw [h0] at hj; cases hj
    · obtain ⟨hun, o, ho, hall⟩ := mem_ready.1 hi
      have hin : i < n := by
        rcases Nat.lt_or_ge i n with h | h
        · exact h
        · rcases hsc with hsc | ⟨hs, hc⟩
          · have := (Array.getElem?_eq_some_iff.1 ho).1; omega
          · have hlt := (Array.getElem?_eq_some_iff.1 ho).1
            exact absurd hi (tail_waits hs hc (by omega) inv _ i0 rfl hi0 hd0 i h)
      have hol : l[i]? = some o := by simpa using ho
      have hS := hstep i o hin hol x w hb <| needs_of _ fun e he1 he2 => by
        have hd := hall e (by simpa using he1) he2
        refine hf e.on ?_ hd
        rcases Nat.lt_or_ge e.on n with h | h
        · exact h
        · rcases Nat.lt_or_ge e.on l.toArray.size with h' | h'
          · have := inv.tail e.on h h'
            rw [getD_both this] at hd; cases hd
          · rw [Array.getD_eq_getD_getElem?, Array.getElem?_eq_none (by rw [inv.size]; exact h')] at hd; cases hd
      have hot : (l.take n)[i]? = some o := by rw [List.getElem?_take_of_lt hin]; exact hol
      obtain ⟨z1, z2⟩ := putFrom_size (l.take n) 0 a0 x
      refine wpOp_of_fin1 ho (fun a' w' hp h => ?_) hS
      rw [← z2] at h
      obtain ⟨v, rfl, hφ, hbw⟩ := h.puts hp fun d hd => by
        have := List.all_eq_true.1 hsz o (List.mem_of_getElem? hot)
        rw [hd] at this
        rw [z1]
        simpa using this
      rw [putFrom_upd (l.take n) 0 i a0 x o v (by simpa using hdst) hot, Nat.zero_add]
      refine ih _ _ w' (inv.set hi hin) (by have := undone_set done i hun n hin; omega) (hb.trans (hbw.mono hb.size)) fun j hj hd => ?_
      by_cases hji : j = i
      · subst hji
        simpa [upd] using hφ
      · rw [getD_set_ne false (Ne.symm hji)] at hd
        have := hst j (x j) w w' (hf j hj hd) hbw
        simpa [upd, hji] using this

theorem wp_region_facts {id : Nat} {Q : Exit → Act → World → Prop} {a : Act} {w : World} {l : List Oper} (n : Nat) (Φ : Nat → Value → World → Prop) (hm : P.follows .mixedOrders = true) (hB : factsB l.toArray n = true)
    (hsz : (l.take n).all (fun o => match o.dst with | some d => decide (d < a.tmps.size) | none => true) = true)
    (hst : ∀ i v w w', Φ i v w → Below w.heap.size w w' → Φ i v w')
    (hstep : ∀ i o, i < n → l[i]? = some o → ∀ (x : Nat → Value) (w' : World), Below w.heap.size w w' → Needs .any (fun j => Φ j (x j) w') o.after.toList →
      wpList P l.toArray (Fin1 (Said o.dst a.defers fun v w'' => Φ i v w'' ∧ Below w'.heap.size w' w'')) [o] (putFrom 0 (l.take n) a x) w')
    (hend : ∀ (x : Nat → Value) (w' : World), Below w.heap.size w w' → (∀ j, j < n → Φ j (x j) w') → wpList P l.toArray Q (l.drop n) (putFrom 0 (l.take n) a x) w') : (Code.region id l.toArray true).wp P Q a w := by
  have hB' := hB
  simp only [factsB, Bool.and_eq_true, Bool.or_eq_true, decide_eq_true_eq] at hB'
  obtain ⟨⟨⟨⟨hn, hsc⟩, hback⟩, hseq⟩, hdst⟩ := hB'
  refine wp_region_any hm ?_
  have hu : ∀ k, k ≤ l.toArray.size → undone (Array.replicate l.toArray.size false) k = k := by
    intro k
    induction k with
    | zero => intro _; rfl
    | succ k ih =>
      intro hk
      rw [undone, ih (by omega), getD_in (by simp at hk ⊢; omega) (getD_replicate_false _ _)]; simp
  have inv0 : HeadInv .any l.toArray n (Array.replicate l.toArray.size false) :=
    ⟨by simp, fun j oj _ hl => (by rw [getD_replicate_false] at hl; cases hl), fun t _ ht => getD_in (by simpa using ht) (getD_replicate_false _ _)⟩
  have H := wpAny_of_facts (a0 := a) (w0 := w) (Q := Q) Φ hB hsz hst hstep hend n (Array.replicate l.toArray.size false)
    (fun j => match (l.take n)[j]? with | some o => (match o.dst with | some d => a.tmps.getD d undef | none => undef) | none => undef) { w with drawn := w.drawn + 1 } inv0 (hu n hn) ⟨rfl, rfl, rfl, Nat.le_refl _, fun _ _ => rfl⟩
    (fun j _ hl => by rw [getD_replicate_false] at hl; cases hl)
  rw [putFrom_start (l.take n) 0 a _ fun i o d hi hd => by rw [Nat.zero_add]; simp only [hi, hd], show n + (l.toArray.size - n) = l.toArray.size by omega] at H
  exact H
end

end Go.Proofs.YtbfgkcgnhgfkmaaGreat
