/-
A region that draws its order: every operation by itself, out of the facts that those leave that it waits for. A fact says of an operation's value, in a world, what stays true whatever new memory is made.
The law of facts, for a region in which some operations write to what others of it have made: such an operation uses up the facts of what it writes to.
The law of facts once more: a fact of an operation that waits for the big one need not outlive it.
A region that draws its order, whatever its operations turn: every operation by itself, out of the facts of those it waits for; the facts stay true under a relation R between worlds, which every operation keeps to, and I holds of every world on the way.
The policy tree's values: nodes, strings; read only, owned, growing.
-/
import Derived.Test.YtmagjdocondmhaaGreatPkSs01
namespace Go.Proofs.YtmagjdocondmhaaGreat
open Go Go.RowKit

/-- the frame with a value in the slot of each listed operation -/
def putFrom : Nat → List Oper → Act → (Nat → Value) → Act
  | _, [], a, _ => a
  | k, o :: l, a, x => putFrom (k + 1) l (a.put o.dst (x k)) x
def upd (x : Nat → Value) (i : Nat) (v : Value) : Nat → Value := fun j => if j = i then v else x j
def dstsB : List Oper → Bool
  | [] => true
  | o :: l => (match o.dst with | none => true | some d => l.all (fun o' => o'.dst != some d)) && dstsB l

theorem put_same (a : Act) (d : Tmp) (u v : Value) : (a.put (some d) u).put (some d) v = a.put (some d) v := by simp [Act.put]
theorem put_comm (a : Act) (d e : Tmp) (u v : Value) (h : d ≠ e) : (a.put (some d) u).put (some e) v = (a.put (some e) v).put (some d) u := by
  simp only [Act.put]; congr 1; exact Array.setIfInBounds_comm _ _ h
theorem putFrom_congr : ∀ (l : List Oper) (k : Nat) (a : Act) (x y : Nat → Value), (∀ j, k ≤ j → x j = y j) → putFrom k l a x = putFrom k l a y
  | [], _, _, _, _, _ => rfl
  | o :: l, k, a, x, y, h => by
    rw [putFrom, putFrom, h k (Nat.le_refl _)]
    exact putFrom_congr l (k + 1) _ x y fun j hj => h j (by omega)
theorem putFrom_late : ∀ (l : List Oper) (k : Nat) (a : Act) (x : Nat → Value) (d : Tmp) (v : Value), l.all (fun o' => o'.dst != some d) = true → (putFrom k l a x).put (some d) v = putFrom k l (a.put (some d) v) x
  | [], _, _, _, _, _, _ => rfl
  | o :: l, k, a, x, d, v, h => by
    simp only [List.all_cons, Bool.and_eq_true, bne_iff_ne, ne_eq] at h
    rw [putFrom, putFrom, putFrom_late l (k + 1) _ x d v (by simpa using h.2)]
    congr 1
    cases hd : o.dst with
    | none => rfl
    | some e => exact put_comm a e d _ _ (fun q => h.1 (by rw [hd, q]))
theorem putFrom_upd : ∀ (l : List Oper) (k i : Nat) (a : Act) (x : Nat → Value) (o : Oper) (v : Value), dstsB l = true → l[i]? = some o → (putFrom k l a x).put o.dst v = putFrom k l a (upd x (k + i) v)
  | [], _, _, _, _, _, _, _, h => by simp at h
  | o' :: l, k, 0, a, x, o, v, hB, h => by
    simp only [List.getElem?_cons_zero, Option.some.injEq] at h
    subst h
    rw [putFrom, putFrom]
    have e1 : upd x (k + 0) v k = v := by simp [upd]
    rw [e1, putFrom_congr l (k + 1) _ (upd x (k + 0) v) x fun j hj => by simp only [upd]; rw [if_neg (by omega)]]
    simp only [dstsB, Bool.and_eq_true] at hB
    cases hd : o'.dst with
    | none => rfl
    | some d =>
      rw [hd] at hB
      rw [putFrom_late l (k + 1) _ x d v hB.1, put_same]
  | o' :: l, k, i + 1, a, x, o, v, hB, h => by
    simp only [List.getElem?_cons_succ] at h
    simp only [dstsB, Bool.and_eq_true] at hB
    rw [putFrom, putFrom, putFrom_upd l (k + 1) i _ x o v hB.2 h, show k + 1 + i = k + (i + 1) by omega]
    have e1 : upd x (k + (i + 1)) v k = x k := by simp only [upd]; rw [if_neg (by omega)]
    rw [e1]
theorem put_self (a : Act) (d : Tmp) : a.put (some d) (a.tmps.getD d undef) = a := by
  obtain ⟨t, df⟩ := a
  simp only [Act.put]
  congr 1
  apply Array.ext
  · simp
  · intro j h1 h2
    by_cases hjd : d = j
    · subst hjd
      simp [h2]
    · rw [Array.getElem_setIfInBounds_ne _ hjd]
theorem putFrom_start : ∀ (l : List Oper) (k : Nat) (a : Act) (x : Nat → Value), (∀ (i : Nat) o d, l[i]? = some o → o.dst = some d → x (k + i) = a.tmps.getD d undef) → putFrom k l a x = a
  | [], _, _, _, _ => rfl
  | o :: l, k, a, x, h => by
    have e : a.put o.dst (x k) = a := by
      cases hd : o.dst with
      | none => rfl
      | some d => rw [show x k = a.tmps.getD d undef from h 0 o d rfl hd]; exact put_self a d
    rw [putFrom, e]
    exact putFrom_start l (k + 1) a x fun i o' d hi hd => by rw [show k + 1 + i = k + (i + 1) by omega]; exact h (i + 1) o' d hi hd

section
variable {P : Program} {ops : Array Oper} {md : Region.Mode}

/-- the end of one operation's walk -/
def Fin1 (K : Act → World → Prop) (e : Exit) (a : Act) (w : World) : Prop := e = .normal ∧ K a w
theorem letsOut_fin1 {K : Act → World → Prop} : ¬ LetsOut (Fin1 K) := fun ⟨_, _, h⟩ => by cases h.1
/-- what a step does to the frame -/
def Puts (o : Oper) (a a' : Act) : Prop := (∃ v, a' = a.put o.dst v) ∨ (∃ d v, a' = ({ a with defers := d :: a.defers } : Act).put o.dst v)
theorem Oper.wp_of_fin1 {o : Oper} {a : Act} {w : World} {K K' : Act → World → Prop} {Q : Exit → Act → World → Prop} (h : ∀ a' w, Puts o a a' → K a' w → K' a' w)
    (hh : o.wp P a w (wpList P ops (Fin1 K) []) (Fin1 K)) : o.wp P a w K' Q := by
  unfold Oper.wp at *
  generalize (execOp a.eval o).run P w = r at *
  cases r with
  | ok n w' =>
    cases n <;> simp only [Oper.upon] at hh ⊢ <;>
      first
        | exact h _ _ (.inl ⟨_, rfl⟩) hh.2
        | exact h _ _ (.inr ⟨_, _, rfl⟩) hh.2
        | exact Calls.mono hh (fun e w'' he => by cases e <;> first | exact h _ _ (.inl ⟨_, rfl⟩) he.2 | (cases he.1; done) | exact absurd he letsOut_fin1)
        | exact Rows.mono hh (fun _ _ he => h _ _ (.inl ⟨_, rfl⟩) he.2)
  | halt x w' =>
    cases x <;> simp only [Oper.upon] at hh ⊢ <;> first | exact hh | (cases hh.1)
theorem wpOp_of_fin1 {i : Nat} {o : Oper} {a : Act} {w : World} {K K' : Act → World → Prop} {Q : Exit → Act → World → Prop} (hi : ops[i]? = some o) (h : ∀ a' w, Puts o a a' → K a' w → K' a' w)
    (hh : wpList P ops (Fin1 K) [o] a w) : wpOp P ops Q i K' a w := by
  unfold wpOp
  simp only [hi]
  unfold wpList at hh
  split
  · rename_i hw
    rw [if_pos hw] at hh
    rcases hh with hh | hh
    · exact .inl (Oper.wp_of_fin1 h hh)
    · exact absurd hh.2 letsOut_fin1
  · rename_i hw
    rw [if_neg hw] at hh
    exact h _ _ (.inl ⟨_, rfl⟩) hh.2
/-- what is asked behind a step: nothing deferred; of the value, in its slot -/
def Said (dst : Option Tmp) (df : List Deferred) (R : Value → World → Prop) (a : Act) (w : World) : Prop :=
  a.defers = df ∧ match dst with | some d => R (a.tmps.getD d undef) w | none => R undef w
theorem Said.puts {o : Oper} {a a' : Act} {w : World} {R : Value → World → Prop} (h : Said o.dst a.defers R a' w) (hp : Puts o a a') (hd : ∀ d, o.dst = some d → d < a.tmps.size) : ∃ v, a' = a.put o.dst v ∧ R v w := by
  obtain ⟨h1, h2⟩ := h
  rcases hp with ⟨v, rfl⟩ | ⟨d, v, rfl⟩
  · cases ho : o.dst with
    | none => rw [ho] at h2; exact ⟨undef, rfl, h2⟩
    | some d =>
      rw [ho] at h2
      refine ⟨v, rfl, ?_⟩
      have : (a.put (some d) v).tmps.getD d undef = v := by
        have hlt := hd d ho
        simp [Act.put, hlt]
      simpa [this] using h2
  · exfalso
    have : (({ a with defers := d :: a.defers } : Act).put o.dst v).defers = d :: a.defers := by cases o.dst <;> rfl
    rw [this] at h1
    have := congrArg List.length h1
    simp at this
theorem put_size (a : Act) (d : Option Tmp) (v : Value) : (a.put d v).tmps.size = a.tmps.size := by cases d <;> simp [Act.put]
theorem put_defers (a : Act) (d : Option Tmp) (v : Value) : (a.put d v).defers = a.defers := by cases d <;> rfl
theorem putFrom_size : ∀ (l : List Oper) (k : Nat) (a : Act) (x : Nat → Value), (putFrom k l a x).tmps.size = a.tmps.size ∧ (putFrom k l a x).defers = a.defers
  | [], _, _, _ => ⟨rfl, rfl⟩
  | o :: l, k, a, x => by
    rw [putFrom]
    obtain ⟨h1, h2⟩ := putFrom_size l (k + 1) (a.put o.dst (x k)) x
    exact ⟨h1.trans (put_size _ _ _), h2.trans (put_defers _ _ _)⟩

/-- how many of the first n are not listed -/
def undone (done : Array Bool) : Nat → Nat
  | 0 => 0
  | k + 1 => undone done k + if done.getD k true then 0 else 1
theorem undone_set_le (done : Array Bool) (i : Nat) : ∀ k, k ≤ i → undone (done.setIfInBounds i true) k = undone done k
  | 0, _ => rfl
  | k + 1, h => by rw [undone, undone, undone_set_le done i k (by omega), getD_set_ne true (by omega)]
theorem getD_set_self (done : Array Bool) (i : Nat) : (done.setIfInBounds i true).getD i true = true := by
  rcases Nat.lt_or_ge i done.size with h | h
  · simp [h]
  · simp [h]
theorem undone_set (done : Array Bool) (i : Nat) (hi : done.getD i true = false) : ∀ k, i < k → undone (done.setIfInBounds i true) k + 1 = undone done k
  | 0, h => by omega
  | k + 1, h => by
    rw [undone, undone]
    by_cases hk : k = i
    · subst hk
      rw [undone_set_le done k k (Nat.le_refl _), getD_set_self, hi]; simp
    · have := undone_set done i hi k (by omega)
      rw [getD_set_ne true (by omega)]; omega
theorem undone_zero {done : Array Bool} : ∀ {k}, undone done k = 0 → ∀ i, i < k → done.getD i true = true
  | 0, _, i, h => by omega
  | k + 1, h0, i, h => by
    rw [undone] at h0
    have h1 : undone done k = 0 := by omega
    have h2 : (if done.getD k true then 0 else 1) = 0 := by omega
    by_cases hk : i = k
    · subst hk; split at h2 <;> simp_all
    · exact undone_zero h1 i (by omega)
theorem undone_pos {done : Array Bool} : ∀ {k}, 0 < undone done k → ∃ i, i < k ∧ done.getD i true = false
  | 0, h => by simp [undone] at h
  | k + 1, h => by
    rw [undone] at h
    by_cases hk : done.getD k true = true
    · rw [if_pos hk] at h
      obtain ⟨i, hi, hd⟩ := undone_pos (k := k) (by omega)
      exact ⟨i, by omega, hd⟩
    · exact ⟨k, by omega, by simpa using hk⟩

def backM (md : Region.Mode) (ops : Array Oper) : Bool := (List.range ops.size).all fun i => match ops[i]? with | some o => o.after.all (fun e => !Region.binds md e || decide (e.on < i)) | none => true
abbrev backB (ops : Array Oper) : Bool := backM .any ops
theorem ready_some (hb : backM md ops = true) {done : Array Bool} (hsz : done.size = ops.size) : ∀ i, i < ops.size → done.getD i true = false → ∃ j, j ∈ Region.ready md ops done := by
  intro i
  induction i using Nat.strongRecOn with
  | _ i ih =>
    intro hi hd
    obtain ⟨o, ho⟩ : ∃ o, ops[i]? = some o := ⟨ops[i], by simp [hi]⟩
    by_cases hall : ∀ e ∈ o.after, Region.binds md e = true → done.getD e.on false = true
    · exact ⟨i, mem_ready.2 ⟨hd, o, ho, hall⟩⟩
    · have h1 := List.all_eq_true.1 hb i (List.mem_range.2 hi)
      rw [ho] at h1
      simp only [Classical.not_forall] at hall
      obtain ⟨e, he, hbd, hf⟩ := hall
      have h2 := Array.all_eq_true'.1 h1 e he
      rw [hbd] at h2
      simp only [Bool.not_true, Bool.false_or, decide_eq_true_eq] at h2
      have hf' : done.getD e.on false = false := by simpa using hf
      exact ih e.on h2 (by omega) (getD_in (by omega) hf')

def factsB (ops : Array Oper) (n : Nat) : Bool :=
  decide (n ≤ ops.size) && (decide (n = ops.size) || (Region.sinkB .any ops n && Region.chainB .any ops n)) && backB ops && Region.seqB .any ops (ops.size - n) n (Array.replicate n true ++ Array.replicate (ops.size - n) false) && dstsB (ops.toList.take n)

end

end Go.Proofs.YtmagjdocondmhaaGreat
namespace Go.Proofs.YtmagjdocondmhaaGreat
open Go Go.RowKit
section
variable {P : Program} {md : Region.Mode}

/-- what an operation waits for, and may use -/
def NeedsB (md : Region.Mode) (R : Nat → Prop) (cons : Nat → Option Nat) (i : Nat) : List Edge → Prop
  | [] => True
  | e :: l => (Region.binds md e = true → (cons e.on = none ∨ cons e.on = some i) → R e.on) ∧ NeedsB md R cons i l
theorem needsB_of {R : Nat → Prop} {cons : Nat → Option Nat} {i : Nat} : ∀ (l : List Edge), (∀ e ∈ l, Region.binds md e = true → (cons e.on = none ∨ cons e.on = some i) → R e.on) → NeedsB md R cons i l
  | [], _ => trivial
  | e :: l, h => ⟨h e (by simp), needsB_of l fun e' he => h e' (by simp [he])⟩

end

end Go.Proofs.YtmagjdocondmhaaGreat

namespace Go.Proofs.YtmagjdocondmhaaGreat
open Go Go.RowKit
section
variable {P : Program} {md : Region.Mode}

/-- one operation more is done -/
def mark (d : Nat → Bool) (i : Nat) : Nat → Bool := fun j => if j = i then true else d j
theorem getD_mark (done : Array Bool) (i : Nat) (hi : i < done.size) (j : Nat) : (done.setIfInBounds i true).getD j false = mark (fun j => done.getD j false) i j := by
  unfold mark
  by_cases e : j = i
  · subst e; simp [hi]
  · rw [if_neg e]; simp only [Array.getD_eq_getD_getElem?]; rw [Array.getElem?_setIfInBounds_ne (Ne.symm e)]
/-- what is done has what it waits for done -/
def Closed (l : List Oper) (d : Nat → Bool) : Prop := ∀ j oj, l[j]? = some oj → d j = true → ∀ e ∈ oj.after, Region.binds .any e = true → d e.on = true
theorem wpAny_of_factsC {l : List Oper} {n : Nat} {a0 : Act} {Q : Exit → Act → World → Prop} (cons : Nat → Option Nat) (big : Nat → Bool) (Φ : Nat → Value → World → Prop) (C : (Nat → Bool) → World → Prop) (G : World → World → Prop) (hB : factsB l.toArray n = true)
    (hsz : (l.take n).all (fun o => match o.dst with | some d => decide (d < a0.tmps.size) | none => true) = true)
    (hst : ∀ i v w w', Φ i v w → Below w.heap.size w w' → Φ i v w')
    (hC : ∀ d i w w', C d w → big i = false → d i = false → Below w.heap.size w w' → C (mark d i) w') (hGC : ∀ d i w w', C d w → big i = true → d i = false → G w w' → C (mark d i) w')
    (hbig : ∀ b j v w w', big b = true → cons j ≠ some b → j ≠ b → j < n → Φ j v w → G w w' → Φ j v w')
    (hstep : ∀ i o, i < n → l[i]? = some o → ∀ (d : Nat → Bool) (x : Nat → Value) (w : World), Closed l d → d i = false → C d w → NeedsB .any (fun j => Φ j (x j) w) cons i o.after.toList →
      wpList P l.toArray (Fin1 (Said o.dst a0.defers fun v w' => Φ i v w' ∧ (if big i = true then G w w' else Below w.heap.size w w'))) [o] (putFrom 0 (l.take n) a0 x) w)
    (hend : ∀ (d : Nat → Bool) (x : Nat → Value) (w : World), C d w → (∀ j, j < n → (∀ c, cons j = some c → n ≤ c) → Φ j (x j) w) → wpList P l.toArray Q (l.drop n) (putFrom 0 (l.take n) a0 x) w) :
    ∀ (f : Nat) (done : Array Bool) (x : Nat → Value) (w : World), HeadInv .any l.toArray n done → undone done n = f → C (fun j => done.getD j false) w → (∀ j, j < n → done.getD j false = true → (∀ c, cons j = some c → done.getD c false = false) → Φ j (x j) w) →
      wpAny P .any l.toArray Q (f + (l.toArray.size - n)) done (putFrom 0 (l.take n) a0 x) w := by
  simp only [factsB, Bool.and_eq_true, Bool.or_eq_true, decide_eq_true_eq] at hB
  obtain ⟨⟨⟨⟨hn, hsc⟩, hback⟩, hseq⟩, hdst⟩ := hB
  intro f
  induction f with
  | zero =>
    intro done x w inv hu hb hf
    have hall := undone_zero hu
    have hD : done = Array.replicate n true ++ Array.replicate (l.toArray.size - n) false := by
      apply Array.ext
      · rw [inv.size]; simp; simp at hn; omega
      · intro j h1 h2
        rcases Nat.lt_or_ge j n with h | h
        · have := hall j h
          rw [Array.getElem_append_left (by simpa using h), Array.getElem_replicate]
          simpa [Array.getD_eq_getD_getElem?, h1] using this
        · have := inv.tail j h (by rw [← inv.size]; exact h1)
          rw [Array.getElem_append_right (by simpa using h), Array.getElem_replicate]
          simpa [Array.getD_eq_getD_getElem?, h1] using this
    have hE := hend _ x w hb fun j hj hc => hf j hj (by
      rw [hD, Array.getD_eq_getD_getElem?, Array.getElem?_append_left (by simpa using hj)]; simp [hj]) fun c hcc => by
        have hnc := hc c hcc
        rcases Nat.lt_or_ge c l.toArray.size with q | q
        · exact getD_both (inv.tail c hnc q)
        · rw [Array.getD_eq_getD_getElem?, Array.getElem?_eq_none (by rw [inv.size]; exact q)]; rfl
    rw [Nat.zero_add, show l.toArray.size - n = (l.drop n).length by simp]
    refine wpAny_of_seq (md := .any) (l.drop n) n done _ w (fun j => by simp [List.getElem?_drop]) ?_ hE
    rw [hD, show (l.drop n).length = l.toArray.size - n by simp]; exact hseq
  | succ f ih =>
    intro done x w inv hu hb hf
    obtain ⟨i0, hi0, hd0⟩ := undone_pos (done := done) (k := n) (by omega)
    rw [show f + 1 + (l.toArray.size - n) = (f + (l.toArray.size - n)) + 1 by omega]
    refine ⟨fun h0 => ?_, fun i hi => ?_⟩
    · obtain ⟨j, hj⟩ := ready_some (md := .any) hback inv.size i0 (by omega) hd0
      rw [h0] at hj; cases hj
    · obtain ⟨hun, o, ho, hall⟩ := mem_ready.1 hi
      have hin : i < n := by
        rcases Nat.lt_or_ge i n with h | h
        · exact h
        · rcases hsc with hsc | ⟨hs, hc⟩
          · have := (Array.getElem?_eq_some_iff.1 ho).1; omega
          · have hlt := (Array.getElem?_eq_some_iff.1 ho).1
            exact absurd hi (tail_waits hs hc (by omega) inv _ i0 rfl hi0 hd0 i h)
      have hol : l[i]? = some o := by simpa using ho
      have hS := hstep i o hin hol (fun j => done.getD j false) x w (fun j oj hj hd e he hbd => inv.closed j oj (by simpa using hj) hd e he hbd) (getD_both hun) hb <| needsB_of _ fun e he1 he2 hcn => by
        have hd := hall e (by simpa using he1) he2
        refine hf e.on ?_ hd fun c hcc => ?_
        · rcases Nat.lt_or_ge e.on n with h | h
          · exact h
          · rcases Nat.lt_or_ge e.on l.toArray.size with h' | h'
            · have := inv.tail e.on h h'
              rw [getD_both this] at hd; cases hd
            · rw [Array.getD_eq_getD_getElem?, Array.getElem?_eq_none (by rw [inv.size]; exact h')] at hd; cases hd
        · rcases hcn with h | h
          · rw [h] at hcc; cases hcc
          · rw [h] at hcc; cases hcc; exact getD_both hun
      have hot : (l.take n)[i]? = some o := by rw [List.getElem?_take_of_lt hin]; exact hol
      obtain ⟨z1, z2⟩ := putFrom_size (l.take n) 0 a0 x
      refine wpOp_of_fin1 ho (fun a' w' hp h => ?_) hS
      rw [← z2] at h
      obtain ⟨v, rfl, hφ, hbw⟩ := h.puts hp fun d hd => by
        have := List.all_eq_true.1 hsz o (List.mem_of_getElem? hot)
        rw [hd] at this
        rw [z1]
        simpa using this
      have hbw0 : C (fun j => (done.setIfInBounds i true).getD j false) w' := by
        rw [show (fun j => (done.setIfInBounds i true).getD j false) = mark (fun j => done.getD j false) i from funext fun j => getD_mark done i (by rw [inv.size]; omega) j]
        by_cases hbi : big i = true
        · rw [if_pos hbi] at hbw; exact hGC _ i w w' hb hbi (getD_both hun) hbw
        · rw [if_neg hbi] at hbw; exact hC _ i w w' hb (by simpa using hbi) (getD_both hun) hbw
      rw [putFrom_upd (l.take n) 0 i a0 x o v (by simpa using hdst) hot, Nat.zero_add]
      refine ih _ _ w' (inv.set hi hin) (by have := undone_set done i hun n hin; omega) hbw0 fun j hj hd hcs => ?_
      by_cases hji : j = i
      · subst hji
        simpa [upd] using hφ
      · rw [getD_set_ne false (Ne.symm hji)] at hd
        have hci : cons j ≠ some i := fun hc => by
          have h1 := hcs i hc
          have hlt : i < done.size := by rw [inv.size]; omega
          simp [hlt] at h1
        have hold := hf j hj hd fun c hc => by
          have h1 := hcs c hc
          have hne : i ≠ c := fun e => hci (by rw [e]; exact hc)
          rwa [getD_set_ne false hne] at h1
        have hnew : Φ j (x j) w' := by
          by_cases hbi : big i = true
          · rw [if_pos hbi] at hbw; exact hbig i j (x j) w w' hbi hci hji hj hold hbw
          · rw [if_neg hbi] at hbw; exact hst j (x j) w w' hold hbw
        simpa [upd, hji] using hnew

theorem wp_region_factsC {id : Nat} {Q : Exit → Act → World → Prop} {a : Act} {w : World} {l : List Oper} (n : Nat) (cons : Nat → Option Nat) (big : Nat → Bool) (Φ : Nat → Value → World → Prop) (C : (Nat → Bool) → World → Prop) (G : World → World → Prop) (hC0 : C (fun _ => false) { w with drawn := w.drawn + 1 }) (hm : P.follows .mixedOrders = true) (hB : factsB l.toArray n = true)
    (hsz : (l.take n).all (fun o => match o.dst with | some d => decide (d < a.tmps.size) | none => true) = true)
    (hst : ∀ i v w w', Φ i v w → Below w.heap.size w w' → Φ i v w')
    (hC : ∀ d i w w', C d w → big i = false → d i = false → Below w.heap.size w w' → C (mark d i) w') (hGC : ∀ d i w w', C d w → big i = true → d i = false → G w w' → C (mark d i) w')
    (hbig : ∀ b j v w1 w', big b = true → cons j ≠ some b → j ≠ b → j < n → Φ j v w1 → G w1 w' → Φ j v w')
    (hstep : ∀ i o, i < n → l[i]? = some o → ∀ (d : Nat → Bool) (x : Nat → Value) (w' : World), Closed l d → d i = false → C d w' → NeedsB .any (fun j => Φ j (x j) w') cons i o.after.toList →
      wpList P l.toArray (Fin1 (Said o.dst a.defers fun v w'' => Φ i v w'' ∧ (if big i = true then G w' w'' else Below w'.heap.size w' w''))) [o] (putFrom 0 (l.take n) a x) w')
    (hend : ∀ (d : Nat → Bool) (x : Nat → Value) (w' : World), C d w' → (∀ j, j < n → (∀ c, cons j = some c → n ≤ c) → Φ j (x j) w') → wpList P l.toArray Q (l.drop n) (putFrom 0 (l.take n) a x) w') : (Code.region id l.toArray true).wp P Q a w := by
  have hB' := hB
  simp only [factsB, Bool.and_eq_true, Bool.or_eq_true, decide_eq_true_eq] at hB'
  obtain ⟨⟨⟨⟨hn, hsc⟩, hback⟩, hseq⟩, hdst⟩ := hB'
  refine wp_region_any hm ?_
  have hu : ∀ k, k ≤ l.toArray.size → undone (Array.replicate l.toArray.size false) k = k := by
    intro k
    induction k with
    | zero => intro _; rfl
    | succ k ih =>
      intro hk
      rw [undone, ih (by omega), getD_in (by simp at hk ⊢; omega) (getD_replicate_false _ _)]; simp
  have inv0 : HeadInv .any l.toArray n (Array.replicate l.toArray.size false) :=
    ⟨by simp, fun j oj _ hl => (by rw [getD_replicate_false] at hl; cases hl), fun t _ ht => getD_in (by simpa using ht) (getD_replicate_false _ _)⟩
  have H := wpAny_of_factsC (a0 := a) (Q := Q) cons big Φ C G hB hsz hst hC hGC hbig hstep hend n (Array.replicate l.toArray.size false)
    (fun j => match (l.take n)[j]? with | some o => (match o.dst with | some d => a.tmps.getD d undef | none => undef) | none => undef) { w with drawn := w.drawn + 1 } inv0 (hu n hn) (by rw [show (fun j => (Array.replicate l.toArray.size false).getD j false) = fun _ => false from funext fun j => getD_replicate_false _ _]; exact hC0)
    (fun j _ hl => by rw [getD_replicate_false] at hl; cases hl)
  rw [putFrom_start (l.take n) 0 a _ fun i o d hi hd => by rw [Nat.zero_add]; simp only [hi, hd], show n + (l.toArray.size - n) = l.toArray.size by omega] at H
  exact H
end

end Go.Proofs.YtmagjdocondmhaaGreat

namespace Go.Proofs.YtmagjdocondmhaaGreat
open Go Go.RowKit
section
variable {P : Program} {md : Region.Mode}

end

end Go.Proofs.YtmagjdocondmhaaGreat

namespace Go.Proofs.YtmagjdocondmhaaGreat
open Go Go.RowKit
section
variable {P : Program}

end
end Go.Proofs.YtmagjdocondmhaaGreat
namespace Go.Proofs.YtmagjdocondmhaaGreat
open Go Go.RowKit
section
variable {P : Program} {md : Region.Mode}

theorem wpAny_of_factsH {l : List Oper} {n : Nat} {a0 : Act} {Q : Exit → Act → World → Prop} (cons : Nat → Option Nat) (big : Nat → Bool) (Φ : Nat → (Nat → Value) → World → Prop) (C : (Nat → Bool) → World → Prop) (G : Nat → World → World → Prop) (hB : factsB l.toArray n = true)
    (hsz : (l.take n).all (fun o => match o.dst with | some d => decide (d < a0.tmps.size) | none => true) = true)
    (hloc : ∀ j oj (x y : Nat → Value) w, l[j]? = some oj → j < n → x j = y j → (∀ e ∈ oj.after.toList, Region.binds .any e = true → x e.on = y e.on) → Φ j x w → Φ j y w) (hst : ∀ i x w w', Φ i x w → Below w.heap.size w w' → Φ i x w')
    (hC : ∀ d i w w', C d w → big i = false → d i = false → Below w.heap.size w w' → C (mark d i) w') (hGC : ∀ d i oi w w', l[i]? = some oi → (∀ e ∈ oi.after.toList, Region.binds .any e = true → d e.on = true) → C d w → big i = true → d i = false → G i w w' → C (mark d i) w')
    (hbig : ∀ b ob j x (d : Nat → Bool) w w', big b = true → l[b]? = some ob → (∀ e ∈ ob.after.toList, Region.binds .any e = true → d e.on = true) → (∀ c, cons j = some c → mark d b c = false) → j ≠ b → j < n → Closed l d → d j = true → d b = false → Φ j x w → G b w w' → Φ j x w')
    (hstep : ∀ i o, i < n → l[i]? = some o → ∀ (d : Nat → Bool) (x : Nat → Value) (w : World), Closed l d → d i = false → (∀ e ∈ o.after.toList, Region.binds .any e = true → d e.on = true) → C d w → NeedsB .any (fun j => Φ j x w) cons i o.after.toList →
      wpList P l.toArray (Fin1 (Said o.dst a0.defers fun v w' => Φ i (upd x i v) w' ∧ (if big i = true then G i w w' else Below w.heap.size w w'))) [o] (putFrom 0 (l.take n) a0 x) w)
    (hend : ∀ (d : Nat → Bool) (x : Nat → Value) (w : World), (∀ j, j < n → d j = true) → C d w → (∀ j, j < n → (∀ c, cons j = some c → n ≤ c) → Φ j x w) → wpList P l.toArray Q (l.drop n) (putFrom 0 (l.take n) a0 x) w) :
    ∀ (f : Nat) (done : Array Bool) (x : Nat → Value) (w : World), HeadInv .any l.toArray n done → undone done n = f → C (fun j => done.getD j false) w → (∀ j, j < n → done.getD j false = true → (∀ c, cons j = some c → done.getD c false = false) → Φ j x w) →
      wpAny P .any l.toArray Q (f + (l.toArray.size - n)) done (putFrom 0 (l.take n) a0 x) w := by
  simp only [factsB, Bool.and_eq_true, Bool.or_eq_true, decide_eq_true_eq] at hB
  obtain ⟨⟨⟨⟨hn, hsc⟩, hback⟩, hseq⟩, hdst⟩ := hB
  intro f
  induction f with
  | zero =>
    intro done x w inv hu hb hf
    have hall := undone_zero hu
    have hD : done = Array.replicate n true ++ Array.replicate (l.toArray.size - n) false := by
      apply Array.ext
      · rw [inv.size]; simp; simp at hn; omega
      · intro j h1 h2
        rcases Nat.lt_or_ge j n with h | h
        · have := hall j h
          rw [Array.getElem_append_left (by simpa using h), Array.getElem_replicate]
          simpa [Array.getD_eq_getD_getElem?, h1] using this
        · have := inv.tail j h (by rw [← inv.size]; exact h1)
          rw [Array.getElem_append_right (by simpa using h), Array.getElem_replicate]
          simpa [Array.getD_eq_getD_getElem?, h1] using this
    have hE := hend (fun j => done.getD j false) x w (fun j hj => by have h1 := hall j hj; have h2 : j < done.size := (by rw [inv.size]; simp at hn ⊢; omega); simpa [Array.getD_eq_getD_getElem?, h2] using h1) hb fun j hj hc => hf j hj (by
      rw [hD, Array.getD_eq_getD_getElem?, Array.getElem?_append_left (by simpa using hj)]; simp [hj]) fun c hcc => by
        have hnc := hc c hcc
        rcases Nat.lt_or_ge c l.toArray.size with q | q
        · exact getD_both (inv.tail c hnc q)
        · rw [Array.getD_eq_getD_getElem?, Array.getElem?_eq_none (by rw [inv.size]; exact q)]; rfl
    rw [Nat.zero_add, show l.toArray.size - n = (l.drop n).length by simp]
    refine wpAny_of_seq (md := .any) (l.drop n) n done _ w (fun j => by simp [List.getElem?_drop]) ?_ hE
    rw [hD, show (l.drop n).length = l.toArray.size - n by simp]; exact hseq
  | succ f ih =>
    intro done x w inv hu hb hf
    obtain ⟨i0, hi0, hd0⟩ := undone_pos (done := done) (k := n) (by omega)
    rw [show f + 1 + (l.toArray.size - n) = (f + (l.toArray.size - n)) + 1 by omega]
    refine ⟨fun h0 => ?_, fun i hi => ?_⟩
    · obtain ⟨j, hj⟩ := ready_some (md := .any) hback inv.size i0 (by omega) hd0
      rw [h0] at hj; cases hj
    · obtain ⟨hun, o, ho, hall⟩ := mem_ready.1 hi
      have hin : i < n := by
        rcases Nat.lt_or_ge i n with h | h
        · exact h
        · rcases hsc with hsc | ⟨hs, hc⟩
          · have := (Array.getElem?_eq_some_iff.1 ho).1; omega
          · have hlt := (Array.getElem?_eq_some_iff.1 ho).1
            exact absurd hi (tail_waits hs hc (by omega) inv _ i0 rfl hi0 hd0 i h)
      have hol : l[i]? = some o := by simpa using ho
      have hS := hstep i o hin hol (fun j => done.getD j false) x w (fun j oj hj hd e he hbd => inv.closed j oj (by simpa using hj) hd e he hbd) (getD_both hun) (fun e he hbd => hall e (by simpa using he) hbd) hb <| needsB_of _ fun e he1 he2 hcn => by
        have hd := hall e (by simpa using he1) he2
        refine hf e.on ?_ hd fun c hcc => ?_
        · rcases Nat.lt_or_ge e.on n with h | h
          · exact h
          · rcases Nat.lt_or_ge e.on l.toArray.size with h' | h'
            · have := inv.tail e.on h h'
              rw [getD_both this] at hd; cases hd
            · rw [Array.getD_eq_getD_getElem?, Array.getElem?_eq_none (by rw [inv.size]; exact h')] at hd; cases hd
        · rcases hcn with h | h
          · rw [h] at hcc; cases hcc
          · rw [h] at hcc; cases hcc; exact getD_both hun
      have hot : (l.take n)[i]? = some o := by rw [List.getElem?_take_of_lt hin]; exact hol
      obtain ⟨z1, z2⟩ := putFrom_size (l.take n) 0 a0 x
      refine wpOp_of_fin1 ho (fun a' w' hp h => ?_) hS
      rw [← z2] at h
      obtain ⟨v, rfl, hφ, hbw⟩ := h.puts hp fun d hd => by
        have := List.all_eq_true.1 hsz o (List.mem_of_getElem? hot)
        rw [hd] at this
        rw [z1]
        simpa using this
      have hbw0 : C (fun j => (done.setIfInBounds i true).getD j false) w' := by
        rw [show (fun j => (done.setIfInBounds i true).getD j false) = mark (fun j => done.getD j false) i from funext fun j => getD_mark done i (by rw [inv.size]; omega) j]
        by_cases hbi : big i = true
        · rw [if_pos hbi] at hbw; exact hGC _ i o w w' hol (fun e he hbd => hall e (by simpa using he) hbd) hb hbi (getD_both hun) hbw
        · rw [if_neg hbi] at hbw; exact hC _ i w w' hb (by simpa using hbi) (getD_both hun) hbw
      rw [putFrom_upd (l.take n) 0 i a0 x o v (by simpa using hdst) hot, Nat.zero_add]
      refine ih _ _ w' (inv.set hi hin) (by have := undone_set done i hun n hin; omega) hbw0 fun j hj hd hcs => ?_
      by_cases hji : j = i
      · subst hji
        exact hφ
      · rw [getD_set_ne false (Ne.symm hji)] at hd
        have hci : cons j ≠ some i := fun hc => by
          have h1 := hcs i hc
          have hlt : i < done.size := by rw [inv.size]; omega
          simp [hlt] at h1
        have hold := hf j hj hd fun c hc => by
          have h1 := hcs c hc
          have hne : i ≠ c := fun e => hci (by rw [e]; exact hc)
          rwa [getD_set_ne false hne] at h1
        have hnew : Φ j x w' := by
          by_cases hbi : big i = true
          · rw [if_pos hbi] at hbw; exact hbig i o j x (fun k => done.getD k false) w w' hbi hol (fun e he hbd => hall e (by simpa using he) hbd) (fun c hc => by
              have h1 := hcs c hc
              have hsz2 : i < done.size := by rw [inv.size]; omega
              rw [getD_mark done i hsz2 c] at h1; exact h1) hji hj (fun j oj hj hd e he hbd => inv.closed j oj (by simpa using hj) hd e he hbd) hd (getD_both hun) hold hbw
          · rw [if_neg hbi] at hbw; exact hst j x w w' hold hbw
        obtain ⟨oj, hoj⟩ : ∃ oj, l[j]? = some oj := ⟨l[j]'(by simp at hn; omega), List.getElem?_eq_getElem _⟩
        refine hloc j oj x (upd x i v) w' hoj hj (by simp [upd, hji]) (fun e he hbd => ?_) hnew
        have hde := inv.closed j oj (by simpa using hoj) hd e (by simpa using he) hbd
        have hei : e.on ≠ i := fun q => by rw [q, getD_both hun] at hde; cases hde
        simp [upd, hei]

theorem wp_region_factsH {id : Nat} {Q : Exit → Act → World → Prop} {a : Act} {w : World} {l : List Oper} (n : Nat) (cons : Nat → Option Nat) (big : Nat → Bool) (Φ : Nat → (Nat → Value) → World → Prop) (C : (Nat → Bool) → World → Prop) (G : Nat → World → World → Prop) (hC0 : C (fun _ => false) { w with drawn := w.drawn + 1 }) (hm : P.follows .mixedOrders = true) (hB : factsB l.toArray n = true)
    (hsz : (l.take n).all (fun o => match o.dst with | some d => decide (d < a.tmps.size) | none => true) = true)
    (hloc : ∀ j oj (x y : Nat → Value) w, l[j]? = some oj → j < n → x j = y j → (∀ e ∈ oj.after.toList, Region.binds .any e = true → x e.on = y e.on) → Φ j x w → Φ j y w) (hst : ∀ i x w w', Φ i x w → Below w.heap.size w w' → Φ i x w')
    (hC : ∀ d i w w', C d w → big i = false → d i = false → Below w.heap.size w w' → C (mark d i) w') (hGC : ∀ d i oi w w', l[i]? = some oi → (∀ e ∈ oi.after.toList, Region.binds .any e = true → d e.on = true) → C d w → big i = true → d i = false → G i w w' → C (mark d i) w')
    (hbig : ∀ b ob j x (d : Nat → Bool) w1 w', big b = true → l[b]? = some ob → (∀ e ∈ ob.after.toList, Region.binds .any e = true → d e.on = true) → (∀ c, cons j = some c → mark d b c = false) → j ≠ b → j < n → Closed l d → d j = true → d b = false → Φ j x w1 → G b w1 w' → Φ j x w')
    (hstep : ∀ i o, i < n → l[i]? = some o → ∀ (d : Nat → Bool) (x : Nat → Value) (w' : World), Closed l d → d i = false → (∀ e ∈ o.after.toList, Region.binds .any e = true → d e.on = true) → C d w' → NeedsB .any (fun j => Φ j x w') cons i o.after.toList →
      wpList P l.toArray (Fin1 (Said o.dst a.defers fun v w'' => Φ i (upd x i v) w'' ∧ (if big i = true then G i w' w'' else Below w'.heap.size w' w''))) [o] (putFrom 0 (l.take n) a x) w')
    (hend : ∀ (d : Nat → Bool) (x : Nat → Value) (w' : World), (∀ j, j < n → d j = true) → C d w' → (∀ j, j < n → (∀ c, cons j = some c → n ≤ c) → Φ j x w') → wpList P l.toArray Q (l.drop n) (putFrom 0 (l.take n) a x) w') : (Code.region id l.toArray true).wp P Q a w := by
  have hB' := hB
  simp only [factsB, Bool.and_eq_true, Bool.or_eq_true, decide_eq_true_eq] at hB'
  obtain ⟨⟨⟨⟨hn, hsc⟩, hback⟩, hseq⟩, hdst⟩ := hB'
  refine wp_region_any hm ?_
  have hu : ∀ k, k ≤ l.toArray.size → undone (Array.replicate l.toArray.size false) k = k := by
    intro k
    induction k with
    | zero => intro _; rfl
    | succ k ih =>
      intro hk
      rw [undone, ih (by omega), getD_in (by simp at hk ⊢; omega) (getD_replicate_false _ _)]; simp
  have inv0 : HeadInv .any l.toArray n (Array.replicate l.toArray.size false) :=
    ⟨by simp, fun j oj _ hl => (by rw [getD_replicate_false] at hl; cases hl), fun t _ ht => getD_in (by simpa using ht) (getD_replicate_false _ _)⟩
  have H := wpAny_of_factsH (a0 := a) (Q := Q) cons big Φ C G hB hsz hloc hst hC hGC hbig hstep hend n (Array.replicate l.toArray.size false)
    (fun j => match (l.take n)[j]? with | some o => (match o.dst with | some d => a.tmps.getD d undef | none => undef) | none => undef) { w with drawn := w.drawn + 1 } inv0 (hu n hn) (by rw [show (fun j => (Array.replicate l.toArray.size false).getD j false) = fun _ => false from funext fun j => getD_replicate_false _ _]; exact hC0)
    (fun j _ hl => by rw [getD_replicate_false] at hl; cases hl)
  rw [putFrom_start (l.take n) 0 a _ fun i o d hi hd => by rw [Nat.zero_add]; simp only [hi, hd], show n + (l.toArray.size - n) = l.toArray.size by omega] at H
  exact H
end

end Go.Proofs.YtmagjdocondmhaaGreat
namespace Go.Proofs.YtmagjdocondmhaaGreat
open Go Go.RowKit
section
variable {P : Program}
/-- whether the j-th operation waits for the m-th, through others -/
def waitsB (l : List Oper) (m : Nat) : Nat → Nat → Bool
  | 0, j => j == m
  | f + 1, j => j == m || (match l[j]? with | some o => o.after.toList.any (fun e => Region.binds .any e && waitsB l m f e.on) | none => false)
theorem waits_done {l : List Oper} {d : Nat → Bool} {m : Nat} (hcl : Closed l d) : ∀ f j, waitsB l m f j = true → d j = true → d m = true
  | 0, j, h, hd => by
    have : j = m := by simpa [waitsB] using h
    rw [← this]; exact hd
  | f + 1, j, h, hd => by
    unfold waitsB at h
    rw [Bool.or_eq_true] at h
    rcases h with h | h
    · have : j = m := by simpa using h
      rw [← this]; exact hd
    · split at h
      · rename_i o ho
        rw [List.any_eq_true] at h
        obtain ⟨e, he, h⟩ := h
        rw [Bool.and_eq_true] at h
        exact waits_done hcl f e.on h.2 (hcl j o ho hd e (by simpa using he) h.1)
      · cases h
end
end Go.Proofs.YtmagjdocondmhaaGreat
namespace Go.Proofs.YtmagjdocondmhaaGreat.Tr
open Go Go.RowKit Go.Proofs.YtmagjdocondmhaaGreat.Slc
set_option linter.unusedVariables false
set_option linter.unusedSimpArgs false

/-- a box for facts that simp must not see -/
structure Bx (p : Prop) : Prop where
  out : p
abbrev B := List UInt8
def bstr (b : B) : ByteArray := ⟨b.toArray⟩
theorem bstr_inj {a b : B} (h : bstr a = bstr b) : a = b := by
  unfold bstr at h
  have := congrArg (fun x => x.data.toList) h
  simpa using this
theorem bstr_back (x : ByteArray) : bstr x.data.toList = x := by unfold bstr; simp
theorem bstr_list (b : B) : (bstr b).data.toList = b := by unfold bstr; simp
def encS (d : B) : List Value := [.string (bstr d)]
theorem encS_ok : Enc 1 encS := ⟨fun c => rfl, fun c u hu => by
  simp only [encS, List.mem_singleton] at hu
  subst hu; rfl, by omega⟩
/-- a slice's value -/
structure Sl where
  ad : Option Addr
  n : Nat
  c : Nat
def Sl.val (s : Sl) : Value := .slice s.ad s.n s.c
/-- a node -/
structure Nd where
  d : Int
  p : Int
  pol : B
  ex : List B
/-- a node, and its expected policies' slice in memory -/
structure Nt where
  n : Nd
  u : Sl
instance : Inhabited Nt := ⟨⟨⟨0, 0, [], []⟩, ⟨none, 0, 0⟩⟩⟩
def encN (x : Nt) : List Value := [.int .i64 x.n.d, .int .i64 x.n.p, .string (bstr x.n.pol), x.u.val]
theorem encN_ok : Enc 4 encN := ⟨fun _ => rfl, fun x u hu => by simp [encN] at hu; rcases hu with rfl | rfl | rfl | rfl <;> rfl, by omega⟩
/-- strings that are short enough, and few -/
def Few (l : List B) : Prop := l.length ≤ 100000 ∧ ∀ b ∈ l, b.length ≤ 1000000
def Nd.Ok (n : Nd) : Prop := Few n.ex ∧ n.pol.length ≤ 1000000
/-- the expected policies lie in given blocks -/
def RdIn {α : Type} (w : World) (S : Nat → Prop) (enc : α → List Value) (v : Value) (l : List α) : Prop := Rd w enc v l ∧ ∀ k, v.ownBlock = some k → S k
theorem RdIn.keep {α : Type} {w w' : World} {S : Nat → Prop} {enc : α → List Value} {v : Value} {l : List α} (h : RdIn w S enc v l) (hs : w.heap.size ≤ w'.heap.size) (hb : ∀ k, S k → k < w.heap.size → w'.heap[k]? = w.heap[k]?) : RdIn w' S enc v l := ⟨h.1.keep hs fun k hk hlt => hb k (h.2 k hk) hlt, h.2⟩
theorem RdIn.mono {α : Type} {w : World} {S S' : Nat → Prop} {enc : α → List Value} {v : Value} {l : List α} (h : RdIn w S enc v l) (hS : ∀ k, k < w.heap.size → S k → S' k) : RdIn w S' enc v l := ⟨h.1, fun k hk => hS k (h.1.lt k hk) (h.2 k hk)⟩
def NtIn (w : World) (S : Nat → Prop) (x : Nt) : Prop := RdIn w S encS x.u.val x.n.ex ∧ Nd.Ok x.n
def NtAt (w : World) (x : Nt) : Prop := Rd w encS x.u.val x.n.ex ∧ Nd.Ok x.n
theorem NtAt.below {w w' : World} {x : Nt} (h : NtAt w x) (hb : Below w.heap.size w w') : NtAt w' x := ⟨h.1.below hb, h.2⟩
theorem NtIn.of {w : World} {x : Nt} (h : NtAt w x) : NtIn w (fun k => k < w.heap.size) x := ⟨⟨h.1, h.1.lt⟩, h.2⟩
theorem NtIn.keep {w w' : World} {S : Nat → Prop} {x : Nt} (h : NtIn w S x) (hs : w.heap.size ≤ w'.heap.size) (hb : ∀ k, S k → k < w.heap.size → w'.heap[k]? = w.heap[k]?) : NtIn w' S x := ⟨h.1.keep hs hb, h.2⟩
theorem NtIn.mono {w : World} {S S' : Nat → Prop} {x : Nt} (h : NtIn w S x) (hS : ∀ k, k < w.heap.size → S k → S' k) : NtIn w S' x := ⟨h.1.mono hS, h.2⟩
theorem NtIn.below {w w' : World} {S : Nat → Prop} {x : Nt} (h : NtIn w S x) (hb : Below w.heap.size w w') : NtIn w' S x := h.keep hb.size fun k _ hk => hb.block k hk
theorem NtIn.at_ {w : World} {S : Nat → Prop} {x : Nt} (h : NtIn w S x) : NtAt w x := ⟨h.1.1, h.2⟩
/-- a slice of nodes that can be read -/
structure TL (w : World) (v : Value) (l : List Nt) : Prop where
  rd : Rd w encN v l
  at_ : ∀ x ∈ l, NtAt w x
theorem TL.below {w w' : World} {v : Value} {l : List Nt} (h : TL w v l) (hb : Below w.heap.size w w') : TL w' v l := ⟨h.rd.below hb, fun x hx => (h.at_ x hx).below hb⟩
theorem TL.nil (w : World) : TL w (.slice none 0 0) [] := ⟨Rd.nil w, fun x hx => by cases hx⟩
abbrev nds (l : List Nt) : List Nd := l.map (·.n)
theorem TL.cells {w : World} {ad : Option Addr} {n c : Nat} {l : List Nt} (h : TL w (.slice ad n c) l) : n = l.length ∧ ∀ (W : World), Below w.heap.size w W → ∀ k (hk : k < l.length), ∃ b o, ad = some ⟨b, o, none⟩ ∧ b < w.heap.size ∧ W.cell? ⟨b, o + k * 4, none⟩ = some (.int .i64 (l[k]).n.d) ∧ W.cell? ⟨b, o + k * 4 + 1, none⟩ = some (.int .i64 (l[k]).n.p) ∧ W.cell? ⟨b, o + k * 4 + 2, none⟩ = some (.string (bstr (l[k]).n.pol)) ∧ W.cell? ⟨b, o + k * 4 + 3, none⟩ = some (l[k]).u.val := by
  obtain ⟨ad', c', hv, -⟩ := h.rd.form
  simp only [Value.slice.injEq] at hv
  refine ⟨hv.2.1, fun W hW k hk => ?_⟩
  obtain ⟨b, o, c, hv', _, hlt, hc⟩ := h.rd.cells encN_ok (by omega)
  simp only [Value.slice.injEq] at hv'
  have q := hc W (fun k' hk' => hW.block k' (h.rd.lt k' hk')) k hk
  exact ⟨b, o, hv'.1, hlt, q 0 _ (by omega) rfl, q 1 _ (by omega) rfl, q 2 _ (by omega) rfl, q 3 _ (by omega) rfl⟩
theorem strs_cells {w : World} {ad : Option Addr} {n c : Nat} {l : List B} (h : Rd w encS (.slice ad n c) l) : n = l.length ∧ ∀ (W : World), Below w.heap.size w W → ∀ k (hk : k < l.length), ∃ b o, ad = some ⟨b, o, none⟩ ∧ b < w.heap.size ∧ W.cell? ⟨b, o + k, none⟩ = some (.string (bstr l[k])) := by
  obtain ⟨ad', c', hv, -⟩ := h.form
  simp only [Value.slice.injEq] at hv
  refine ⟨hv.2.1, fun W hW k hk => ?_⟩
  obtain ⟨b, o, c, hv', _, hlt, hc⟩ := h.cells encS_ok (by omega)
  simp only [Value.slice.injEq] at hv'
  have q := hc W (fun k' hk' => hW.block k' (h.lt k' hk')) k hk 0 _ (by omega) rfl
  rw [Nat.mul_one, Nat.add_zero] at q
  exact ⟨b, o, hv'.1, hlt, q⟩
/-- strings that came in: they can be read, or there are none -/
def Rq (w : World) (v : Value) (l : List B) : Prop := (l = [] ∧ ∃ a c, v = .slice a 0 c) ∨ Rd w encS v l
theorem Rq.form {w : World} {v : Value} {l : List B} (h : Rq w v l) : ∃ ad c, v = .slice ad l.length c ∧ True := by
  rcases h with ⟨rfl, a, c, rfl⟩ | h
  · exact ⟨_, _, rfl, trivial⟩
  · obtain ⟨ad, c, h, -⟩ := h.form; exact ⟨_, _, h, trivial⟩
theorem Rq.below {w w' : World} {v : Value} {l : List B} (h : Rq w v l) (hb : Below w.heap.size w w') : Rq w' v l := h.imp id fun q => q.below hb
theorem Rq.rd {w : World} {v : Value} {l : List B} (h : Rq w v l) (hp : 0 < l.length) : Rd w encS v l := by
  rcases h with ⟨rfl, -⟩ | h
  · simp at hp
  · exact h
theorem strs_cells_q {w : World} {ad : Option Addr} {n c : Nat} {l : List B} (h : Rq w (.slice ad n c) l) : n = l.length ∧ ∀ (W : World), Below w.heap.size w W → ∀ k (hk : k < l.length), ∃ b o, ad = some ⟨b, o, none⟩ ∧ b < w.heap.size ∧ W.cell? ⟨b, o + k, none⟩ = some (.string (bstr l[k])) := by
  rcases h with ⟨rfl, a, c', h⟩ | h
  · simp only [Value.slice.injEq] at h
    exact ⟨h.2.1, fun W _ k hk => by simp at hk⟩
  · exact strs_cells h
def NqAt (w : World) (x : Nt) : Prop := Rq w x.u.val x.n.ex ∧ Nd.Ok x.n
/-- a slice of nodes that came in -/
structure TQ (w : World) (v : Value) (l : List Nt) : Prop where
  rd : Rd w encN v l
  at_ : ∀ x ∈ l, NqAt w x
theorem TL.tq {w : World} {v : Value} {l : List Nt} (h : TL w v l) : TQ w v l := ⟨h.rd, fun x hx => ⟨.inr (h.at_ x hx).1, (h.at_ x hx).2⟩⟩
theorem TQ.below {w w' : World} {v : Value} {l : List Nt} (h : TQ w v l) (hb : Below w.heap.size w w') : TQ w' v l := ⟨h.rd.below hb, fun x hx => ⟨(h.at_ x hx).1.below hb, (h.at_ x hx).2⟩⟩
theorem TQ.cells {w : World} {ad : Option Addr} {n c : Nat} {l : List Nt} (h : TQ w (.slice ad n c) l) : n = l.length ∧ ∀ (W : World), Below w.heap.size w W → ∀ k (hk : k < l.length), ∃ b o, ad = some ⟨b, o, none⟩ ∧ b < w.heap.size ∧ W.cell? ⟨b, o + k * 4, none⟩ = some (.int .i64 (l[k]).n.d) ∧ W.cell? ⟨b, o + k * 4 + 1, none⟩ = some (.int .i64 (l[k]).n.p) ∧ W.cell? ⟨b, o + k * 4 + 2, none⟩ = some (.string (bstr (l[k]).n.pol)) ∧ W.cell? ⟨b, o + k * 4 + 3, none⟩ = some (l[k]).u.val := by
  obtain ⟨ad', c', hv, -⟩ := h.rd.form
  simp only [Value.slice.injEq] at hv
  refine ⟨hv.2.1, fun W hW k hk => ?_⟩
  obtain ⟨b, o, c, hv', _, hlt, hc⟩ := h.rd.cells encN_ok (by omega)
  simp only [Value.slice.injEq] at hv'
  have q := hc W (fun k' hk' => hW.block k' (h.rd.lt k' hk')) k hk
  exact ⟨b, o, hv'.1, hlt, q 0 _ (by omega) rfl, q 1 _ (by omega) rfl, q 2 _ (by omega) rfl, q 3 _ (by omega) rfl⟩
/-- a slice of nodes that the call owns; their strings lie in other blocks -/
structure TO (w : World) (B : Nat) (v : Value) (l : List Nt) : Prop where
  own : Go.Proofs.YtmagjdocondmhaaGreat.Slc.Own w B 111 4 encN v l
  nm : ∀ x ∈ l, NtIn w (fun k => v.ownBlock ≠ some k) x
theorem TO.below {w w' : World} {B : Nat} {v : Value} {l : List Nt} (h : TO w B v l) (hb : Below w.heap.size w w') : TO w' B v l := ⟨h.own.below hb, fun x hx => (h.nm x hx).below hb⟩
theorem TO.nil (w : World) (B : Nat) : TO w B (.slice none 0 0) [] := ⟨Go.Proofs.YtmagjdocondmhaaGreat.Slc.Own.nil _ _, fun x hx => by cases hx⟩
theorem TO.mono {w : World} {B B' : Nat} {v : Value} {l : List Nt} (h : TO w B v l) (hB : B' ≤ B) : TO w B' v l := ⟨h.own.mono hB, h.nm⟩
/-- a slice that the call grows -/
structure GT (W : World) (B : Nat) (wr : World) (v : Value) (l : List Nt) : Prop where
  to : TO wr B v l
  bel : Below B W wr
  le : B ≤ W.heap.size
theorem GT.nil (W : World) (B : Nat) (h : B ≤ W.heap.size) : GT W B W (.slice none 0 0) [] := ⟨TO.nil _ _, Below.refl _ _, h⟩
theorem GT.sz {W wr : World} {B : Nat} {v : Value} {l : List Nt} (h : GT W B wr v l) : B ≤ wr.heap.size := Nat.le_trans h.le h.bel.size
theorem GT.below {W wr w1 : World} {B : Nat} {v : Value} {l : List Nt} (h : GT W B wr v l) (hb : Below wr.heap.size wr w1) : GT W B w1 v l := ⟨h.to.below hb, h.bel.trans (hb.mono h.sz), h.le⟩
theorem GT.form {W wr : World} {B : Nat} {v : Value} {l : List Nt} (h : GT W B wr v l) : ∃ ad c, v = .slice ad l.length c ∧ l.length ≤ c := h.to.own.rd.form
theorem GT.apd {W wr w' : World} {B a b : Nat} {v v' : Value} {l m : List Nt} {xs news : List Value} (h : GT W B wr v l) (hm : ∀ x ∈ m, NtIn wr (fun k => v.ownBlock ≠ some k) x) (hx : xs = l.flatMap encN) (hy : news = m.flatMap encN) (ha : a = l.length) (hb : b = m.length) (h' : Apd wr B 111 4 v a b xs news v' w') : GT W B w' v' (l ++ m) := by
  have key : ∀ x, NtIn wr (fun k => v.ownBlock ≠ some k) x → NtIn w' (fun k => v'.ownBlock ≠ some k) x := by
    intro x hx
    refine NtIn.mono (S := fun k => v.ownBlock ≠ some k ∧ k < wr.heap.size) ((hx.mono fun k hk h1 => ⟨h1, hk⟩).keep h'.grown.size fun k hk hlt => h'.grown.block k hlt fun e => hk.1 e.symm) ?_
    intro k _ hk e
    rcases h'.blk with q | q
    · exact hk.1 (by rw [← q]; exact e)
    · rw [q] at e; simp only [Option.some.injEq] at e; omega
  refine ⟨⟨h.to.own.apd hx hy ha hb h', fun x hx => ?_⟩, h.bel.grown h'.grown h.sz fun k hk => (h.to.own.lt k hk).1, h.le⟩
  rcases List.mem_append.1 hx with q | q
  · exact key x (h.to.nm x q)
  · exact key x (hm x q)
/-- a node that lies below B, beside a slice that is owned from B on -/
theorem NtAt.other {W wr : World} {B : Nat} {v : Value} {l : List Nt} {x : Nt} (h : GT W B wr v l) (hx : NtAt W x) (hB : ∀ k, k < W.heap.size → k < B) : NtIn wr (fun k => v.ownBlock ≠ some k) x :=
  NtIn.mono (S := fun k => k < W.heap.size) ((NtIn.of hx).keep h.bel.size fun k hk _ => h.bel.block k (hB k hk)) fun k _ hk e => by have := (h.to.own.lt k e).1; have := hB k hk; omega
theorem info_node : (Tryz.prog.info? 111).map (fun i => (i.zero, i.size, i.bytes)) = some (some (.agg #[.int .i64 0, .int .i64 0, .string ⟨#[]⟩, .slice none 0 0]), 4, 56) := by kernel_rfl
theorem info_str : (Tryz.prog.info? 9).map (fun i => (i.zero, i.size, i.bytes)) = some (some (.string ⟨#[]⟩), 1, 16) := by kernel_rfl
theorem info_parts {i : Option TypeInfo} {z : Value} {n b : Nat} (h : i.map (fun i => (i.zero, i.size, i.bytes)) = some (some z, n, b)) : ∃ j, i = some j ∧ j.zero = some z ∧ j.size = n ∧ j.bytes = b := by
  cases i with
  | none => cases h
  | some j => simp only [Option.map_some, Option.some.injEq, Prod.mk.injEq] at h; exact ⟨j, rfl, h.1, h.2.1, h.2.2⟩
theorem und_nodes : Tryz.prog.underlying 54 = some (.slice 111) := by kernel_rfl
theorem und_strs : Tryz.prog.underlying 34 = some (.slice 9) := by kernel_rfl
theorem lt_of_some {w : World} {k : Nat} {ob : Obj} (h : w.heap[k]? = some ob) : k < w.heap.size := by
  rcases Nat.lt_or_ge k w.heap.size with q | q
  · exact q
  · rw [Array.getElem?_eq_none q] at h; cases h
end Go.Proofs.YtmagjdocondmhaaGreat.Tr
