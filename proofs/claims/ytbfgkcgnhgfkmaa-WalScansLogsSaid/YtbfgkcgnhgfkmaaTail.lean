/-
  Regions that draw their order and whose calls may make memory: one walk of the lexical order, in the class of the worlds that agree with a given one on all that was there.
-/
/-
  A region that draws its order and ends in a forced tail (a store, an allocation): the head is walked once, in the class of the worlds that agree with a given one on all that was there; the tail is walked as a plain list, in whatever world of the class the head has left.
-/
import Derived.WalkKit
import Derived.BigQuiet
import Derived.Lib.Hide
import Derived.StillTail
namespace Go.Proofs.Ytbfgkcgnhgfkmaa
open Go.RowKit

/-- a world that has what w has, and perhaps more -/
structure Ext (w : World) where
  out : World
  bel : Below w.heap.size w out

theorem Ext.cell {w : World} (e : Ext w) {b o : Nat} (h : b < w.heap.size) : e.out.cell? ⟨b, o, none⟩ = w.cell? ⟨b, o, none⟩ := e.bel.cell (p := ⟨b, o, none⟩) h

/-- a callee's contract, met in such a world -/
theorem ext_of {P : Program} {f : FuncId} {args : Array Value} {w : World} {e : Ext w} {v : Value}
    (h : Calls P f args e.out fun r w' => r = .returned v ∧ Below e.out.heap.size e.out w') : Calls P f args e.out fun r w'' => r = .returned v ∧ ∃ e' : Ext w, w'' = e'.out :=
  h.mono fun _ _ ⟨he, hb⟩ => ⟨he, ⟨_, e.bel.trans (hb.mono e.bel.size)⟩, rfl⟩
theorem ext_of_same {P : Program} {f : FuncId} {args : Array Value} {w : World} {e : Ext w} {v : Value}
    (h : Calls P f args e.out fun r w' => r = .returned v ∧ e.out = w') : Calls P f args e.out fun r w'' => r = .returned v ∧ ∃ e' : Ext w, w'' = e'.out :=
  h.mono fun _ _ ⟨he, hb⟩ => ⟨he, e, hb.symm⟩

/-- one walk of the lexical order serves every order -/
theorem wp_region_ext {P : Program} {id : Nat} {Q : Exit → Act → World → Prop} {a : Act} {w : World} (e0 : Ext w) {l : List Oper} (hm : P.follows .mixedOrders = true) (hB : Region.lexB .any l.toArray = true)
    (h : wpQuiet P l.toArray (fun w' => ∃ e : Ext w, w' = e.out) (fun a' => ∀ w', (∃ e : Ext w, w' = e.out) → Q .normal a' w') l a) : (Code.region id l.toArray true).wp P Q a e0.out :=
  wp_region_quiet (C := fun w' => ∃ e : Ext w, w' = e.out) hm hB ⟨⟨_, e0.bel.drew⟩, rfl⟩ (by simpa using h)
def Ext.self (w : World) : Ext w := ⟨w, Below.refl _ _⟩
instance Ext.some (w : World) : Nonempty (Ext w) := ⟨Ext.self w⟩
/-- the same from the world itself -/
theorem wp_region_self {P : Program} {id : Nat} {Q : Exit → Act → World → Prop} {a : Act} {w : World} {l : List Oper} (hm : P.follows .mixedOrders = true) (hB : Region.lexB .any l.toArray = true)
    (h : wpQuiet P l.toArray (fun w' => ∃ e : Ext w, w' = e.out) (fun a' => ∀ w', (∃ e : Ext w, w' = e.out) → Q .normal a' w') l a) : (Code.region id l.toArray true).wp P Q a w :=
  wp_region_ext (Ext.self w) hm hB h

/-- the world behind a call, or behind a step, is one of the class again -/
theorem Ext.next {w w' : World} (e : Ext w) (h : Below e.out.heap.size e.out w') : ∃ e' : Ext w, w' = e'.out := ⟨⟨_, e.bel.trans (h.mono e.bel.size)⟩, rfl⟩

/-- a store into the block that the call made first -/
theorem below_own {w a w' : World} (h : Below w.heap.size a w') (o : Nat) (v : Value) : Below w.heap.size a (w'.setCell ⟨w.heap.size, o, none⟩ v) := h.setCell (Nat.le_refl _) v

end Go.Proofs.Ytbfgkcgnhgfkmaa

namespace Go.Proofs.Ytbfgkcgnhgfkmaa
open Go Go.RowKit

section
variable {P : Program} {ops : Array Oper} {md : Region.Mode} {C : World → Prop}

/-- the head of the region, in whatever order; then L of what has been listed -/
def headAny (P : Program) (md : Region.Mode) (ops : Array Oper) (C : World → Prop) (n : Nat) (L : Array Bool → Act → Prop) : Nat → Array Bool → Act → Prop
  | 0, done, a => L done a
  | f + 1, done, a => Region.ready md ops done ≠ [] ∧ ∀ i ∈ Region.ready md ops done, i < n ∧ qOp P ops C i (headAny P md ops C n L f (done.setIfInBounds i true)) a

theorem any_of_head {n g : Nat} {L : Array Bool → Act → Prop} {Q : Exit → Act → World → Prop} (hL : ∀ done a w, C w → L done a → wpAny P md ops Q g done a w) :
    ∀ (f : Nat) (done : Array Bool) (a : Act) (w : World), C w → headAny P md ops C n L f done a → wpAny P md ops Q (f + g) done a w
  | 0, done, a, w, hw, h => by rw [Nat.zero_add]; exact hL _ _ _ hw h
  | f + 1, done, a, w, hw, h => by
    rw [show f + 1 + g = (f + g) + 1 by omega]
    refine ⟨fun h0 => absurd h0 h.1, fun i hi => ?_⟩
    exact wpOp_of_qOp hw (fun a' w' hw' h' => any_of_head hL f _ a' w' hw' h') (h.2 i hi).2

theorem head_first {n i : Nat} {oi : Oper} {v : Value} {L : Array Bool → Act → Prop} (hi : ops[i]? = some oi) (hsel : ∀ (j : Nat) (o : Oper) cs b, ops[j]? = some o → o.op ≠ .select cs b)
    (hs : Region.sinkB md ops n = true) (hc : Region.chainB md ops n = true) (hn : n < ops.size) (hin : i < n)
    (hdone : ∀ done a, L done a → ∀ j ∈ Region.ready md ops done, n ≤ j) :
    ∀ (f : Nat) (done : Array Bool) (a : Act), HeadInv md ops n done →
      (∀ j oj, ops[j]? = some oj → j ≠ i → done.getD j true = false → (∀ e ∈ oj.after, Region.binds md e = true → e.on ≠ i) → oi.apart ops oj = true) →
      i ∈ Region.ready md ops done → YieldsIn P ops C oi v a →
      headAny P md ops C n L f (done.setIfInBounds i true) (a.put oi.dst v) → headAny P md ops C n L (f + 1) done a
  | 0, done, a, inv, _, hr, hy, H => by
    refine ⟨fun h => (by rw [h] at hr; cases hr), fun j hj => ?_⟩
    have hjn : j < n := by
      rcases Nat.lt_or_ge j n with h | h
      · exact h
      · exact absurd hj (tail_waits hs hc hn inv _ i rfl hin (mem_ready.1 hr).1 j h)
    refine ⟨hjn, ?_⟩
    by_cases hji : j = i
    · subst hji; exact hy.qOp hi H
    · have := hdone _ _ H j (ready_mono hj hji)
      omega
  | f + 1, done, a, inv, hfree, hr, hy, H => by
    have hun := (mem_ready.1 hr).1
    refine ⟨fun h => (by rw [h] at hr; cases hr), fun j hj => ?_⟩
    have hjn : j < n := by
      rcases Nat.lt_or_ge j n with h | h
      · exact h
      · exact absurd hj (tail_waits hs hc hn inv _ i rfl hin hun j h)
    refine ⟨hjn, ?_⟩
    by_cases hji : j = i
    · subst hji; exact hy.qOp hi H
    · have h1 := (H.2 j (ready_mono hj hji)).2
      obtain ⟨hjun, oj, hoj, hall⟩ := mem_ready.1 hj
      have hnot : ∀ e ∈ oj.after, Region.binds md e = true → e.on ≠ i := fun e he hb heq => by
        have h2 := hall e he hb
        rw [heq, getD_both hun] at h2
        cases h2
      have h2 := qOp_put hoj (hfree j oj hoj hji hjun hnot) (fun cs b => hsel i oi cs b hi) (fun cs b => hsel j oj cs b hoj) hy h1
      have hfree' : ∀ k ok, ops[k]? = some ok → k ≠ i → (done.setIfInBounds j true).getD k true = false →
          (∀ e ∈ ok.after, Region.binds md e = true → e.on ≠ i) → oi.apart ops ok = true := fun k ok hk hki hkun hno => by
        refine hfree k ok hk hki ?_ hno
        by_cases hjk : j = k
        · subst hjk; exact hjun
        · rw [getD_set_ne true hjk] at hkun; exact hkun
      refine qOp_mono (fun a' h3 => head_first hi hsel hs hc hn hin hdone f (done.setIfInBounds j true) a' (inv.set hj hjn) hfree' (ready_mono hr (Ne.symm hji)) h3.1 ?_) h2
      rw [Array.setIfInBounds_comm _ _ hji]
      exact h3.2

theorem head_lex {n g : Nat} {Lq : Act → Prop} (hsel : Region.noSelect ops = true) (hs : Region.sinkB md ops n = true) (hc : Region.chainB md ops n = true) (hn : n < ops.size) :
    ∀ (l : List Oper) (k : Nat) (done : Array Bool) (a : Act), (∀ j, j < l.length → l[j]? = ops[k + j]?) → k + l.length = n → HeadInv md ops n done →
    Region.lexHead md ops g l.length k done = true → wpQuiet P ops C Lq l a →
    headAny P md ops C n (fun done' a' => Region.seqB md ops g n done' = true ∧ Lq a') l.length done a
  | [], k, done, a, _, hk, _, hB, h => by
    obtain rfl : k = n := by simpa using hk
    exact ⟨by simpa [Region.lexHead] using hB, h⟩
  | o :: l, k, done, a, hl, hk, inv, hB, h => by
    have h0 : ops[k]? = some o := by simpa using (hl 0 (by simp)).symm
    simp only [List.length_cons, Region.lexHead, Bool.and_eq_true] at hB
    obtain ⟨⟨hr, hf⟩, hB'⟩ := hB
    have hkn : k < n := by simp only [List.length_cons] at hk; omega
    have hr' : k ∈ Region.ready md ops done := by simpa using hr
    have hst : qOp P ops C k (wpQuiet P ops C Lq l) a := by unfold qOp; simp only [h0]; exact h
    obtain ⟨v, hy, hK⟩ := yieldsIn_of_qOp h0 hst
    exact head_first h0 (Region.noSelect_spec hsel) hs hc hn hkn (fun done' a' hL => seqB_ready hL.1) l.length done a inv (Region.free_spec h0 hf) hr' hy
      (head_lex hsel hs hc hn l (k + 1) _ _ (fun j hj => by have := hl (j + 1) (by simp; omega); simpa [Nat.add_assoc, Nat.add_comm 1 j] using this) (by simp only [List.length_cons] at hk; omega) (inv.set hr' hkn) hB' hK)

theorem wp_region_tail {id : Nat} {Q : Exit → Act → World → Prop} {a : Act} {w : World} {l : List Oper} (n : Nat) (hm : P.follows .mixedOrders = true) (hB : Region.lexTailB .any l.toArray n = true)
    (hC : C { w with drawn := w.drawn + 1 })
    (h : wpQuiet P l.toArray C (fun a' => ∀ w', C w' → wpList P l.toArray Q (l.drop n) a' w') (l.take n) a) : (Code.region id l.toArray true).wp P Q a w := by
  simp only [Region.lexTailB, Bool.and_eq_true, decide_eq_true_eq] at hB
  obtain ⟨⟨⟨⟨hsel, hn⟩, hs⟩, hc⟩, hlex⟩ := hB
  have htl : (l.take n).length = n := by simp at hn ⊢; omega
  have hdl : (l.drop n).length = l.toArray.size - n := by simp
  have inv0 : HeadInv .any l.toArray n (Array.replicate l.toArray.size false) :=
    ⟨by simp, fun j oj _ hl => (by rw [getD_replicate_false] at hl; cases hl), fun t _ ht => getD_in (by simpa using ht) (getD_replicate_false _ _)⟩
  have H := head_lex (md := .any) (g := l.toArray.size - n) hsel hs hc hn (l.take n) 0 _ a (fun j hj => by
    have hj' : j < n := by rw [htl] at hj; exact hj
    simp [hj']) (by simpa using htl) inv0 (by rw [htl]; exact hlex) h
  refine wp_region_any hm ?_
  have := any_of_head (Q := Q) (g := l.toArray.size - n) (fun done a' w' hw' hL => by
    have := wpAny_of_seq (md := .any) (Q' := Q) (l.drop n) n done a' w' (fun j => by simp [List.getElem?_drop]) (by rw [hdl]; exact hL.1) (hL.2 w' hw')
    rwa [hdl] at this) _ _ _ _ hC H
  rw [htl, show n + (l.toArray.size - n) = l.toArray.size by omega] at this
  exact this
end

/-- at the class of the worlds that have what w has -/
theorem wp_region_ext_tail {P : Program} {id : Nat} {Q : Exit → Act → World → Prop} {a : Act} {w : World} (n : Nat) (e0 : Ext w) {l h t : List Oper} (hm : P.follows .mixedOrders = true) (hB : Region.lexTailB .any l.toArray n = true)
    (hh : l.take n = h) (ht : l.drop n = t)
    (H : wpQuiet P l.toArray (fun w' => ∃ e : Ext w, w' = e.out) (fun a' => ∀ w', (∃ e : Ext w, w' = e.out) → wpList P l.toArray Q t a' w') h a) : (Code.region id l.toArray true).wp P Q a e0.out := by
  subst hh ht
  exact wp_region_tail n hm hB ⟨⟨_, e0.bel.drew⟩, rfl⟩ H

end Go.Proofs.Ytbfgkcgnhgfkmaa
