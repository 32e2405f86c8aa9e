/- packed -/
import Derived.WalkKit
import Derived.BigQuiet
import Derived.Lib.Hide
import Derived.StillTail
import Derived.Maps.AppendAt
import Derived.Laws.AppendOwnNone
import Derived.OwnWalk
import Derived.Laws.OwnMore
import Derived.Deep.Upon
import Derived.Laws.Slices
import Derived.OneCell
import Derived.Laws.Rows
import Derived.Sort.Walk0
import Derived.Sort.EncStr
set_option linter.unusedVariables false
set_option linter.unusedSimpArgs false
set_option maxRecDepth 100000
set_option maxHeartbeats 64000000
theorem zM {α : Type _} {l : List α} {n : Nat} (h : n < l.length) : l[n] ∈ l := List.getElem_mem h
theorem zO {α : Type _} (a b : α) : (some a = some b) = (a = b) := Option.some.injEq a b
theorem zF {p : Prop} [i : Decidable p] (h : ¬p) : decide p = false := decide_eq_false h
theorem zT {p : Prop} [i : Decidable p] (h : p) : decide p = true := decide_eq_true h
theorem zS {α : Type _} {a b : α} : a ∈ [b] ↔ a = b := List.mem_singleton
theorem zL {α : Type _} {l : List α} {i : Nat} {a : α} : (l.set i a).length = l.length := List.length_set
theorem zA {α : Type _} {i : Nat} {l : List α} (h : i < l.length) : l.take (i + 1) = l.take i ++ [l[i]] := List.take_succ_eq_append_getElem h
theorem zR (n : Nat) : n ≤ n := Nat.le_refl n
namespace Go.Proofs.YtmagjdocondmhaaGreat
open Go.RowKit
structure Ext (w : World) where
 out : World
 bel : Below w.heap.size w out
theorem ext_of {P : Program} {f : FuncId} {args : Array Value} {w : World} {e : Ext w} {v : Value}
  (h : Calls P f args e.out fun r w' => r = .returned v /\ Below e.out.heap.size e.out w') : Calls P f args e.out fun r w'' => r = .returned v /\ ∃ e' : Ext w, w'' = e'.out :=
 h.mono fun _ _ ⟨he, hb⟩ => ⟨he, ⟨_, e.bel.trans (hb.mono e.bel.size)⟩, rfl⟩
theorem wp_region_ext {P : Program} {id : Nat} {Q : Exit -> Act -> World -> Prop} {a : Act} {w : World} (e0 : Ext w) {l : List Oper} (hm : P.follows .mixedOrders = true) (hB : Region.lexB .any l.toArray = true)
  (h : wpQuiet P l.toArray (fun w' => ∃ e : Ext w, w' = e.out) (fun a' => ∀ w', (∃ e : Ext w, w' = e.out) -> Q .normal a' w') l a) : (Code.region id l.toArray true).wp P Q a e0.out :=
 wp_region_quiet (C := fun w' => ∃ e : Ext w, w' = e.out) hm hB ⟨⟨_, e0.bel.drew⟩, rfl⟩ (by simpa using h)
def Ext.self (w : World) : Ext w := ⟨w, Below.refl _ _⟩
instance Ext.some (w : World) : Nonempty (Ext w) := ⟨Ext.self w⟩
theorem wp_region_self {P : Program} {id : Nat} {Q : Exit -> Act -> World -> Prop} {a : Act} {w : World} {l : List Oper} (hm : P.follows .mixedOrders = true) (hB : Region.lexB .any l.toArray = true)
  (h : wpQuiet P l.toArray (fun w' => ∃ e : Ext w, w' = e.out) (fun a' => ∀ w', (∃ e : Ext w, w' = e.out) -> Q .normal a' w') l a) : (Code.region id l.toArray true).wp P Q a w :=
 wp_region_ext (Ext.self w) hm hB h
end Go.Proofs.YtmagjdocondmhaaGreat
namespace Go.Proofs.YtmagjdocondmhaaGreat
open Go Go.RowKit
section
variable {P : Program} {ops : Array Oper} {md : Region.Mode} {C : World -> Prop}
def headAny (P : Program) (md : Region.Mode) (ops : Array Oper) (C : World -> Prop) (n : Nat) (L : Array Bool -> Act -> Prop) : Nat -> Array Bool -> Act -> Prop
 | 0, done, a => L done a
 | f + 1, done, a => Region.ready md ops done ≠ [] /\ ∀ i ∈ Region.ready md ops done, i < n /\ qOp P ops C i (headAny P md ops C n L f (done.setIfInBounds i true)) a
theorem any_of_head {n g : Nat} {L : Array Bool -> Act -> Prop} {Q : Exit -> Act -> World -> Prop} (hL : ∀ done a w, C w -> L done a -> wpAny P md ops Q g done a w) :
  ∀ (f : Nat) (done : Array Bool) (a : Act) (w : World), C w -> headAny P md ops C n L f done a -> wpAny P md ops Q (f + g) done a w
 | 0, done, a, w, hw, h => by rw [Nat.zero_add]; exact hL _ _ _ hw h
 | f + 1, done, a, w, hw, h => by
  rw [show f + 1 + g = (f + g) + 1 by omega];refine ⟨fun h0 => absurd h0 h.1, fun i hi => ?_⟩;exact wpOp_of_qOp hw (fun a' w' hw' h' => any_of_head hL f _ a' w' hw' h') (h.2 i hi).2
theorem head_first {n i : Nat} {oi : Oper} {v : Value} {L : Array Bool -> Act -> Prop} (hi : ops[i]? = some oi) (hsel : ∀ (j : Nat) (o : Oper) cs b, ops[j]? = some o -> o.op ≠ .select cs b)
  (hs : Region.sinkB md ops n = true) (hc : Region.chainB md ops n = true) (hn : n < ops.size) (hin : i < n)
  (hdone : ∀ done a, L done a -> ∀ j ∈ Region.ready md ops done, n <= j) :
  ∀ (f : Nat) (done : Array Bool) (a : Act), HeadInv md ops n done ->
   (∀ j oj, ops[j]? = some oj -> j ≠ i -> done.getD j true = false -> (∀ e ∈ oj.after, Region.binds md e = true -> e.on ≠ i) -> oi.apart ops oj = true) ->
   i ∈ Region.ready md ops done -> YieldsIn P ops C oi v a ->
   headAny P md ops C n L f (done.setIfInBounds i true) (a.put oi.dst v) -> headAny P md ops C n L (f + 1) done a
 | 0, done, a, inv, _, hr, hy, H => by
  refine ⟨fun h => (by rw [h] at hr; cases hr), fun j hj => ?_⟩
  have hjn : j < n := by
   rcases Nat.lt_or_ge j n with h | h
   ·exact h
   ·exact absurd hj (tail_waits hs hc hn inv _ i rfl hin (mem_ready.1 hr).1 j h)
  refine ⟨hjn, ?_⟩;by_cases hji : j = i
  ·subst hji; exact hy.qOp hi H
  ·have := hdone _ _ H j (ready_mono hj hji)
   omega
 | f + 1, done, a, inv, hfree, hr, hy, H => by
  have hun := (mem_ready.1 hr).1;refine ⟨fun h => (by rw [h] at hr; cases hr), fun j hj => ?_⟩
  have hjn : j < n := by
   rcases Nat.lt_or_ge j n with h | h
   ·exact h
   ·exact absurd hj (tail_waits hs hc hn inv _ i rfl hin hun j h)
  refine ⟨hjn, ?_⟩;by_cases hji : j = i
  ·subst hji; exact hy.qOp hi H
  ·have h1 := (H.2 j (ready_mono hj hji)).2;obtain ⟨hjun, oj, hoj, hall⟩ := mem_ready.1 hj
   have hnot : ∀ e ∈ oj.after, Region.binds md e = true -> e.on ≠ i := fun e he hb heq => by
    have h2 := hall e he hb;rw [heq, getD_both hun] at h2
    cases h2
   have h2 := qOp_put hoj (hfree j oj hoj hji hjun hnot) (fun cs b => hsel i oi cs b hi) (fun cs b => hsel j oj cs b hoj) hy h1
   have hfree' : ∀ k ok, ops[k]? = some ok -> k ≠ i -> (done.setIfInBounds j true).getD k true = false ->
     (∀ e ∈ ok.after, Region.binds md e = true -> e.on ≠ i) -> oi.apart ops ok = true := fun k ok hk hki hkun hno => by
    refine hfree k ok hk hki ?_ hno;by_cases hjk : j = k
    ·subst hjk; exact hjun
    ·rw [getD_set_ne true hjk] at hkun; exact hkun
   refine qOp_mono (fun a' h3 => head_first hi hsel hs hc hn hin hdone f (done.setIfInBounds j true) a' (inv.set hj hjn) hfree' (ready_mono hr (Ne.symm hji)) h3.1 ?_) h2;rw [Array.setIfInBounds_comm _ _ hji];exact h3.2
theorem head_lex {n g : Nat} {Lq : Act -> Prop} (hsel : Region.noSelect ops = true) (hs : Region.sinkB md ops n = true) (hc : Region.chainB md ops n = true) (hn : n < ops.size) :
  ∀ (l : List Oper) (k : Nat) (done : Array Bool) (a : Act), (∀ j, j < l.length -> l[j]? = ops[k + j]?) -> k + l.length = n -> HeadInv md ops n done ->
  Region.lexHead md ops g l.length k done = true -> wpQuiet P ops C Lq l a ->
  headAny P md ops C n (fun done' a' => Region.seqB md ops g n done' = true /\ Lq a') l.length done a
 | [], k, done, a, _, hk, _, hB, h => by
  obtain rfl : k = n := by simpa using hk
  exact ⟨by simpa [Region.lexHead] using hB, h⟩
 | o :: l, k, done, a, hl, hk, inv, hB, h => by
  have h0 : ops[k]? = some o := by simpa using (hl 0 (by simp)).symm
  simp only [List.length_cons, Region.lexHead, Bool.and_eq_true] at hB
  obtain ⟨⟨hr, hf⟩, hB'⟩ := hB;have hkn : k < n := by simp only [List.length_cons] at hk; omega
  have hr' : k ∈ Region.ready md ops done := by simpa using hr
  have hst : qOp P ops C k (wpQuiet P ops C Lq l) a := by unfold qOp; simp only [h0]; exact h
  obtain ⟨v, hy, hK⟩ := yieldsIn_of_qOp h0 hst
  exact head_first h0 (Region.noSelect_spec hsel) hs hc hn hkn (fun done' a' hL => seqB_ready hL.1) l.length done a inv (Region.free_spec h0 hf) hr' hy
   (head_lex hsel hs hc hn l (k + 1) _ _ (fun j hj => by have := hl (j + 1) (by simp; omega); simpa [Nat.add_assoc, Nat.add_comm 1 j] using this) (by simp only [List.length_cons] at hk; omega) (inv.set hr' hkn) hB' hK)
theorem wp_region_tail {id : Nat} {Q : Exit -> Act -> World -> Prop} {a : Act} {w : World} {l : List Oper} (n : Nat) (hm : P.follows .mixedOrders = true) (hB : Region.lexTailB .any l.toArray n = true)
  (hC : C { w with drawn := w.drawn + 1 })
  (h : wpQuiet P l.toArray C (fun a' => ∀ w', C w' -> wpList P l.toArray Q (l.drop n) a' w') (l.take n) a) : (Code.region id l.toArray true).wp P Q a w := by
 simp only [Region.lexTailB, Bool.and_eq_true, decide_eq_true_eq] at hB
 obtain ⟨⟨⟨⟨hsel, hn⟩, hs⟩, hc⟩, hlex⟩ := hB;have htl : (l.take n).length = n := by simp at hn |-; omega
 have hdl : (l.drop n).length = l.toArray.size - n := by simp
 have inv0 : HeadInv .any l.toArray n (Array.replicate l.toArray.size false) :=
  ⟨by simp, fun j oj _ hl => (by rw [getD_replicate_false] at hl; cases hl), fun t _ ht => getD_in (by simpa using ht) (getD_replicate_false _ _)⟩
 have H := head_lex (md := .any) (g := l.toArray.size - n) hsel hs hc hn (l.take n) 0 _ a (fun j hj => by
  have hj' : j < n := by rw [htl] at hj; exact hj
  simp [hj']) (by simpa using htl) inv0 (by rw [htl]; exact hlex) h
 refine wp_region_any hm ?_
 have := any_of_head (Q := Q) (g := l.toArray.size - n) (fun done a' w' hw' hL => by
  have := wpAny_of_seq (md := .any) (Q' := Q) (l.drop n) n done a' w' (fun j => by simp [List.getElem?_drop]) (by rw [hdl]; exact hL.1) (hL.2 w' hw')
  rwa [hdl] at this) _ _ _ _ hC H
 rw [htl, show n + (l.toArray.size - n) = l.toArray.size by omega] at this;exact this
end
theorem wp_region_ext_tail {P : Program} {id : Nat} {Q : Exit -> Act -> World -> Prop} {a : Act} {w : World} (n : Nat) (e0 : Ext w) {l h t : List Oper} (hm : P.follows .mixedOrders = true) (hB : Region.lexTailB .any l.toArray n = true)
  (hh : l.take n = h) (ht : l.drop n = t)
  (H : wpQuiet P l.toArray (fun w' => ∃ e : Ext w, w' = e.out) (fun a' => ∀ w', (∃ e : Ext w, w' = e.out) -> wpList P l.toArray Q t a' w') h a) : (Code.region id l.toArray true).wp P Q a e0.out := by
 subst hh ht;exact wp_region_tail n hm hB ⟨⟨_, e0.bel.drew⟩, rfl⟩ H
end Go.Proofs.YtmagjdocondmhaaGreat
namespace Go.Proofs.YtmagjdocondmhaaGreat
open Go Go.RowKit
inductive SrcV (w : World) (size : Nat) : Value -> Nat -> List Value -> Prop
 | nil : SrcV w size (.slice none 0 0) 0 []
 | ro (ad : Addr) (m c : Nat) (news : List Value) (hl : news.length = m * size) (hnews : ∀ (j : Nat) u, news[j]? = some u -> w.cell? (ad.add j) = some u) (h1 : ∀ u ∈ news, u.oneCell' = true) : SrcV w size (.slice (some ad) m c) m news
theorem SrcV.cells {w w' : World} {size : Nat} {v : Value} {m : Nat} {news : List Value} (h : SrcV w size v m news) (hc : ∀ a u, w.cell? a = some u -> w'.cell? a = some u) : SrcV w' size v m news := by
 cases h with
 | nil => exact .nil
 | ro ad m c news hl hnews h1 => exact .ro ad m c news hl (fun j u hj => hc _ _ (hnews j u hj)) h1
theorem SrcV.below {w w' : World} {size : Nat} {v : Value} {m : Nat} {news : List Value} (h : SrcV w size v m news) (hb : Below w.heap.size w w') : SrcV w' size v m news :=
 h.cells fun a _ hu => (hb.cell (p := a) (World.block_lt_of_cell? w a hu)).trans hu
structure Apd (w : World) (base : Nat) (e : TypeId) (size : Nat) (v : Value) (n m : Nat) (xs news : List Value) (v' : Value) (w' : World) : Prop where
 own : w'.ownsRow base e size v' (n + m) (xs ++ news)
 grown : w.grownBy w' v.ownBlock
 nil : v' = .slice none 0 0 ↔ v = .slice none 0 0 /\ m = 0
 blk : v'.ownBlock = v.ownBlock \/ v'.ownBlock = some w.heap.size
theorem wpList_append_any {P : Program} {w : World} {ops : Array Oper} {rest : List Oper} {o : Oper} {a : Act} {Q : Exit -> Act -> World -> Prop} (hgd : o.guard = none) (s x : Operand) (t : TypeId)
  (ho : o.op = .call { callee := .builtin .append, args := #[s, x], argTypes := #[t, t] })
  (base : Nat) (e : TypeId) (i : TypeInfo) (z : Value) (size bytes : Nat) (ht : P.underlying t = some (.slice e)) (hi : P.info? e = some i) (hz : i.zero = some z)
  (hsize : i.size = size) (hby : i.bytes = bytes) (hzs : z.cells.size = size) (hsz : 0 < size)
  (v : Value) (n : Nat) (xs : List Value) (hs : a.eval s = v) (hown : w.ownsRow base e size v n xs)
  (xv : Value) (m : Nat) (news : List Value) (hx : a.eval x = xv) (hsrc : SrcV w size xv m news)
  (h63 : n + m <= maxLen) (hbytes : (n + m) * bytes <= 140737488355328) (hbase : base <= w.heap.size)
  (h : ∀ v' w', Apd w base e size v n m xs news v' w' -> wpList P ops Q rest (a.put o.dst v') w') : wpList P ops Q (o :: rest) a w := by
 cases hsrc with
 | nil =>
  refine wpList_append_own_none hgd s x t ho base e i size ht hi v n xs hs hown hx (h v w ⟨by simpa using hown, ⟨rfl, rfl, rfl, zR _, fun _ _ _ => rfl⟩, by simp, .inl rfl⟩)
 | ro ad m c news hl hnews h1 =>
  refine wpList_plain hgd fun K hK => ?_
  obtain ⟨v', w', hr, h2, h3, h4, h5⟩ := run_append_own_at (P := P) w base t o.type e i z size bytes ht hi hz hsize hby hzs hsz v n xs hown ad m c news hl hnews h1 h63 hbytes hbase;unfold Oper.wp execOp;simp only [ho, resolve, invoke, builtin, Sem.run_bind, Sem.run_pure, Result.andThen_ok, List.map_toArray, List.map_cons, List.map_nil, hs, hx, hr]
  exact hK _ _ (h v' w' ⟨h2, h3, h4, h5⟩)
end Go.Proofs.YtmagjdocondmhaaGreat
namespace Go.Proofs.YtmagjdocondmhaaGreat.Slc
open Go Go.RowKit
section
variable {P : Program} {w : World}
theorem run_append_fresh (base : Nat) (t ty e : TypeId) (i : TypeInfo) (z : Value) (size bytes : Nat) (ht : P.underlying t = some (.slice e)) (hi : P.info? e = some i) (hz : i.zero = some z)
  (hsize : i.size = size) (hby : i.bytes = bytes) (hzs : z.cells.size = size) (hsz : 0 < size) (g : Nat) (hg : w.heap[g]? = some (.cells #[] e (0, 0))) (hbg : base <= g) (hbase : base <= w.heap.size)
  (xv : Value) (m : Nat) (news : List Value) (hsrc : SrcV w size xv m news) (h63 : m <= maxLen) (hbytes : m * bytes <= 140737488355328) :
  ∃ v' w', (Builtin.append_ #[t, t] ty #[.slice (some ⟨g, 0, none⟩) 0 0, xv]).run P w = .ok v' w' /\ w'.ownsRow base e size v' m news /\ Below w.heap.size w w' /\ (v'.ownBlock = some g \/ v'.ownBlock = some w.heap.size) := by
 subst hsize hby;have hown : w.ownsRow base e i.size (.slice (some ⟨g, 0, none⟩) 0 0) 0 [] := ⟨by simp, .inr ⟨g, 0, #[], rfl, hbg, hg, zR _, Nat.zero_le _, by simp, by simp⟩⟩
 cases hsrc with
 | nil =>
  refine ⟨.slice (some ⟨g, 0, none⟩) 0 0, w, ?_, hown, Below.refl _ _, .inl rfl⟩
  simp [Builtin.append_, run_underlying ht, sizeOf, typeInfo, hi, Builtin.lenOf, Builtin.firstCells, loadCells, loadCellsFrom, go_sem]
 | ro ad m c news hl hnews h1 =>
  by_cases hm : m = 0
  ·subst hm;have hn : news = [] := List.eq_nil_of_length_eq_zero (by simpa using hl);subst hn;have hr := run_append_room (P := P) w t ty e i ht hi g 0 0 #[] hg ad 0 c [] hl hnews h1 (zR _) (by simp);refine ⟨_, _, hr, ?_, ⟨rfl, rfl, rfl, by simp, fun k hk => ?_⟩, .inl rfl⟩
   ·refine ⟨by simp, .inr ⟨g, 0, _, rfl, hbg, setRow_heap w g #[] _ e _ hg, zR _, Nat.zero_le _, by simp, by simp⟩⟩
   ·by_cases hkg : k = g
    ·subst hkg;rw [setRow_heap w k #[] _ e _ hg, hg]; simp
    ·exact setRow_other w g k _ hkg
  ·have hsmall : m <= 9223372036854775807 := by simp only [maxLen] at h63; omega
   have hr := run_append_grow (P := P) w t ty e i z ht hi hz ⟨g, 0, none⟩ 0 0 [] (by simp) (fun j v hj => by simp at hj) ad m c news hl hnews (by omega) (by omega) (growslice_fits (by omega) (by simpa using hbytes));simp only [Nat.zero_add, Array.empty_append] at hr
   refine ⟨_, _, hr, ?_, ⟨rfl, rfl, rfl, by simp, fun k hk => heap_alloc_old w.drew _ hk⟩, .inr rfl⟩;have hge := grownCap_ge w m 0 e;have hcm : grownCap w m 0 e <= maxLen := grownCap_le_maxLen w m 0 e h63;refine ⟨hl, .inr ⟨w.heap.size, _, _, rfl, hbase, heap_alloc_new w.drew _, hge, hcm, ?_, ?_⟩⟩
   ·simp only [Array.size_append, List.size_toArray, size_zeroCells, hzs, hl, <- Nat.add_mul]
    congr 1; omega
   ·simp [<- hl]
theorem wpList_append_fresh {ops : Array Oper} {rest : List Oper} {o : Oper} {a : Act} {Q : Exit -> Act -> World -> Prop} (hgd : o.guard = none) (s x : Operand) (t : TypeId)
  (ho : o.op = .call { callee := .builtin .append, args := #[s, x], argTypes := #[t, t] })
  (base : Nat) (e : TypeId) (i : TypeInfo) (z : Value) (size bytes : Nat) (ht : P.underlying t = some (.slice e)) (hi : P.info? e = some i) (hz : i.zero = some z)
  (hsize : i.size = size) (hby : i.bytes = bytes) (hzs : z.cells.size = size) (hsz : 0 < size) (g : Nat) (hs : a.eval s = .slice (some ⟨g, 0, none⟩) 0 0) (hg : w.heap[g]? = some (.cells #[] e (0, 0))) (hbg : base <= g) (hbase : base <= w.heap.size)
  (xv : Value) (m : Nat) (news : List Value) (hx : a.eval x = xv) (hsrc : SrcV w size xv m news) (h63 : m <= maxLen) (hbytes : m * bytes <= 140737488355328)
  (h : ∀ v' w', w'.ownsRow base e size v' m news -> Below w.heap.size w w' -> (v'.ownBlock = some g \/ v'.ownBlock = some w.heap.size) -> wpList P ops Q rest (a.put o.dst v') w') : wpList P ops Q (o :: rest) a w := by
 refine wpList_plain hgd fun K hK => ?_
 obtain ⟨v', w', hr, h2, h3, h4⟩ := run_append_fresh (P := P) base t o.type e i z size bytes ht hi hz hsize hby hzs hsz g hg hbg hbase xv m news hsrc h63 hbytes;unfold Oper.wp execOp;simp only [ho, resolve, invoke, builtin, Sem.run_bind, Sem.run_pure, Result.andThen_ok, List.map_toArray, List.map_cons, List.map_nil, hs, hx, hr]
 exact hK _ _ (h v' w' h2 h3 h4)
end
end Go.Proofs.YtmagjdocondmhaaGreat.Slc
namespace Go.Proofs.YtmagjdocondmhaaGreat.Slc
open Go Go.RowKit
structure Enc {α : Type} (z : Nat) (enc : α -> List Value) : Prop where
 len : ∀ x, (enc x).length = z
 one : ∀ x, ∀ u ∈ enc x, u.oneCell' = true
 pos : 0 < z
section
variable {α : Type} {P : Program} {t T : TypeId} {z : Nat} {enc : α -> List Value}
theorem flat_len (E : Enc z enc) (l : List α) : (l.flatMap enc).length = l.length * z := by
 induction l with
 | nil => simp
 | cons x l ih => rw [List.flatMap_cons, List.length_append, ih, E.len, List.length_cons, Nat.succ_mul]; omega
theorem flat_at (E : Enc z enc) (l : List α) : ∀ (k j : Nat) (hk : k < l.length) (_ : j < z), (l.flatMap enc)[k * z + j]? = (enc l[k])[j]? := by
 induction l with
 | nil => intro k j hk; simp at hk
 | cons x l ih =>
  intro k j hk hj;have hx := E.len x;rw [List.flatMap_cons]
  cases k with
  | zero => rw [List.getElem?_append_left (by omega)]; simp
  | succ k =>
   have e : (k + 1) * z + j = z + (k * z + j) := by rw [Nat.succ_mul]; omega
   rw [e, List.getElem?_append_right (by omega), hx, Nat.add_sub_cancel_left, ih k j (by simpa using hk) hj];rfl
theorem flat_take (E : Enc z enc) : ∀ (l : List α) (k : Nat), (l.take k).flatMap enc = (l.flatMap enc).take (k * z)
 | [], k => by simp
 | x :: l, 0 => by simp
 | x :: l, k + 1 => by
  rw [List.take_succ_cons, List.flatMap_cons, List.flatMap_cons, flat_take E l k, Nat.succ_mul, Nat.add_comm, <- E.len x, List.take_length_add_append]
theorem flat_drop (E : Enc z enc) : ∀ (l : List α) (k : Nat), (l.drop k).flatMap enc = (l.flatMap enc).drop (k * z)
 | [], k => by simp
 | x :: l, 0 => by simp
 | x :: l, k + 1 => by
  rw [List.drop_succ_cons, List.flatMap_cons, flat_drop E l k, Nat.succ_mul, Nat.add_comm, <- E.len x, List.drop_length_add_append]
theorem one_mem (E : Enc z enc) (l : List α) : ∀ u ∈ l.flatMap enc, u.oneCell' = true := by
 intro u hu;obtain ⟨x, _, hx⟩ := List.mem_flatMap.1 hu;exact E.one x u hx
def Rd (w : World) (enc : α -> List Value) (v : Value) (l : List α) : Prop :=
 (v = .slice none 0 0 /\ l = []) \/ ∃ b o c, v = .slice (some ⟨b, o, none⟩) l.length c /\ b < w.heap.size /\ l.length <= c /\ ∀ j u, (l.flatMap enc)[j]? = some u -> w.cell? ⟨b, o + j, none⟩ = some u
theorem Rd.nil (w : World) : Rd w enc (.slice none 0 0) ([] : List α) := .inl ⟨rfl, rfl⟩
theorem Rd.keep {w w' : World} {v : Value} {l : List α} (h : Rd w enc v l) (hs : w.heap.size <= w'.heap.size) (hb : ∀ k, v.ownBlock = some k -> k < w.heap.size -> w'.heap[k]? = w.heap[k]?) : Rd w' enc v l := by
 rcases h with h | ⟨b, o, c, rfl, hlt, hc, hcell⟩
 ·exact .inl h
 ·refine .inr ⟨b, o, c, rfl, by omega, hc, fun j u hj => ?_⟩;rw [<- hcell j u hj];have := hb b rfl hlt;unfold World.cell?;rw [this]
theorem Rd.below {w w' : World} {v : Value} {l : List α} (h : Rd w enc v l) (hb : Below w.heap.size w w') : Rd w' enc v l := h.keep hb.size fun k _ hk => hb.block k hk
theorem Rd.lt {w : World} {v : Value} {l : List α} (h : Rd w enc v l) : ∀ k, v.ownBlock = some k -> k < w.heap.size := by
 rcases h with ⟨rfl, _⟩ | ⟨b, o, c, rfl, hlt, _⟩
 ·intro k hk; cases hk
 ·intro k hk; cases hk; exact hlt
theorem Rd.form {w : World} {v : Value} {l : List α} (h : Rd w enc v l) : ∃ ad c, v = .slice ad l.length c /\ l.length <= c := by
 rcases h with ⟨rfl, rfl⟩ | ⟨b, o, c, rfl, _, hc, _⟩
 ·exact ⟨_, _, rfl, zR _⟩
 ·exact ⟨_, _, rfl, hc⟩
theorem Rd.cells {w : World} {v : Value} {l : List α} (E : Enc z enc) (h : Rd w enc v l) (hp : 0 < l.length) : ∃ b o c, v = .slice (some ⟨b, o, none⟩) l.length c /\ l.length <= c /\ b < w.heap.size /\
  ∀ W : World, (∀ k, v.ownBlock = some k -> W.heap[k]? = w.heap[k]?) -> ∀ k (hk : k < l.length) j u, j < z -> (enc l[k])[j]? = some u -> W.cell? ⟨b, o + (k * z + j), none⟩ = some u := by
 rcases h with ⟨_, rfl⟩ | ⟨b, o, c, rfl, hlt, hc, hcell⟩
 ·simp at hp
 ·refine ⟨b, o, c, rfl, hc, hlt, fun W hW k hk j u hj hu => ?_⟩;have e := hW b rfl;unfold World.cell?;rw [e];exact hcell (k * z + j) u (by rw [flat_at E l k j hk hj]; exact hu)
theorem add_at (b o j : Nat) : (⟨b, o, none⟩ : Addr).add j = ⟨b, o + j, none⟩ := by
 unfold Addr.add; split
 ·simp [*]
 ·rfl
theorem Rd.src {w : World} {v : Value} {l : List α} (E : Enc z enc) (h : Rd w enc v l) : SrcV w z v l.length (l.flatMap enc) := by
 rcases h with ⟨rfl, rfl⟩ | ⟨b, o, c, rfl, hlt, hc, hcell⟩
 ·exact .nil
 ·exact .ro _ _ _ _ (flat_len E l) (fun j u hj => by rw [add_at]; exact hcell j u hj) (one_mem E l)
theorem Rd.upto {w : World} {v : Value} {l : List α} (E : Enc z enc) (h : Rd w enc v l) (hT : P.underlying T = some (.slice (P.elem T))) (hz : ∀ W, (sizeOf (P.elem T)).run P W = .ok z W) (k : Nat) (hk : k <= l.length) :
  ∃ u, (∀ W, (Instr.slice T v none (some (.int .i64 k)) none).run P W = .ok u W) /\ Rd w enc u (l.take k) := by
 rcases h with ⟨rfl, rfl⟩ | ⟨b, o, c, rfl, hlt, hc, hcell⟩
 ·obtain rfl : k = 0 := by simpa using hk
  refine ⟨.slice none 0 0, fun W => ?_, .inl ⟨rfl, rfl⟩⟩;rw [run_slice_h W _ _ _ _ hT _ _ (by omega) (by omega)];simp [hz, sliced, Result.andThen]
 ·have e : (l.take k).length = k := by rw [List.length_take]; omega
  refine ⟨.slice (some ⟨b, o, none⟩) k c, fun W => ?_, .inr ⟨b, o, c, by rw [e], hlt, by omega, fun j u hj => ?_⟩⟩
  ·rw [run_slice_h W _ _ _ _ hT _ _ (by omega) (by omega)];simp [hz, sliced, Result.andThen, add_at]
  ·rw [flat_take E] at hj;refine hcell j u ?_
   have hjk : j < k * z := by
    rcases Nat.lt_or_ge j (k * z) with q | q
    ·exact q
    ·rw [List.getElem?_take_eq_none q] at hj; cases hj
   rwa [List.getElem?_take_of_lt hjk] at hj
theorem Rd.rest {w : World} {v : Value} {l : List α} (E : Enc z enc) (h : Rd w enc v l) (hT : P.underlying T = some (.slice (P.elem T))) (hz : ∀ W, (sizeOf (P.elem T)).run P W = .ok z W) (k : Nat) (hk : k <= l.length) :
  ∃ u, (∀ W, (Instr.slice T v (some (.int .i64 k)) none none).run P W = .ok u W) /\ Rd w enc u (l.drop k) := by
 rcases h with ⟨rfl, rfl⟩ | ⟨b, o, c, rfl, hlt, hc, hcell⟩
 ·obtain rfl : k = 0 := by simpa using hk
  refine ⟨.slice none 0 0, fun W => ?_, .inl ⟨rfl, rfl⟩⟩;rw [run_slice_l W _ _ _ _ hT _ _ (by omega) (by simp)];simp [hz, sliced, Result.andThen]
 ·have e : (l.drop k).length = l.length - k := List.length_drop;by_cases hck : c = k
  ·have hnil : l.drop k = [] := List.drop_eq_nil_of_le (by omega);refine ⟨.slice (some ⟨b, o, none⟩) (l.length - k) (c - k), fun W => ?_, .inr ⟨b, o, c - k, by rw [e], hlt, by omega, fun j u hj => ?_⟩⟩
   ·rw [run_slice_l W _ _ _ _ hT _ _ (by omega) (by omega)];simp [hz, sliced, Result.andThen, hck]
   ·rw [hnil] at hj; simp at hj
  ·refine ⟨.slice (some ⟨b, o + k * z, none⟩) (l.length - k) (c - k), fun W => ?_, .inr ⟨b, o + k * z, c - k, by rw [e], hlt, by omega, fun j u hj => ?_⟩⟩
   ·rw [run_slice_l W _ _ _ _ hT _ _ (by omega) (by omega)];simp [hz, sliced, Result.andThen, hck, add_at]
   ·rw [flat_drop E, List.getElem?_drop] at hj;have := hcell _ u hj;rwa [<- Nat.add_assoc] at this
def Own (w : World) (B : Nat) (t : TypeId) (z : Nat) (enc : α -> List Value) (v : Value) (l : List α) : Prop := w.ownsRow B t z v l.length (l.flatMap enc)
theorem Own.nil (w : World) (B : Nat) : Own w B t z enc (.slice none 0 0) ([] : List α) := World.ownsRow_nil _ _ _ _
theorem Own.mono {w : World} {B B' : Nat} {v : Value} {l : List α} (h : Own w B t z enc v l) (hB : B' <= B) : Own w B' t z enc v l := by
 refine ⟨h.1, ?_⟩;rcases h.2 with hn | ⟨g, cap, cur, hv, hb, rest⟩
 ·exact .inl hn
 ·exact .inr ⟨g, cap, cur, hv, Nat.le_trans hB hb, rest⟩
theorem Own.rd {w : World} {B : Nat} {v : Value} {l : List α} (h : Own w B t z enc v l) : Rd w enc v l := by
 rcases h.2 with ⟨rfl, hn⟩ | ⟨g, cap, cur, rfl, hb, hg, hc, _⟩
 ·exact .inl ⟨rfl, List.eq_nil_of_length_eq_zero hn⟩
 ·have hlt : g < w.heap.size := by
   rcases Nat.lt_or_ge g w.heap.size with q | q
   ·exact q
   ·rw [Array.getElem?_eq_none q] at hg; cases hg
  refine .inr ⟨g, 0, cap, rfl, hlt, hc, fun j u hj => ?_⟩;have := World.ownsRow.cells h (g := g) rfl j u hj;rwa [add_at] at this
theorem Own.keep {w w' : World} {B : Nat} {v : Value} {l : List α} (h : Own w B t z enc v l) (hb : ∀ k, v.ownBlock = some k -> k < w.heap.size -> w'.heap[k]? = w.heap[k]?) : Own w' B t z enc v l := by
 refine ⟨h.1, ?_⟩;rcases h.2 with hn | ⟨g, cap, cur, rfl, hB, hg, rest⟩
 ·exact .inl hn
 ·have hlt : g < w.heap.size := by
   rcases Nat.lt_or_ge g w.heap.size with q | q
   ·exact q
   ·rw [Array.getElem?_eq_none q] at hg; cases hg
  exact .inr ⟨g, cap, cur, rfl, hB, by rw [hb g rfl hlt]; exact hg, rest⟩
theorem Own.below {w w' : World} {B : Nat} {v : Value} {l : List α} (h : Own w B t z enc v l) (hb : Below w.heap.size w w') : Own w' B t z enc v l := h.keep fun k _ hk => hb.block k hk
theorem Own.lt {w : World} {B : Nat} {v : Value} {l : List α} (h : Own w B t z enc v l) : ∀ k, v.ownBlock = some k -> B <= k /\ k < w.heap.size := World.ownsRow.lt h
theorem Own.apd {w w' : World} {B : Nat} {v v' : Value} {l m : List α} {a b : Nat} {xs news : List Value} (h : Own w B t z enc v l) (hx : xs = l.flatMap enc) (hy : news = m.flatMap enc) (ha : a = l.length) (hb : b = m.length) (h' : Apd w B t z v a b xs news v' w') : Own w' B t z enc v' (l ++ m) := by
 subst hx hy ha hb;unfold Own;rw [List.length_append, List.flatMap_append];exact h'.own
end
end Go.Proofs.YtmagjdocondmhaaGreat.Slc
namespace Go.Proofs.YtmagjdocondmhaaGreat.Slc
open Go Go.RowKit
section
variable {α : Type} {P : Program} {t T : TypeId} {z : Nat} {enc : α -> List Value}
theorem flat_set (E : Enc z enc) (y : α) (x : Value) (j : Nat) (hj : j < z) : ∀ (l : List α) (k : Nat) (hk : k < l.length) (_ : enc y = (enc l[k]).set j x), (l.set k y).flatMap enc = (l.flatMap enc).set (k * z + j) x
 | [], k, hk, _ => by simp at hk
 | a :: l, 0, hk, he => by
  have ha := E.len a
  rw [List.set_cons_zero, List.flatMap_cons, List.flatMap_cons, Nat.zero_mul, Nat.zero_add, List.set_append_left _ _ (by omega), he]; rfl
 | a :: l, k + 1, hk, he => by
  have ha := E.len a;have e : (k + 1) * z + j = z + (k * z + j) := by rw [Nat.succ_mul]; omega
  rw [List.set_cons_succ, List.flatMap_cons, List.flatMap_cons, flat_set E y x j hj l k (by simpa using hk) (by simpa using he), e, List.set_append_right _ _ (by omega), ha];congr 2; omega
theorem take_set (l : List Value) (n k : Nat) (x : Value) : (l.set k x).take n = (l.take n).set k x := by
 apply List.ext_getElem?
 intro i;rw [List.getElem?_take, List.getElem?_set, List.getElem?_set, List.getElem?_take];by_cases h1 : i < n
 ·simp only [h1, if_true, List.length_take]
  by_cases h2 : k = i
  ·subst h2;simp only [if_true]
   by_cases h3 : k < l.length
   ·rw [if_pos h3, if_pos (by omega)]
   ·rw [if_neg h3, if_neg (by omega)]
  ·simp [h2]
 ·simp only [h1, if_false, List.length_take]
  by_cases h2 : k = i
  ·subst h2; simp; omega
  ·simp [h2]
theorem Own.set1 {w : World} {B : Nat} {v : Value} {l : List α} (E : Enc z enc) (h : Own w B t z enc v l) (k j : Nat) (hk : k < l.length) (hj : j < z) (x : Value) (y : α) (he : enc y = (enc l[k]).set j x) :
  ∃ g cap, v = .slice (some ⟨g, 0, none⟩) l.length cap /\ B <= g /\ g < w.heap.size /\ (∀ i, w.frozen? ⟨g, i, none⟩ = false) /\ Own (w.setCell ⟨g, k * z + j, none⟩ x) B t z enc v (l.set k y) /\ w.grownBy (w.setCell ⟨g, k * z + j, none⟩ x) (some g) := by
 rcases h.2 with ⟨_, hn⟩ | ⟨g, cap, cur, rfl, hb, hg, hc, hm, hcs, htake⟩
 ·omega
 ·refine ⟨g, cap, rfl, hb, lt_of_block hg, fun i => ?_, ?_, ⟨rfl, rfl, rfl, by simp, fun k' _ hk' => heap_setCell_other w _ k' x fun e => hk' (by rw [e])⟩⟩
  ·simp [World.frozen?, hg]
  ·unfold Own World.ownsRow;rw [zL];refine ⟨by rw [flat_len E, zL], .inr ⟨g, cap, cur.setIfInBounds (k * z + j) x, rfl, hb, heap_setCell_same w g _ cur t x hg, hc, hm, by simpa using hcs, ?_⟩⟩;rw [Array.toList_setIfInBounds, take_set, htake, flat_set E y x j hj l k hk he]
theorem Own.cell {w : World} {B g n c : Nat} {l : List α} (E : Enc z enc) (h : Own w B t z enc (.slice (some ⟨g, 0, none⟩) n c) l) (k : Nat) (hk : k < l.length) (j : Nat) (hj : j < z) (u : Value) (hu : (enc l[k])[j]? = some u) : w.cell? ⟨g, k * z + j, none⟩ = some u := by
 have := World.ownsRow.cells h (g := g) rfl (k * z + j) u (by rw [flat_at E l k j hk hj]; exact hu);rw [add_at, Nat.zero_add] at this;exact this
theorem Own.of {w : World} {B : Nat} {v : Value} {l : List α} {n : Nat} {xs : List Value} (h : w.ownsRow B t z v n xs) (hn : n = l.length) (hx : xs = l.flatMap enc) : Own w B t z enc v l := by subst hn hx; exact h
end
end Go.Proofs.YtmagjdocondmhaaGreat.Slc
namespace Go.Proofs.YtmagjdocondmhaaGreat.Slc
open Go Go.RowKit
structure Gr {α : Type} (W : World) (B : Nat) (t : TypeId) (z : Nat) (enc : α -> List Value) (wr : World) (v : Value) (l : List α) : Prop where
 own : Own wr B t z enc v l
 bel : Below B W wr
 le : B <= W.heap.size
section
variable {α : Type} {t : TypeId} {z : Nat} {enc : α -> List Value} {W wr w1 w' : World} {B : Nat} {v v' : Value} {l m : List α}
theorem src_new {w : World} {x : Nat} {y : α} (E : Enc z enc) (h : w.heap[x]? = some (.cells (enc y).toArray t (0, 0))) : SrcV w z (.slice (some ⟨x, 0, none⟩) 1 1) 1 ([y].flatMap enc) := by
 refine .ro _ _ _ _ (flat_len E [y]) (fun j u hj => ?_) (one_mem E [y]);rw [add_at, Nat.zero_add];simp only [List.flatMap_cons, List.flatMap_nil, List.append_nil] at hj
 simp [World.cell?, h, hj]
end
end Go.Proofs.YtmagjdocondmhaaGreat.Slc
namespace Go.Proofs.YtmagjdocondmhaaGreat.Ins
open Go
abbrev B := List UInt8
def le (x y : B) : Bool := decide (x <= y)
theorem le_total (a b : B) : (le a b || le b a) = true := by
 simp only [le, Bool.or_eq_true, decide_eq_true_eq]; exact List.le_total a b
theorem le_trans (a b c : B) (h : le a b = true) (k : le b c = true) : le a c = true := by
 simp only [le, decide_eq_true_eq] at *; exact List.le_trans h k
def place (x : B) : List B -> Nat
 | [] => 0
 | y :: s => if le y x then place x s + 1 else 0
end Go.Proofs.YtmagjdocondmhaaGreat.Ins
namespace Go.Proofs.YtmagjdocondmhaaGreat
open Go Go.RowKit
def putFrom : Nat -> List Oper -> Act -> (Nat -> Value) -> Act
 | _, [], a, _ => a
 | k, o :: l, a, x => putFrom (k + 1) l (a.put o.dst (x k)) x
def upd (x : Nat -> Value) (i : Nat) (v : Value) : Nat -> Value := fun j => if j = i then v else x j
def dstsB : List Oper -> Bool
 | [] => true
 | o :: l => (match o.dst with | none => true | some d => l.all (fun o' => o'.dst != some d)) && dstsB l
theorem put_same (a : Act) (d : Tmp) (u v : Value) : (a.put (some d) u).put (some d) v = a.put (some d) v := by simp [Act.put]
theorem put_comm (a : Act) (d e : Tmp) (u v : Value) (h : d ≠ e) : (a.put (some d) u).put (some e) v = (a.put (some e) v).put (some d) u := by
 simp only [Act.put]; congr 1; exact Array.setIfInBounds_comm _ _ h
theorem putFrom_congr : ∀ (l : List Oper) (k : Nat) (a : Act) (x y : Nat -> Value), (∀ j, k <= j -> x j = y j) -> putFrom k l a x = putFrom k l a y
 | [], _, _, _, _, _ => rfl
 | o :: l, k, a, x, y, h => by
  rw [putFrom, putFrom, h k (zR _)];exact putFrom_congr l (k + 1) _ x y fun j hj => h j (by omega)
theorem putFrom_late : ∀ (l : List Oper) (k : Nat) (a : Act) (x : Nat -> Value) (d : Tmp) (v : Value), l.all (fun o' => o'.dst != some d) = true -> (putFrom k l a x).put (some d) v = putFrom k l (a.put (some d) v) x
 | [], _, _, _, _, _, _ => rfl
 | o :: l, k, a, x, d, v, h => by
  simp only [List.all_cons, Bool.and_eq_true, bne_iff_ne, ne_eq] at h
  rw [putFrom, putFrom, putFrom_late l (k + 1) _ x d v (by simpa using h.2)];congr 1
  cases hd : o.dst with
  | none => rfl
  | some e => exact put_comm a e d _ _ (fun q => h.1 (by rw [hd, q]))
theorem putFrom_upd : ∀ (l : List Oper) (k i : Nat) (a : Act) (x : Nat -> Value) (o : Oper) (v : Value), dstsB l = true -> l[i]? = some o -> (putFrom k l a x).put o.dst v = putFrom k l a (upd x (k + i) v)
 | [], _, _, _, _, _, _, _, h => by simp at h
 | o' :: l, k, 0, a, x, o, v, hB, h => by
  simp only [List.getElem?_cons_zero, zO] at h
  subst h;rw [putFrom, putFrom];have e1 : upd x (k + 0) v k = v := by simp [upd]
  rw [e1, putFrom_congr l (k + 1) _ (upd x (k + 0) v) x fun j hj => by simp only [upd]; rw [if_neg (by omega)]];simp only [dstsB, Bool.and_eq_true] at hB
  cases hd : o'.dst with
  | none => rfl
  | some d =>
   rw [hd] at hB
   rw [putFrom_late l (k + 1) _ x d v hB.1, put_same]
 | o' :: l, k, i + 1, a, x, o, v, hB, h => by
  simp only [List.getElem?_cons_succ] at h
  simp only [dstsB, Bool.and_eq_true] at hB
  rw [putFrom, putFrom, putFrom_upd l (k + 1) i _ x o v hB.2 h, show k + 1 + i = k + (i + 1) by omega];have e1 : upd x (k + (i + 1)) v k = x k := by simp only [upd]; rw [if_neg (by omega)]
  rw [e1]
theorem put_self (a : Act) (d : Tmp) : a.put (some d) (a.tmps.getD d undef) = a := by
 obtain ⟨t, df⟩ := a;simp only [Act.put]
 congr 1
 apply Array.ext
 ·simp
 ·intro j h1 h2;by_cases hjd : d = j
  ·subst hjd;simp [h2]
  ·rw [Array.getElem_setIfInBounds_ne _ hjd]
theorem putFrom_start : ∀ (l : List Oper) (k : Nat) (a : Act) (x : Nat -> Value), (∀ (i : Nat) o d, l[i]? = some o -> o.dst = some d -> x (k + i) = a.tmps.getD d undef) -> putFrom k l a x = a
 | [], _, _, _, _ => rfl
 | o :: l, k, a, x, h => by
  have e : a.put o.dst (x k) = a := by
   cases hd : o.dst with
   | none => rfl
   | some d => rw [show x k = a.tmps.getD d undef from h 0 o d rfl hd]; exact put_self a d
  rw [putFrom, e];exact putFrom_start l (k + 1) a x fun i o' d hi hd => by rw [show k + 1 + i = k + (i + 1) by omega]; exact h (i + 1) o' d hi hd
section
variable {P : Program} {ops : Array Oper} {md : Region.Mode}
def Fin1 (K : Act -> World -> Prop) (e : Exit) (a : Act) (w : World) : Prop := e = .normal /\ K a w
theorem letsOut_fin1 {K : Act -> World -> Prop} : ¬ LetsOut (Fin1 K) := fun ⟨_, _, h⟩ => by cases h.1
def Puts (o : Oper) (a a' : Act) : Prop := (∃ v, a' = a.put o.dst v) \/ (∃ d v, a' = ({ a with defers := d :: a.defers } : Act).put o.dst v)
theorem Oper.wp_of_fin1 {o : Oper} {a : Act} {w : World} {K K' : Act -> World -> Prop} {Q : Exit -> Act -> World -> Prop} (h : ∀ a' w, Puts o a a' -> K a' w -> K' a' w)
  (hh : o.wp P a w (wpList P ops (Fin1 K) []) (Fin1 K)) : o.wp P a w K' Q := by
 unfold Oper.wp at *;generalize (execOp a.eval o).run P w = r at *
 cases r with
 | ok n w' =>
  cases n <;> simp only [Oper.upon] at hh |- <;>
   first
    | exact h _ _ (.inl ⟨_, rfl⟩) hh.2
    | exact h _ _ (.inr ⟨_, _, rfl⟩) hh.2
    | exact Calls.mono hh (fun e w'' he => by cases e <;> first | exact h _ _ (.inl ⟨_, rfl⟩) he.2 | (cases he.1; done) | exact absurd he letsOut_fin1)
    | exact Rows.mono hh (fun _ _ he => h _ _ (.inl ⟨_, rfl⟩) he.2)
 | halt x w' =>
  cases x <;> simp only [Oper.upon] at hh |- <;> first | exact hh | (cases hh.1)
theorem wpOp_of_fin1 {i : Nat} {o : Oper} {a : Act} {w : World} {K K' : Act -> World -> Prop} {Q : Exit -> Act -> World -> Prop} (hi : ops[i]? = some o) (h : ∀ a' w, Puts o a a' -> K a' w -> K' a' w)
  (hh : wpList P ops (Fin1 K) [o] a w) : wpOp P ops Q i K' a w := by
 unfold wpOp;simp only [hi]
 unfold wpList at hh;split
 ·rename_i hw
  rw [if_pos hw] at hh;rcases hh with hh | hh
  ·exact .inl (Oper.wp_of_fin1 h hh)
  ·exact absurd hh.2 letsOut_fin1
 ·rename_i hw
  rw [if_neg hw] at hh;exact h _ _ (.inl ⟨_, rfl⟩) hh.2
def Said (dst : Option Tmp) (df : List Deferred) (R : Value -> World -> Prop) (a : Act) (w : World) : Prop :=
 a.defers = df /\ match dst with | some d => R (a.tmps.getD d undef) w | none => R undef w
theorem Said.puts {o : Oper} {a a' : Act} {w : World} {R : Value -> World -> Prop} (h : Said o.dst a.defers R a' w) (hp : Puts o a a') (hd : ∀ d, o.dst = some d -> d < a.tmps.size) : ∃ v, a' = a.put o.dst v /\ R v w := by
 obtain ⟨h1, h2⟩ := h;rcases hp with ⟨v, rfl⟩ | ⟨d, v, rfl⟩
 ·cases ho : o.dst with
  | none => rw [ho] at h2; exact ⟨undef, rfl, h2⟩
  | some d =>
   rw [ho] at h2;refine ⟨v, rfl, ?_⟩
   have : (a.put (some d) v).tmps.getD d undef = v := by
    have hlt := hd d ho;simp [Act.put, hlt]
   simpa [this] using h2
 ·exfalso
  have : (({ a with defers := d :: a.defers } : Act).put o.dst v).defers = d :: a.defers := by cases o.dst <;> rfl
  rw [this] at h1;have := congrArg List.length h1;simp at this
theorem put_size (a : Act) (d : Option Tmp) (v : Value) : (a.put d v).tmps.size = a.tmps.size := by cases d <;> simp [Act.put]
theorem put_defers (a : Act) (d : Option Tmp) (v : Value) : (a.put d v).defers = a.defers := by cases d <;> rfl
theorem putFrom_size : ∀ (l : List Oper) (k : Nat) (a : Act) (x : Nat -> Value), (putFrom k l a x).tmps.size = a.tmps.size /\ (putFrom k l a x).defers = a.defers
 | [], _, _, _ => ⟨rfl, rfl⟩
 | o :: l, k, a, x => by
  rw [putFrom];obtain ⟨h1, h2⟩ := putFrom_size l (k + 1) (a.put o.dst (x k)) x;exact ⟨h1.trans (put_size _ _ _), h2.trans (put_defers _ _ _)⟩
def undone (done : Array Bool) : Nat -> Nat
 | 0 => 0
 | k + 1 => undone done k + if done.getD k true then 0 else 1
theorem undone_set_le (done : Array Bool) (i : Nat) : ∀ k, k <= i -> undone (done.setIfInBounds i true) k = undone done k
 | 0, _ => rfl
 | k + 1, h => by rw [undone, undone, undone_set_le done i k (by omega), getD_set_ne true (by omega)]
theorem getD_set_self (done : Array Bool) (i : Nat) : (done.setIfInBounds i true).getD i true = true := by
 rcases Nat.lt_or_ge i done.size with h | h
 ·simp [h]
 ·simp [h]
theorem undone_set (done : Array Bool) (i : Nat) (hi : done.getD i true = false) : ∀ k, i < k -> undone (done.setIfInBounds i true) k + 1 = undone done k
 | 0, h => by omega
 | k + 1, h => by
  rw [undone, undone];by_cases hk : k = i
  ·subst hk;rw [undone_set_le done k k (zR _), getD_set_self, hi]; simp
  ·have := undone_set done i hi k (by omega);rw [getD_set_ne true (by omega)]; omega
theorem undone_zero {done : Array Bool} : ∀ {k}, undone done k = 0 -> ∀ i, i < k -> done.getD i true = true
 | 0, _, i, h => by omega
 | k + 1, h0, i, h => by
  rw [undone] at h0;have h1 : undone done k = 0 := by omega
  have h2 : (if done.getD k true then 0 else 1) = 0 := by omega
  by_cases hk : i = k
  ·subst hk; split at h2 <;> simp_all
  ·exact undone_zero h1 i (by omega)
theorem undone_pos {done : Array Bool} : ∀ {k}, 0 < undone done k -> ∃ i, i < k /\ done.getD i true = false
 | 0, h => by simp [undone] at h
 | k + 1, h => by
  rw [undone] at h;by_cases hk : done.getD k true = true
  ·rw [if_pos hk] at h;obtain ⟨i, hi, hd⟩ := undone_pos (k := k) (by omega);exact ⟨i, by omega, hd⟩
  ·exact ⟨k, by omega, by simpa using hk⟩
def backM (md : Region.Mode) (ops : Array Oper) : Bool := (List.range ops.size).all fun i => match ops[i]? with | some o => o.after.all (fun e => !Region.binds md e || decide (e.on < i)) | none => true
abbrev backB (ops : Array Oper) : Bool := backM .any ops
theorem ready_some (hb : backM md ops = true) {done : Array Bool} (hsz : done.size = ops.size) : ∀ i, i < ops.size -> done.getD i true = false -> ∃ j, j ∈ Region.ready md ops done := by
 intro i
 induction i using Nat.strongRecOn with
 | _ i ih =>
  intro hi hd;obtain ⟨o, ho⟩ : ∃ o, ops[i]? = some o := ⟨ops[i], by simp [hi]⟩
  by_cases hall : ∀ e ∈ o.after, Region.binds md e = true -> done.getD e.on false = true
  ·exact ⟨i, mem_ready.2 ⟨hd, o, ho, hall⟩⟩
  ·have h1 := List.all_eq_true.1 hb i (List.mem_range.2 hi);rw [ho] at h1;simp only [Classical.not_forall] at hall
   obtain ⟨e, he, hbd, hf⟩ := hall;have h2 := Array.all_eq_true'.1 h1 e he;rw [hbd] at h2;simp only [Bool.not_true, Bool.false_or, decide_eq_true_eq] at h2
   have hf' : done.getD e.on false = false := by simpa using hf
   exact ih e.on h2 (by omega) (getD_in (by omega) hf')
def Needs (md : Region.Mode) (R : Nat -> Prop) : List Edge -> Prop
 | [] => True
 | e :: l => (Region.binds md e = true -> R e.on) /\ Needs md R l
theorem needs_of {R : Nat -> Prop} : ∀ (l : List Edge), (∀ e ∈ l, Region.binds md e = true -> R e.on) -> Needs md R l
 | [], _ => trivial
 | e :: l, h => ⟨h e (by simp), needs_of l fun e' he => h e' (by simp [he])⟩
def factsB (ops : Array Oper) (n : Nat) : Bool :=
 decide (n <= ops.size) && (decide (n = ops.size) || (Region.sinkB .any ops n && Region.chainB .any ops n)) && backB ops && Region.seqB .any ops (ops.size - n) n (Array.replicate n true ++ Array.replicate (ops.size - n) false) && dstsB (ops.toList.take n)
theorem wpAny_of_facts {l : List Oper} {n : Nat} {a0 : Act} {w0 : World} {Q : Exit -> Act -> World -> Prop} (Φ : Nat -> Value -> World -> Prop) (hB : factsB l.toArray n = true)
  (hsz : (l.take n).all (fun o => match o.dst with | some d => decide (d < a0.tmps.size) | none => true) = true)
  (hst : ∀ i v w w', Φ i v w -> Below w.heap.size w w' -> Φ i v w')
  (hstep : ∀ i o, i < n -> l[i]? = some o -> ∀ (x : Nat -> Value) (w : World), Below w0.heap.size w0 w -> Needs .any (fun j => Φ j (x j) w) o.after.toList ->
   wpList P l.toArray (Fin1 (Said o.dst a0.defers fun v w' => Φ i v w' /\ Below w.heap.size w w')) [o] (putFrom 0 (l.take n) a0 x) w)
  (hend : ∀ (x : Nat -> Value) (w : World), Below w0.heap.size w0 w -> (∀ j, j < n -> Φ j (x j) w) -> wpList P l.toArray Q (l.drop n) (putFrom 0 (l.take n) a0 x) w) :
  ∀ (f : Nat) (done : Array Bool) (x : Nat -> Value) (w : World), HeadInv .any l.toArray n done -> undone done n = f -> Below w0.heap.size w0 w -> (∀ j, j < n -> done.getD j false = true -> Φ j (x j) w) ->
   wpAny P .any l.toArray Q (f + (l.toArray.size - n)) done (putFrom 0 (l.take n) a0 x) w := by
 simp only [factsB, Bool.and_eq_true, Bool.or_eq_true, decide_eq_true_eq] at hB
 obtain ⟨⟨⟨⟨hn, hsc⟩, hback⟩, hseq⟩, hdst⟩ := hB;intro f
 induction f with
 | zero =>
  intro done x w inv hu hb hf;have hall := undone_zero hu
  have hD : done = Array.replicate n true ++ Array.replicate (l.toArray.size - n) false := by
   apply Array.ext
   ·rw [inv.size]; simp; simp at hn; omega
   ·intro j h1 h2;rcases Nat.lt_or_ge j n with h | h
    ·have := hall j h;rw [Array.getElem_append_left (by simpa using h), Array.getElem_replicate];simpa [Array.getD_eq_getD_getElem?, h1] using this
    ·have := inv.tail j h (by rw [<- inv.size]; exact h1);rw [Array.getElem_append_right (by simpa using h), Array.getElem_replicate];simpa [Array.getD_eq_getD_getElem?, h1] using this
  have hE := hend x w hb fun j hj => hf j hj (by
   rw [hD, Array.getD_eq_getD_getElem?, Array.getElem?_append_left (by simpa using hj)]; simp [hj])
  rw [Nat.zero_add, show l.toArray.size - n = (l.drop n).length by simp];refine wpAny_of_seq (md := .any) (l.drop n) n done _ w (fun j => by simp [List.getElem?_drop]) ?_ hE
  rw [hD, show (l.drop n).length = l.toArray.size - n by simp]; exact hseq
 | succ f ih =>
  intro done x w inv hu hb hf;obtain ⟨i0, hi0, hd0⟩ := undone_pos (done := done) (k := n) (by omega);rw [show f + 1 + (l.toArray.size - n) = (f + (l.toArray.size - n)) + 1 by omega];refine ⟨fun h0 => ?_, fun i hi => ?_⟩
  ·obtain ⟨j, hj⟩ := ready_some (md := .any) hback inv.size i0 (by omega) hd0;rw [h0] at hj; cases hj
  ·obtain ⟨hun, o, ho, hall⟩ := mem_ready.1 hi
   have hin : i < n := by
    rcases Nat.lt_or_ge i n with h | h
    ·exact h
    ·rcases hsc with hsc | ⟨hs, hc⟩
     ·have := (Array.getElem?_eq_some_iff.1 ho).1; omega
     ·have hlt := (Array.getElem?_eq_some_iff.1 ho).1;exact absurd hi (tail_waits hs hc (by omega) inv _ i0 rfl hi0 hd0 i h)
   have hol : l[i]? = some o := by simpa using ho
   have hS := hstep i o hin hol x w hb <| needs_of _ fun e he1 he2 => by
    have hd := hall e (by simpa using he1) he2;refine hf e.on ?_ hd;rcases Nat.lt_or_ge e.on n with h | h
    ·exact h
    ·rcases Nat.lt_or_ge e.on l.toArray.size with h' | h'
     ·have := inv.tail e.on h h';rw [getD_both this] at hd; cases hd
     ·rw [Array.getD_eq_getD_getElem?, Array.getElem?_eq_none (by rw [inv.size]; exact h')] at hd; cases hd
   have hot : (l.take n)[i]? = some o := by rw [List.getElem?_take_of_lt hin]; exact hol
   obtain ⟨z1, z2⟩ := putFrom_size (l.take n) 0 a0 x;refine wpOp_of_fin1 ho (fun a' w' hp h => ?_) hS;rw [<- z2] at h
   obtain ⟨v, rfl, hφ, hbw⟩ := h.puts hp fun d hd => by
    have := List.all_eq_true.1 hsz o (List.mem_of_getElem? hot);rw [hd] at this;rw [z1];simpa using this
   rw [putFrom_upd (l.take n) 0 i a0 x o v (by simpa using hdst) hot, Nat.zero_add];refine ih _ _ w' (inv.set hi hin) (by have := undone_set done i hun n hin; omega) (hb.trans (hbw.mono hb.size)) fun j hj hd => ?_
   by_cases hji : j = i
   ·subst hji;simpa [upd] using hφ
   ·rw [getD_set_ne false (Ne.symm hji)] at hd;have := hst j (x j) w w' (hf j hj hd) hbw;simpa [upd, hji] using this
theorem wp_region_facts {id : Nat} {Q : Exit -> Act -> World -> Prop} {a : Act} {w : World} {l : List Oper} (n : Nat) (Φ : Nat -> Value -> World -> Prop) (hm : P.follows .mixedOrders = true) (hB : factsB l.toArray n = true)
  (hsz : (l.take n).all (fun o => match o.dst with | some d => decide (d < a.tmps.size) | none => true) = true)
  (hst : ∀ i v w w', Φ i v w -> Below w.heap.size w w' -> Φ i v w')
  (hstep : ∀ i o, i < n -> l[i]? = some o -> ∀ (x : Nat -> Value) (w' : World), Below w.heap.size w w' -> Needs .any (fun j => Φ j (x j) w') o.after.toList ->
   wpList P l.toArray (Fin1 (Said o.dst a.defers fun v w'' => Φ i v w'' /\ Below w'.heap.size w' w'')) [o] (putFrom 0 (l.take n) a x) w')
  (hend : ∀ (x : Nat -> Value) (w' : World), Below w.heap.size w w' -> (∀ j, j < n -> Φ j (x j) w') -> wpList P l.toArray Q (l.drop n) (putFrom 0 (l.take n) a x) w') : (Code.region id l.toArray true).wp P Q a w := by
 have hB' := hB;simp only [factsB, Bool.and_eq_true, Bool.or_eq_true, decide_eq_true_eq] at hB'
 obtain ⟨⟨⟨⟨hn, hsc⟩, hback⟩, hseq⟩, hdst⟩ := hB';refine wp_region_any hm ?_
 have hu : ∀ k, k <= l.toArray.size -> undone (Array.replicate l.toArray.size false) k = k := by
  intro k
  induction k with
  | zero => intro _; rfl
  | succ k ih =>
   intro hk;rw [undone, ih (by omega), getD_in (by simp at hk |-; omega) (getD_replicate_false _ _)]; simp
 have inv0 : HeadInv .any l.toArray n (Array.replicate l.toArray.size false) :=
  ⟨by simp, fun j oj _ hl => (by rw [getD_replicate_false] at hl; cases hl), fun t _ ht => getD_in (by simpa using ht) (getD_replicate_false _ _)⟩
 have H := wpAny_of_facts (a0 := a) (w0 := w) (Q := Q) Φ hB hsz hst hstep hend n (Array.replicate l.toArray.size false)
  (fun j => match (l.take n)[j]? with | some o => (match o.dst with | some d => a.tmps.getD d undef | none => undef) | none => undef) { w with drawn := w.drawn + 1 } inv0 (hu n hn) ⟨rfl, rfl, rfl, zR _, fun _ _ => rfl⟩
  (fun j _ hl => by rw [getD_replicate_false] at hl; cases hl)
 rw [putFrom_start (l.take n) 0 a _ fun i o d hi hd => by rw [Nat.zero_add]; simp only [hi, hd], show n + (l.toArray.size - n) = l.toArray.size by omega] at H;exact H
end
end Go.Proofs.YtmagjdocondmhaaGreat
namespace Go.Proofs.YtmagjdocondmhaaGreat
open Go Go.RowKit
section
variable {P : Program} {md : Region.Mode}
def NeedsB (md : Region.Mode) (R : Nat -> Prop) (cons : Nat -> Option Nat) (i : Nat) : List Edge -> Prop
 | [] => True
 | e :: l => (Region.binds md e = true -> (cons e.on = none \/ cons e.on = some i) -> R e.on) /\ NeedsB md R cons i l
theorem needsB_of {R : Nat -> Prop} {cons : Nat -> Option Nat} {i : Nat} : ∀ (l : List Edge), (∀ e ∈ l, Region.binds md e = true -> (cons e.on = none \/ cons e.on = some i) -> R e.on) -> NeedsB md R cons i l
 | [], _ => trivial
 | e :: l, h => ⟨h e (by simp), needsB_of l fun e' he => h e' (by simp [he])⟩
end
end Go.Proofs.YtmagjdocondmhaaGreat
namespace Go.Proofs.YtmagjdocondmhaaGreat
open Go Go.RowKit
section
variable {P : Program} {md : Region.Mode}
def mark (d : Nat -> Bool) (i : Nat) : Nat -> Bool := fun j => if j = i then true else d j
theorem getD_mark (done : Array Bool) (i : Nat) (hi : i < done.size) (j : Nat) : (done.setIfInBounds i true).getD j false = mark (fun j => done.getD j false) i j := by
 unfold mark;by_cases e : j = i
 ·subst e; simp [hi]
 ·rw [if_neg e]; simp only [Array.getD_eq_getD_getElem?]; rw [Array.getElem?_setIfInBounds_ne (Ne.symm e)]
def Closed (l : List Oper) (d : Nat -> Bool) : Prop := ∀ j oj, l[j]? = some oj -> d j = true -> ∀ e ∈ oj.after, Region.binds .any e = true -> d e.on = true
theorem wpAny_of_factsC {l : List Oper} {n : Nat} {a0 : Act} {Q : Exit -> Act -> World -> Prop} (cons : Nat -> Option Nat) (big : Nat -> Bool) (Φ : Nat -> Value -> World -> Prop) (C : (Nat -> Bool) -> World -> Prop) (G : World -> World -> Prop) (hB : factsB l.toArray n = true)
  (hsz : (l.take n).all (fun o => match o.dst with | some d => decide (d < a0.tmps.size) | none => true) = true)
  (hst : ∀ i v w w', Φ i v w -> Below w.heap.size w w' -> Φ i v w')
  (hC : ∀ d i w w', C d w -> big i = false -> d i = false -> Below w.heap.size w w' -> C (mark d i) w') (hGC : ∀ d i w w', C d w -> big i = true -> d i = false -> G w w' -> C (mark d i) w')
  (hbig : ∀ b j v w w', big b = true -> cons j ≠ some b -> j ≠ b -> j < n -> Φ j v w -> G w w' -> Φ j v w')
  (hstep : ∀ i o, i < n -> l[i]? = some o -> ∀ (d : Nat -> Bool) (x : Nat -> Value) (w : World), Closed l d -> d i = false -> C d w -> NeedsB .any (fun j => Φ j (x j) w) cons i o.after.toList ->
   wpList P l.toArray (Fin1 (Said o.dst a0.defers fun v w' => Φ i v w' /\ (if big i = true then G w w' else Below w.heap.size w w'))) [o] (putFrom 0 (l.take n) a0 x) w)
  (hend : ∀ (d : Nat -> Bool) (x : Nat -> Value) (w : World), C d w -> (∀ j, j < n -> (∀ c, cons j = some c -> n <= c) -> Φ j (x j) w) -> wpList P l.toArray Q (l.drop n) (putFrom 0 (l.take n) a0 x) w) :
  ∀ (f : Nat) (done : Array Bool) (x : Nat -> Value) (w : World), HeadInv .any l.toArray n done -> undone done n = f -> C (fun j => done.getD j false) w -> (∀ j, j < n -> done.getD j false = true -> (∀ c, cons j = some c -> done.getD c false = false) -> Φ j (x j) w) ->
   wpAny P .any l.toArray Q (f + (l.toArray.size - n)) done (putFrom 0 (l.take n) a0 x) w := by
 simp only [factsB, Bool.and_eq_true, Bool.or_eq_true, decide_eq_true_eq] at hB
 obtain ⟨⟨⟨⟨hn, hsc⟩, hback⟩, hseq⟩, hdst⟩ := hB;intro f
 induction f with
 | zero =>
  intro done x w inv hu hb hf;have hall := undone_zero hu
  have hD : done = Array.replicate n true ++ Array.replicate (l.toArray.size - n) false := by
   apply Array.ext
   ·rw [inv.size]; simp; simp at hn; omega
   ·intro j h1 h2;rcases Nat.lt_or_ge j n with h | h
    ·have := hall j h;rw [Array.getElem_append_left (by simpa using h), Array.getElem_replicate];simpa [Array.getD_eq_getD_getElem?, h1] using this
    ·have := inv.tail j h (by rw [<- inv.size]; exact h1);rw [Array.getElem_append_right (by simpa using h), Array.getElem_replicate];simpa [Array.getD_eq_getD_getElem?, h1] using this
  have hE := hend _ x w hb fun j hj hc => hf j hj (by
   rw [hD, Array.getD_eq_getD_getElem?, Array.getElem?_append_left (by simpa using hj)]; simp [hj]) fun c hcc => by
    have hnc := hc c hcc;rcases Nat.lt_or_ge c l.toArray.size with q | q
    ·exact getD_both (inv.tail c hnc q)
    ·rw [Array.getD_eq_getD_getElem?, Array.getElem?_eq_none (by rw [inv.size]; exact q)]; rfl
  rw [Nat.zero_add, show l.toArray.size - n = (l.drop n).length by simp];refine wpAny_of_seq (md := .any) (l.drop n) n done _ w (fun j => by simp [List.getElem?_drop]) ?_ hE
  rw [hD, show (l.drop n).length = l.toArray.size - n by simp]; exact hseq
 | succ f ih =>
  intro done x w inv hu hb hf;obtain ⟨i0, hi0, hd0⟩ := undone_pos (done := done) (k := n) (by omega);rw [show f + 1 + (l.toArray.size - n) = (f + (l.toArray.size - n)) + 1 by omega];refine ⟨fun h0 => ?_, fun i hi => ?_⟩
  ·obtain ⟨j, hj⟩ := ready_some (md := .any) hback inv.size i0 (by omega) hd0;rw [h0] at hj; cases hj
  ·obtain ⟨hun, o, ho, hall⟩ := mem_ready.1 hi
   have hin : i < n := by
    rcases Nat.lt_or_ge i n with h | h
    ·exact h
    ·rcases hsc with hsc | ⟨hs, hc⟩
     ·have := (Array.getElem?_eq_some_iff.1 ho).1; omega
     ·have hlt := (Array.getElem?_eq_some_iff.1 ho).1;exact absurd hi (tail_waits hs hc (by omega) inv _ i0 rfl hi0 hd0 i h)
   have hol : l[i]? = some o := by simpa using ho
   have hS := hstep i o hin hol (fun j => done.getD j false) x w (fun j oj hj hd e he hbd => inv.closed j oj (by simpa using hj) hd e he hbd) (getD_both hun) hb <| needsB_of _ fun e he1 he2 hcn => by
    have hd := hall e (by simpa using he1) he2;refine hf e.on ?_ hd fun c hcc => ?_
    ·rcases Nat.lt_or_ge e.on n with h | h
     ·exact h
     ·rcases Nat.lt_or_ge e.on l.toArray.size with h' | h'
      ·have := inv.tail e.on h h';rw [getD_both this] at hd; cases hd
      ·rw [Array.getD_eq_getD_getElem?, Array.getElem?_eq_none (by rw [inv.size]; exact h')] at hd; cases hd
    ·rcases hcn with h | h
     ·rw [h] at hcc; cases hcc
     ·rw [h] at hcc; cases hcc; exact getD_both hun
   have hot : (l.take n)[i]? = some o := by rw [List.getElem?_take_of_lt hin]; exact hol
   obtain ⟨z1, z2⟩ := putFrom_size (l.take n) 0 a0 x;refine wpOp_of_fin1 ho (fun a' w' hp h => ?_) hS;rw [<- z2] at h
   obtain ⟨v, rfl, hφ, hbw⟩ := h.puts hp fun d hd => by
    have := List.all_eq_true.1 hsz o (List.mem_of_getElem? hot);rw [hd] at this;rw [z1];simpa using this
   have hbw0 : C (fun j => (done.setIfInBounds i true).getD j false) w' := by
    rw [show (fun j => (done.setIfInBounds i true).getD j false) = mark (fun j => done.getD j false) i from funext fun j => getD_mark done i (by rw [inv.size]; omega) j];by_cases hbi : big i = true
    ·rw [if_pos hbi] at hbw; exact hGC _ i w w' hb hbi (getD_both hun) hbw
    ·rw [if_neg hbi] at hbw; exact hC _ i w w' hb (by simpa using hbi) (getD_both hun) hbw
   rw [putFrom_upd (l.take n) 0 i a0 x o v (by simpa using hdst) hot, Nat.zero_add];refine ih _ _ w' (inv.set hi hin) (by have := undone_set done i hun n hin; omega) hbw0 fun j hj hd hcs => ?_
   by_cases hji : j = i
   ·subst hji;simpa [upd] using hφ
   ·rw [getD_set_ne false (Ne.symm hji)] at hd
    have hci : cons j ≠ some i := fun hc => by
     have h1 := hcs i hc;have hlt : i < done.size := (by rw [inv.size]; omega);simp [hlt] at h1
    have hold := hf j hj hd fun c hc => by
     have h1 := hcs c hc;have hne : i ≠ c := fun e => hci (by rw [e]; exact hc)
     rwa [getD_set_ne false hne] at h1
    have hnew : Φ j (x j) w' := by
     by_cases hbi : big i = true
     ·rw [if_pos hbi] at hbw; exact hbig i j (x j) w w' hbi hci hji hj hold hbw
     ·rw [if_neg hbi] at hbw; exact hst j (x j) w w' hold hbw
    simpa [upd, hji] using hnew
theorem wp_region_factsC {id : Nat} {Q : Exit -> Act -> World -> Prop} {a : Act} {w : World} {l : List Oper} (n : Nat) (cons : Nat -> Option Nat) (big : Nat -> Bool) (Φ : Nat -> Value -> World -> Prop) (C : (Nat -> Bool) -> World -> Prop) (G : World -> World -> Prop) (hC0 : C (fun _ => false) { w with drawn := w.drawn + 1 }) (hm : P.follows .mixedOrders = true) (hB : factsB l.toArray n = true)
  (hsz : (l.take n).all (fun o => match o.dst with | some d => decide (d < a.tmps.size) | none => true) = true)
  (hst : ∀ i v w w', Φ i v w -> Below w.heap.size w w' -> Φ i v w')
  (hC : ∀ d i w w', C d w -> big i = false -> d i = false -> Below w.heap.size w w' -> C (mark d i) w') (hGC : ∀ d i w w', C d w -> big i = true -> d i = false -> G w w' -> C (mark d i) w')
  (hbig : ∀ b j v w1 w', big b = true -> cons j ≠ some b -> j ≠ b -> j < n -> Φ j v w1 -> G w1 w' -> Φ j v w')
  (hstep : ∀ i o, i < n -> l[i]? = some o -> ∀ (d : Nat -> Bool) (x : Nat -> Value) (w' : World), Closed l d -> d i = false -> C d w' -> NeedsB .any (fun j => Φ j (x j) w') cons i o.after.toList ->
   wpList P l.toArray (Fin1 (Said o.dst a.defers fun v w'' => Φ i v w'' /\ (if big i = true then G w' w'' else Below w'.heap.size w' w''))) [o] (putFrom 0 (l.take n) a x) w')
  (hend : ∀ (d : Nat -> Bool) (x : Nat -> Value) (w' : World), C d w' -> (∀ j, j < n -> (∀ c, cons j = some c -> n <= c) -> Φ j (x j) w') -> wpList P l.toArray Q (l.drop n) (putFrom 0 (l.take n) a x) w') : (Code.region id l.toArray true).wp P Q a w := by
 have hB' := hB;simp only [factsB, Bool.and_eq_true, Bool.or_eq_true, decide_eq_true_eq] at hB'
 obtain ⟨⟨⟨⟨hn, hsc⟩, hback⟩, hseq⟩, hdst⟩ := hB';refine wp_region_any hm ?_
 have hu : ∀ k, k <= l.toArray.size -> undone (Array.replicate l.toArray.size false) k = k := by
  intro k
  induction k with
  | zero => intro _; rfl
  | succ k ih =>
   intro hk;rw [undone, ih (by omega), getD_in (by simp at hk |-; omega) (getD_replicate_false _ _)]; simp
 have inv0 : HeadInv .any l.toArray n (Array.replicate l.toArray.size false) :=
  ⟨by simp, fun j oj _ hl => (by rw [getD_replicate_false] at hl; cases hl), fun t _ ht => getD_in (by simpa using ht) (getD_replicate_false _ _)⟩
 have H := wpAny_of_factsC (a0 := a) (Q := Q) cons big Φ C G hB hsz hst hC hGC hbig hstep hend n (Array.replicate l.toArray.size false)
  (fun j => match (l.take n)[j]? with | some o => (match o.dst with | some d => a.tmps.getD d undef | none => undef) | none => undef) { w with drawn := w.drawn + 1 } inv0 (hu n hn) (by rw [show (fun j => (Array.replicate l.toArray.size false).getD j false) = fun _ => false from funext fun j => getD_replicate_false _ _]; exact hC0)
  (fun j _ hl => by rw [getD_replicate_false] at hl; cases hl)
 rw [putFrom_start (l.take n) 0 a _ fun i o d hi hd => by rw [Nat.zero_add]; simp only [hi, hd], show n + (l.toArray.size - n) = l.toArray.size by omega] at H;exact H
end
end Go.Proofs.YtmagjdocondmhaaGreat
namespace Go.Proofs.YtmagjdocondmhaaGreat
open Go Go.RowKit
section
variable {P : Program} {md : Region.Mode}
theorem wpAny_of_factsD {l : List Oper} {n : Nat} {a0 : Act} {Q : Exit -> Act -> World -> Prop} (cons : Nat -> Option Nat) (big : Nat -> Bool) (Φ : Nat -> (Nat -> Value) -> World -> Prop) (C : (Nat -> Bool) -> World -> Prop) (G : Nat -> World -> World -> Prop) (hB : factsB l.toArray n = true)
  (hsz : (l.take n).all (fun o => match o.dst with | some d => decide (d < a0.tmps.size) | none => true) = true)
  (hloc : ∀ j oj (x y : Nat -> Value) w, l[j]? = some oj -> j < n -> x j = y j -> (∀ e ∈ oj.after.toList, Region.binds .any e = true -> x e.on = y e.on) -> Φ j x w -> Φ j y w) (hst : ∀ i x w w', Φ i x w -> Below w.heap.size w w' -> Φ i x w')
  (hC : ∀ d i w w', C d w -> big i = false -> d i = false -> Below w.heap.size w w' -> C (mark d i) w') (hGC : ∀ d i oi w w', l[i]? = some oi -> (∀ e ∈ oi.after.toList, Region.binds .any e = true -> d e.on = true) -> C d w -> big i = true -> d i = false -> G i w w' -> C (mark d i) w')
  (hbig : ∀ b ob j x (d : Nat -> Bool) w w', big b = true -> l[b]? = some ob -> (∀ e ∈ ob.after.toList, Region.binds .any e = true -> d e.on = true) -> (∀ c, cons j = some c -> mark d b c = false) -> j ≠ b -> j < n -> Φ j x w -> G b w w' -> Φ j x w')
  (hstep : ∀ i o, i < n -> l[i]? = some o -> ∀ (d : Nat -> Bool) (x : Nat -> Value) (w : World), Closed l d -> d i = false -> (∀ e ∈ o.after.toList, Region.binds .any e = true -> d e.on = true) -> C d w -> NeedsB .any (fun j => Φ j x w) cons i o.after.toList ->
   wpList P l.toArray (Fin1 (Said o.dst a0.defers fun v w' => Φ i (upd x i v) w' /\ (if big i = true then G i w w' else Below w.heap.size w w'))) [o] (putFrom 0 (l.take n) a0 x) w)
  (hend : ∀ (d : Nat -> Bool) (x : Nat -> Value) (w : World), (∀ j, j < n -> d j = true) -> C d w -> (∀ j, j < n -> (∀ c, cons j = some c -> n <= c) -> Φ j x w) -> wpList P l.toArray Q (l.drop n) (putFrom 0 (l.take n) a0 x) w) :
  ∀ (f : Nat) (done : Array Bool) (x : Nat -> Value) (w : World), HeadInv .any l.toArray n done -> undone done n = f -> C (fun j => done.getD j false) w -> (∀ j, j < n -> done.getD j false = true -> (∀ c, cons j = some c -> done.getD c false = false) -> Φ j x w) ->
   wpAny P .any l.toArray Q (f + (l.toArray.size - n)) done (putFrom 0 (l.take n) a0 x) w := by
 simp only [factsB, Bool.and_eq_true, Bool.or_eq_true, decide_eq_true_eq] at hB
 obtain ⟨⟨⟨⟨hn, hsc⟩, hback⟩, hseq⟩, hdst⟩ := hB;intro f
 induction f with
 | zero =>
  intro done x w inv hu hb hf;have hall := undone_zero hu
  have hD : done = Array.replicate n true ++ Array.replicate (l.toArray.size - n) false := by
   apply Array.ext
   ·rw [inv.size]; simp; simp at hn; omega
   ·intro j h1 h2;rcases Nat.lt_or_ge j n with h | h
    ·have := hall j h;rw [Array.getElem_append_left (by simpa using h), Array.getElem_replicate];simpa [Array.getD_eq_getD_getElem?, h1] using this
    ·have := inv.tail j h (by rw [<- inv.size]; exact h1);rw [Array.getElem_append_right (by simpa using h), Array.getElem_replicate];simpa [Array.getD_eq_getD_getElem?, h1] using this
  have hE := hend (fun j => done.getD j false) x w (fun j hj => by have h1 := hall j hj; have h2 : j < done.size := (by rw [inv.size]; simp at hn |-; omega); simpa [Array.getD_eq_getD_getElem?, h2] using h1) hb fun j hj hc => hf j hj (by
   rw [hD, Array.getD_eq_getD_getElem?, Array.getElem?_append_left (by simpa using hj)]; simp [hj]) fun c hcc => by
    have hnc := hc c hcc;rcases Nat.lt_or_ge c l.toArray.size with q | q
    ·exact getD_both (inv.tail c hnc q)
    ·rw [Array.getD_eq_getD_getElem?, Array.getElem?_eq_none (by rw [inv.size]; exact q)]; rfl
  rw [Nat.zero_add, show l.toArray.size - n = (l.drop n).length by simp];refine wpAny_of_seq (md := .any) (l.drop n) n done _ w (fun j => by simp [List.getElem?_drop]) ?_ hE
  rw [hD, show (l.drop n).length = l.toArray.size - n by simp]; exact hseq
 | succ f ih =>
  intro done x w inv hu hb hf;obtain ⟨i0, hi0, hd0⟩ := undone_pos (done := done) (k := n) (by omega);rw [show f + 1 + (l.toArray.size - n) = (f + (l.toArray.size - n)) + 1 by omega];refine ⟨fun h0 => ?_, fun i hi => ?_⟩
  ·obtain ⟨j, hj⟩ := ready_some (md := .any) hback inv.size i0 (by omega) hd0;rw [h0] at hj; cases hj
  ·obtain ⟨hun, o, ho, hall⟩ := mem_ready.1 hi
   have hin : i < n := by
    rcases Nat.lt_or_ge i n with h | h
    ·exact h
    ·rcases hsc with hsc | ⟨hs, hc⟩
     ·have := (Array.getElem?_eq_some_iff.1 ho).1; omega
     ·have hlt := (Array.getElem?_eq_some_iff.1 ho).1;exact absurd hi (tail_waits hs hc (by omega) inv _ i0 rfl hi0 hd0 i h)
   have hol : l[i]? = some o := by simpa using ho
   have hS := hstep i o hin hol (fun j => done.getD j false) x w (fun j oj hj hd e he hbd => inv.closed j oj (by simpa using hj) hd e he hbd) (getD_both hun) (fun e he hbd => hall e (by simpa using he) hbd) hb <| needsB_of _ fun e he1 he2 hcn => by
    have hd := hall e (by simpa using he1) he2;refine hf e.on ?_ hd fun c hcc => ?_
    ·rcases Nat.lt_or_ge e.on n with h | h
     ·exact h
     ·rcases Nat.lt_or_ge e.on l.toArray.size with h' | h'
      ·have := inv.tail e.on h h';rw [getD_both this] at hd; cases hd
      ·rw [Array.getD_eq_getD_getElem?, Array.getElem?_eq_none (by rw [inv.size]; exact h')] at hd; cases hd
    ·rcases hcn with h | h
     ·rw [h] at hcc; cases hcc
     ·rw [h] at hcc; cases hcc; exact getD_both hun
   have hot : (l.take n)[i]? = some o := by rw [List.getElem?_take_of_lt hin]; exact hol
   obtain ⟨z1, z2⟩ := putFrom_size (l.take n) 0 a0 x;refine wpOp_of_fin1 ho (fun a' w' hp h => ?_) hS;rw [<- z2] at h
   obtain ⟨v, rfl, hφ, hbw⟩ := h.puts hp fun d hd => by
    have := List.all_eq_true.1 hsz o (List.mem_of_getElem? hot);rw [hd] at this;rw [z1];simpa using this
   have hbw0 : C (fun j => (done.setIfInBounds i true).getD j false) w' := by
    rw [show (fun j => (done.setIfInBounds i true).getD j false) = mark (fun j => done.getD j false) i from funext fun j => getD_mark done i (by rw [inv.size]; omega) j];by_cases hbi : big i = true
    ·rw [if_pos hbi] at hbw; exact hGC _ i o w w' hol (fun e he hbd => hall e (by simpa using he) hbd) hb hbi (getD_both hun) hbw
    ·rw [if_neg hbi] at hbw; exact hC _ i w w' hb (by simpa using hbi) (getD_both hun) hbw
   rw [putFrom_upd (l.take n) 0 i a0 x o v (by simpa using hdst) hot, Nat.zero_add];refine ih _ _ w' (inv.set hi hin) (by have := undone_set done i hun n hin; omega) hbw0 fun j hj hd hcs => ?_
   by_cases hji : j = i
   ·subst hji;exact hφ
   ·rw [getD_set_ne false (Ne.symm hji)] at hd
    have hci : cons j ≠ some i := fun hc => by
     have h1 := hcs i hc;have hlt : i < done.size := (by rw [inv.size]; omega);simp [hlt] at h1
    have hold := hf j hj hd fun c hc => by
     have h1 := hcs c hc;have hne : i ≠ c := fun e => hci (by rw [e]; exact hc)
     rwa [getD_set_ne false hne] at h1
    have hnew : Φ j x w' := by
     by_cases hbi : big i = true
     ·rw [if_pos hbi] at hbw; exact hbig i o j x (fun k => done.getD k false) w w' hbi hol (fun e he hbd => hall e (by simpa using he) hbd) (fun c hc => by
       have h1 := hcs c hc;have hsz2 : i < done.size := by rw [inv.size]; omega
       rw [getD_mark done i hsz2 c] at h1; exact h1) hji hj hold hbw
     ·rw [if_neg hbi] at hbw; exact hst j x w w' hold hbw
    obtain ⟨oj, hoj⟩ : ∃ oj, l[j]? = some oj := ⟨l[j]'(by simp at hn; omega), List.getElem?_eq_getElem _⟩
    refine hloc j oj x (upd x i v) w' hoj hj (by simp [upd, hji]) (fun e he hbd => ?_) hnew;have hde := inv.closed j oj (by simpa using hoj) hd e (by simpa using he) hbd;have hei : e.on ≠ i := fun q => by rw [q, getD_both hun] at hde; cases hde
    simp [upd, hei]
theorem wp_region_factsD {id : Nat} {Q : Exit -> Act -> World -> Prop} {a : Act} {w : World} {l : List Oper} (n : Nat) (cons : Nat -> Option Nat) (big : Nat -> Bool) (Φ : Nat -> (Nat -> Value) -> World -> Prop) (C : (Nat -> Bool) -> World -> Prop) (G : Nat -> World -> World -> Prop) (hC0 : C (fun _ => false) { w with drawn := w.drawn + 1 }) (hm : P.follows .mixedOrders = true) (hB : factsB l.toArray n = true)
  (hsz : (l.take n).all (fun o => match o.dst with | some d => decide (d < a.tmps.size) | none => true) = true)
  (hloc : ∀ j oj (x y : Nat -> Value) w, l[j]? = some oj -> j < n -> x j = y j -> (∀ e ∈ oj.after.toList, Region.binds .any e = true -> x e.on = y e.on) -> Φ j x w -> Φ j y w) (hst : ∀ i x w w', Φ i x w -> Below w.heap.size w w' -> Φ i x w')
  (hC : ∀ d i w w', C d w -> big i = false -> d i = false -> Below w.heap.size w w' -> C (mark d i) w') (hGC : ∀ d i oi w w', l[i]? = some oi -> (∀ e ∈ oi.after.toList, Region.binds .any e = true -> d e.on = true) -> C d w -> big i = true -> d i = false -> G i w w' -> C (mark d i) w')
  (hbig : ∀ b ob j x (d : Nat -> Bool) w1 w', big b = true -> l[b]? = some ob -> (∀ e ∈ ob.after.toList, Region.binds .any e = true -> d e.on = true) -> (∀ c, cons j = some c -> mark d b c = false) -> j ≠ b -> j < n -> Φ j x w1 -> G b w1 w' -> Φ j x w')
  (hstep : ∀ i o, i < n -> l[i]? = some o -> ∀ (d : Nat -> Bool) (x : Nat -> Value) (w' : World), Closed l d -> d i = false -> (∀ e ∈ o.after.toList, Region.binds .any e = true -> d e.on = true) -> C d w' -> NeedsB .any (fun j => Φ j x w') cons i o.after.toList ->
   wpList P l.toArray (Fin1 (Said o.dst a.defers fun v w'' => Φ i (upd x i v) w'' /\ (if big i = true then G i w' w'' else Below w'.heap.size w' w''))) [o] (putFrom 0 (l.take n) a x) w')
  (hend : ∀ (d : Nat -> Bool) (x : Nat -> Value) (w' : World), (∀ j, j < n -> d j = true) -> C d w' -> (∀ j, j < n -> (∀ c, cons j = some c -> n <= c) -> Φ j x w') -> wpList P l.toArray Q (l.drop n) (putFrom 0 (l.take n) a x) w') : (Code.region id l.toArray true).wp P Q a w := by
 have hB' := hB;simp only [factsB, Bool.and_eq_true, Bool.or_eq_true, decide_eq_true_eq] at hB'
 obtain ⟨⟨⟨⟨hn, hsc⟩, hback⟩, hseq⟩, hdst⟩ := hB';refine wp_region_any hm ?_
 have hu : ∀ k, k <= l.toArray.size -> undone (Array.replicate l.toArray.size false) k = k := by
  intro k
  induction k with
  | zero => intro _; rfl
  | succ k ih =>
   intro hk;rw [undone, ih (by omega), getD_in (by simp at hk |-; omega) (getD_replicate_false _ _)]; simp
 have inv0 : HeadInv .any l.toArray n (Array.replicate l.toArray.size false) :=
  ⟨by simp, fun j oj _ hl => (by rw [getD_replicate_false] at hl; cases hl), fun t _ ht => getD_in (by simpa using ht) (getD_replicate_false _ _)⟩
 have H := wpAny_of_factsD (a0 := a) (Q := Q) cons big Φ C G hB hsz hloc hst hC hGC hbig hstep hend n (Array.replicate l.toArray.size false)
  (fun j => match (l.take n)[j]? with | some o => (match o.dst with | some d => a.tmps.getD d undef | none => undef) | none => undef) { w with drawn := w.drawn + 1 } inv0 (hu n hn) (by rw [show (fun j => (Array.replicate l.toArray.size false).getD j false) = fun _ => false from funext fun j => getD_replicate_false _ _]; exact hC0)
  (fun j _ hl => by rw [getD_replicate_false] at hl; cases hl)
 rw [putFrom_start (l.take n) 0 a _ fun i o d hi hd => by rw [Nat.zero_add]; simp only [hi, hd], show n + (l.toArray.size - n) = l.toArray.size by omega] at H;exact H
theorem wp_region_factsV {id : Nat} {Q : Exit -> Act -> World -> Prop} {a : Act} {w : World} {l : List Oper} (n : Nat) (cons : Nat -> Option Nat) (big : Nat -> Bool) (Φ : Nat -> Value -> World -> Prop) (hm : P.follows .mixedOrders = true) (hB : factsB l.toArray n = true)
  (hsz : (l.take n).all (fun o => match o.dst with | some d => decide (d < a.tmps.size) | none => true) = true)
  (hst : ∀ i v w w', Φ i v w -> Below w.heap.size w w' -> Φ i v w')
  (hbig : ∀ b ob j v (d : Nat -> Bool) w1 w', big b = true -> l[b]? = some ob -> (∀ e ∈ ob.after.toList, Region.binds .any e = true -> d e.on = true) -> (∀ c, cons j = some c -> mark d b c = false) -> j ≠ b -> j < n -> Φ j v w1 -> Below w.heap.size w1 w' -> Φ j v w')
  (hstep : ∀ i o, i < n -> l[i]? = some o -> ∀ (x : Nat -> Value) (w' : World), Below w.heap.size w w' -> NeedsB .any (fun j => Φ j (x j) w') cons i o.after.toList ->
   wpList P l.toArray (Fin1 (Said o.dst a.defers fun v w'' => Φ i (upd x i v i) w'' /\ (if big i = true then Below w.heap.size w' w'' else Below w'.heap.size w' w''))) [o] (putFrom 0 (l.take n) a x) w')
  (hend : ∀ (x : Nat -> Value) (w' : World), Below w.heap.size w w' -> (∀ j, j < n -> (∀ c, cons j = some c -> n <= c) -> Φ j (x j) w') -> wpList P l.toArray Q (l.drop n) (putFrom 0 (l.take n) a x) w') : (Code.region id l.toArray true).wp P Q a w :=
 wp_region_factsD n cons big (fun j x w' => Φ j (x j) w') (fun _ w' => Below w.heap.size w w') (fun _ w1 w' => Below w.heap.size w1 w') ⟨rfl, rfl, rfl, zR _, fun _ _ => rfl⟩ hm hB hsz
  (fun j oj x y w _ _ e _ h => by rw [<- e]; exact h) (fun i x w w' h hb => hst i (x i) w w' h hb)
  (fun d i w1 w' h _ _ hb => h.trans (hb.mono h.size)) (fun d i oi w1 w' _ _ h _ _ hg => h.trans hg) (fun b ob j x d w1 w' hb hob hd hc hne hj h hg => hbig b ob j (x j) d w1 w' hb hob hd hc hne hj h hg)
  (fun i o hi ho d x w' _ _ _ hC hN => hstep i o hi ho x w' hC hN)
  (fun d x w' _ hC hF => hend x w' hC hF)
end
end Go.Proofs.YtmagjdocondmhaaGreat
namespace Go.Proofs.YtmagjdocondmhaaGreat
open Go Go.RowKit
section
variable {P : Program}
end
end Go.Proofs.YtmagjdocondmhaaGreat
