/- packed -/
import Derived.Test.YtmagjdocondmhaaGreatPkAn01
import Derived.Test.YtmagjdocondmhaaGreatChecked
import Derived.OpenShut
import Derived.ProofKit
import Derived.ChangeSlices
import Derived.Laws.IdiomStrings
import Derived.Deep.QuietTactic
import Derived.IntWalk
import Derived.Sort.WalkA
import Derived.Shelf.SlSortCmp.KitK
import Derived.Test.YtmagjdocondmhaaGreatShelf
import Derived.WalkLawsBesides
import Derived.BigRegion
import Derived.Deep.LoopGhost
import Derived.Shelf.SlSortCmp.QuietGrown
import Derived.Lib.Hide
import Derived.Deep.CutRange
import Derived.Deep.DeepCutAuto
import Derived.Maps.Own
import Derived.Maps.OwnSet
import Derived.Maps.OwnOps
import Derived.Maps.Views
import Derived.Maps.StringElems
import Derived.Maps.RangeWalk
import Derived.StringKeys
import Derived.DataShut
set_option linter.unusedVariables false
set_option linter.unusedSimpArgs false
set_option maxRecDepth 100000
set_option maxHeartbeats 64000000
namespace Go.Proofs.YtmagjdocondmhaaGreat
open Go Go.RowKit
section
variable {P : Program} {md : Region.Mode}
theorem wpAny_of_factsH {l : List Oper} {n : Nat} {a0 : Act} {Q : Exit -> Act -> World -> Prop} (cons : Nat -> Option Nat) (big : Nat -> Bool) (Φ : Nat -> (Nat -> Value) -> World -> Prop) (C : (Nat -> Bool) -> World -> Prop) (G : Nat -> World -> World -> Prop) (hB : factsB l.toArray n = true)
  (hsz : (l.take n).all (fun o => match o.dst with | some d => decide (d < a0.tmps.size) | none => true) = true)
  (hloc : ∀ j oj (x y : Nat -> Value) w, l[j]? = some oj -> j < n -> x j = y j -> (∀ e ∈ oj.after.toList, Region.binds .any e = true -> x e.on = y e.on) -> Φ j x w -> Φ j y w) (hst : ∀ i x w w', Φ i x w -> Below w.heap.size w w' -> Φ i x w')
  (hC : ∀ d i w w', C d w -> big i = false -> d i = false -> Below w.heap.size w w' -> C (mark d i) w') (hGC : ∀ d i oi w w', l[i]? = some oi -> (∀ e ∈ oi.after.toList, Region.binds .any e = true -> d e.on = true) -> C d w -> big i = true -> d i = false -> G i w w' -> C (mark d i) w')
  (hbig : ∀ b ob j x (d : Nat -> Bool) w w', big b = true -> l[b]? = some ob -> (∀ e ∈ ob.after.toList, Region.binds .any e = true -> d e.on = true) -> (∀ c, cons j = some c -> mark d b c = false) -> j ≠ b -> j < n -> Closed l d -> d j = true -> d b = false -> Φ j x w -> G b w w' -> Φ j x w')
  (hstep : ∀ i o, i < n -> l[i]? = some o -> ∀ (d : Nat -> Bool) (x : Nat -> Value) (w : World), Closed l d -> d i = false -> (∀ e ∈ o.after.toList, Region.binds .any e = true -> d e.on = true) -> C d w -> NeedsB .any (fun j => Φ j x w) cons i o.after.toList ->
   wpList P l.toArray (Fin1 (Said o.dst a0.defers fun v w' => Φ i (upd x i v) w' /\ (if big i = true then G i w w' else Below w.heap.size w w'))) [o] (putFrom 0 (l.take n) a0 x) w)
  (hend : ∀ (d : Nat -> Bool) (x : Nat -> Value) (w : World), (∀ j, j < n -> d j = true) -> C d w -> (∀ j, j < n -> (∀ c, cons j = some c -> n <= c) -> Φ j x w) -> wpList P l.toArray Q (l.drop n) (putFrom 0 (l.take n) a0 x) w) :
  ∀ (f : Nat) (done : Array Bool) (x : Nat -> Value) (w : World), HeadInv .any l.toArray n done -> undone done n = f -> C (fun j => done.getD j false) w -> (∀ j, j < n -> done.getD j false = true -> (∀ c, cons j = some c -> done.getD c false = false) -> Φ j x w) ->
   wpAny P .any l.toArray Q (f + (l.toArray.size - n)) done (putFrom 0 (l.take n) a0 x) w := by
 simp only [factsB, Bool.and_eq_true, Bool.or_eq_true, decide_eq_true_eq] at hB
 obtain ⟨⟨⟨⟨hn, hsc⟩, hback⟩, hseq⟩, hdst⟩ := hB;intro f
 induction f with
 | zero =>
  intro done x w inv hu hb hf;have hall := undone_zero hu
  have hD : done = Array.replicate n true ++ Array.replicate (l.toArray.size - n) false := by
   apply Array.ext
   ·rw [inv.size]; simp; simp at hn; omega
   ·intro j h1 h2;rcases Nat.lt_or_ge j n with h | h
    ·have := hall j h;rw [Array.getElem_append_left (by simpa using h), Array.getElem_replicate];simpa [Array.getD_eq_getD_getElem?, h1] using this
    ·have := inv.tail j h (by rw [<- inv.size]; exact h1);rw [Array.getElem_append_right (by simpa using h), Array.getElem_replicate];simpa [Array.getD_eq_getD_getElem?, h1] using this
  have hE := hend (fun j => done.getD j false) x w (fun j hj => by have h1 := hall j hj; have h2 : j < done.size := (by rw [inv.size]; simp at hn |-; omega); simpa [Array.getD_eq_getD_getElem?, h2] using h1) hb fun j hj hc => hf j hj (by
   rw [hD, Array.getD_eq_getD_getElem?, Array.getElem?_append_left (by simpa using hj)]; simp [hj]) fun c hcc => by
    have hnc := hc c hcc;rcases Nat.lt_or_ge c l.toArray.size with q | q
    ·exact getD_both (inv.tail c hnc q)
    ·rw [Array.getD_eq_getD_getElem?, Array.getElem?_eq_none (by rw [inv.size]; exact q)]; rfl
  rw [Nat.zero_add, show l.toArray.size - n = (l.drop n).length by simp];refine wpAny_of_seq (md := .any) (l.drop n) n done _ w (fun j => by simp [List.getElem?_drop]) ?_ hE
  rw [hD, show (l.drop n).length = l.toArray.size - n by simp]; exact hseq
 | succ f ih =>
  intro done x w inv hu hb hf;obtain ⟨i0, hi0, hd0⟩ := undone_pos (done := done) (k := n) (by omega);rw [show f + 1 + (l.toArray.size - n) = (f + (l.toArray.size - n)) + 1 by omega];refine ⟨fun h0 => ?_, fun i hi => ?_⟩
  ·obtain ⟨j, hj⟩ := ready_some (md := .any) hback inv.size i0 (by omega) hd0;rw [h0] at hj; cases hj
  ·obtain ⟨hun, o, ho, hall⟩ := mem_ready.1 hi
   have hin : i < n := by
    rcases Nat.lt_or_ge i n with h | h
    ·exact h
    ·rcases hsc with hsc | ⟨hs, hc⟩
     ·have := (Array.getElem?_eq_some_iff.1 ho).1; omega
     ·have hlt := (Array.getElem?_eq_some_iff.1 ho).1;exact absurd hi (tail_waits hs hc (by omega) inv _ i0 rfl hi0 hd0 i h)
   have hol : l[i]? = some o := by simpa using ho
   have hS := hstep i o hin hol (fun j => done.getD j false) x w (fun j oj hj hd e he hbd => inv.closed j oj (by simpa using hj) hd e he hbd) (getD_both hun) (fun e he hbd => hall e (by simpa using he) hbd) hb <| needsB_of _ fun e he1 he2 hcn => by
    have hd := hall e (by simpa using he1) he2;refine hf e.on ?_ hd fun c hcc => ?_
    ·rcases Nat.lt_or_ge e.on n with h | h
     ·exact h
     ·rcases Nat.lt_or_ge e.on l.toArray.size with h' | h'
      ·have := inv.tail e.on h h';rw [getD_both this] at hd; cases hd
      ·rw [Array.getD_eq_getD_getElem?, Array.getElem?_eq_none (by rw [inv.size]; exact h')] at hd; cases hd
    ·rcases hcn with h | h
     ·rw [h] at hcc; cases hcc
     ·rw [h] at hcc; cases hcc; exact getD_both hun
   have hot : (l.take n)[i]? = some o := by rw [List.getElem?_take_of_lt hin]; exact hol
   obtain ⟨z1, z2⟩ := putFrom_size (l.take n) 0 a0 x;refine wpOp_of_fin1 ho (fun a' w' hp h => ?_) hS;rw [<- z2] at h
   obtain ⟨v, rfl, hφ, hbw⟩ := h.puts hp fun d hd => by
    have := List.all_eq_true.1 hsz o (List.mem_of_getElem? hot);rw [hd] at this;rw [z1];simpa using this
   have hbw0 : C (fun j => (done.setIfInBounds i true).getD j false) w' := by
    rw [show (fun j => (done.setIfInBounds i true).getD j false) = mark (fun j => done.getD j false) i from funext fun j => getD_mark done i (by rw [inv.size]; omega) j];by_cases hbi : big i = true
    ·rw [if_pos hbi] at hbw; exact hGC _ i o w w' hol (fun e he hbd => hall e (by simpa using he) hbd) hb hbi (getD_both hun) hbw
    ·rw [if_neg hbi] at hbw; exact hC _ i w w' hb (by simpa using hbi) (getD_both hun) hbw
   rw [putFrom_upd (l.take n) 0 i a0 x o v (by simpa using hdst) hot, Nat.zero_add];refine ih _ _ w' (inv.set hi hin) (by have := undone_set done i hun n hin; omega) hbw0 fun j hj hd hcs => ?_
   by_cases hji : j = i
   ·subst hji;exact hφ
   ·rw [getD_set_ne false (Ne.symm hji)] at hd
    have hci : cons j ≠ some i := fun hc => by
     have h1 := hcs i hc;have hlt : i < done.size := (by rw [inv.size]; omega);simp [hlt] at h1
    have hold := hf j hj hd fun c hc => by
     have h1 := hcs c hc;have hne : i ≠ c := fun e => hci (by rw [e]; exact hc)
     rwa [getD_set_ne false hne] at h1
    have hnew : Φ j x w' := by
     by_cases hbi : big i = true
     ·rw [if_pos hbi] at hbw; exact hbig i o j x (fun k => done.getD k false) w w' hbi hol (fun e he hbd => hall e (by simpa using he) hbd) (fun c hc => by
       have h1 := hcs c hc;have hsz2 : i < done.size := by rw [inv.size]; omega
       rw [getD_mark done i hsz2 c] at h1; exact h1) hji hj (fun j oj hj hd e he hbd => inv.closed j oj (by simpa using hj) hd e he hbd) hd (getD_both hun) hold hbw
     ·rw [if_neg hbi] at hbw; exact hst j x w w' hold hbw
    obtain ⟨oj, hoj⟩ : ∃ oj, l[j]? = some oj := ⟨l[j]'(by simp at hn; omega), List.getElem?_eq_getElem _⟩
    refine hloc j oj x (upd x i v) w' hoj hj (by simp [upd, hji]) (fun e he hbd => ?_) hnew;have hde := inv.closed j oj (by simpa using hoj) hd e (by simpa using he) hbd;have hei : e.on ≠ i := fun q => by rw [q, getD_both hun] at hde; cases hde
    simp [upd, hei]
theorem wp_region_factsH {id : Nat} {Q : Exit -> Act -> World -> Prop} {a : Act} {w : World} {l : List Oper} (n : Nat) (cons : Nat -> Option Nat) (big : Nat -> Bool) (Φ : Nat -> (Nat -> Value) -> World -> Prop) (C : (Nat -> Bool) -> World -> Prop) (G : Nat -> World -> World -> Prop) (hC0 : C (fun _ => false) { w with drawn := w.drawn + 1 }) (hm : P.follows .mixedOrders = true) (hB : factsB l.toArray n = true)
  (hsz : (l.take n).all (fun o => match o.dst with | some d => decide (d < a.tmps.size) | none => true) = true)
  (hloc : ∀ j oj (x y : Nat -> Value) w, l[j]? = some oj -> j < n -> x j = y j -> (∀ e ∈ oj.after.toList, Region.binds .any e = true -> x e.on = y e.on) -> Φ j x w -> Φ j y w) (hst : ∀ i x w w', Φ i x w -> Below w.heap.size w w' -> Φ i x w')
  (hC : ∀ d i w w', C d w -> big i = false -> d i = false -> Below w.heap.size w w' -> C (mark d i) w') (hGC : ∀ d i oi w w', l[i]? = some oi -> (∀ e ∈ oi.after.toList, Region.binds .any e = true -> d e.on = true) -> C d w -> big i = true -> d i = false -> G i w w' -> C (mark d i) w')
  (hbig : ∀ b ob j x (d : Nat -> Bool) w1 w', big b = true -> l[b]? = some ob -> (∀ e ∈ ob.after.toList, Region.binds .any e = true -> d e.on = true) -> (∀ c, cons j = some c -> mark d b c = false) -> j ≠ b -> j < n -> Closed l d -> d j = true -> d b = false -> Φ j x w1 -> G b w1 w' -> Φ j x w')
  (hstep : ∀ i o, i < n -> l[i]? = some o -> ∀ (d : Nat -> Bool) (x : Nat -> Value) (w' : World), Closed l d -> d i = false -> (∀ e ∈ o.after.toList, Region.binds .any e = true -> d e.on = true) -> C d w' -> NeedsB .any (fun j => Φ j x w') cons i o.after.toList ->
   wpList P l.toArray (Fin1 (Said o.dst a.defers fun v w'' => Φ i (upd x i v) w'' /\ (if big i = true then G i w' w'' else Below w'.heap.size w' w''))) [o] (putFrom 0 (l.take n) a x) w')
  (hend : ∀ (d : Nat -> Bool) (x : Nat -> Value) (w' : World), (∀ j, j < n -> d j = true) -> C d w' -> (∀ j, j < n -> (∀ c, cons j = some c -> n <= c) -> Φ j x w') -> wpList P l.toArray Q (l.drop n) (putFrom 0 (l.take n) a x) w') : (Code.region id l.toArray true).wp P Q a w := by
 have hB' := hB;simp only [factsB, Bool.and_eq_true, Bool.or_eq_true, decide_eq_true_eq] at hB'
 obtain ⟨⟨⟨⟨hn, hsc⟩, hback⟩, hseq⟩, hdst⟩ := hB';refine wp_region_any hm ?_
 have hu : ∀ k, k <= l.toArray.size -> undone (Array.replicate l.toArray.size false) k = k := by
  intro k
  induction k with
  | zero => intro _; rfl
  | succ k ih =>
   intro hk;rw [undone, ih (by omega), getD_in (by simp at hk |-; omega) (getD_replicate_false _ _)]; simp
 have inv0 : HeadInv .any l.toArray n (Array.replicate l.toArray.size false) :=
  ⟨by simp, fun j oj _ hl => (by rw [getD_replicate_false] at hl; cases hl), fun t _ ht => getD_in (by simpa using ht) (getD_replicate_false _ _)⟩
 have H := wpAny_of_factsH (a0 := a) (Q := Q) cons big Φ C G hB hsz hloc hst hC hGC hbig hstep hend n (Array.replicate l.toArray.size false)
  (fun j => match (l.take n)[j]? with | some o => (match o.dst with | some d => a.tmps.getD d undef | none => undef) | none => undef) { w with drawn := w.drawn + 1 } inv0 (hu n hn) (by rw [show (fun j => (Array.replicate l.toArray.size false).getD j false) = fun _ => false from funext fun j => getD_replicate_false _ _]; exact hC0)
  (fun j _ hl => by rw [getD_replicate_false] at hl; cases hl)
 rw [putFrom_start (l.take n) 0 a _ fun i o d hi hd => by rw [Nat.zero_add]; simp only [hi, hd], show n + (l.toArray.size - n) = l.toArray.size by omega] at H;exact H
end
end Go.Proofs.YtmagjdocondmhaaGreat
namespace Go.Proofs.YtmagjdocondmhaaGreat
open Go Go.RowKit
section
variable {P : Program}
def waitsB (l : List Oper) (m : Nat) : Nat -> Nat -> Bool
 | 0, j => j == m
 | f + 1, j => j == m || (match l[j]? with | some o => o.after.toList.any (fun e => Region.binds .any e && waitsB l m f e.on) | none => false)
theorem waits_done {l : List Oper} {d : Nat -> Bool} {m : Nat} (hcl : Closed l d) : ∀ f j, waitsB l m f j = true -> d j = true -> d m = true
 | 0, j, h, hd => by
  have : j = m := by simpa [waitsB] using h
  rw [<- this]; exact hd
 | f + 1, j, h, hd => by
  unfold waitsB at h;rw [Bool.or_eq_true] at h;rcases h with h | h
  ·have : j = m := by simpa using h
   rw [<- this]; exact hd
  ·split at h
   ·rename_i o ho
    rw [List.any_eq_true] at h;obtain ⟨e, he, h⟩ := h;rw [Bool.and_eq_true] at h;exact waits_done hcl f e.on h.2 (hcl j o ho hd e (by simpa using he) h.1)
   ·cases h
end
end Go.Proofs.YtmagjdocondmhaaGreat
namespace Go.Proofs.YtmagjdocondmhaaGreat.Tr
open Go Go.RowKit Slc
structure Bx (p : Prop) : Prop where
 out : p
abbrev B := List UInt8
def bstr (b : B) : ByteArray := ⟨b.toArray⟩
theorem bstr_size (b : B) : (bstr b).size = b.length := rfl
theorem bstr_inj {a b : B} (h : bstr a = bstr b) : a = b := by
 unfold bstr at h;have := congrArg (fun x => x.data.toList) h;simpa using this
theorem bstr_back (x : ByteArray) : bstr x.data.toList = x := by unfold bstr; simp
theorem bstr_list (b : B) : (bstr b).data.toList = b := by unfold bstr; simp
def encS (d : B) : List Value := [.string (bstr d)]
theorem encS_ok : Enc 1 encS := ⟨fun c => rfl, fun c u hu => by
 simp only [encS, zS] at hu
 subst hu; rfl, by omega⟩
structure Sl where
 ad : Option Addr
 n : Nat
 c : Nat
def Sl.val (s : Sl) : Value := .slice s.ad s.n s.c
structure Nd where
 d : Int
 p : Int
 pol : B
 ex : List B
structure Nt where
 n : Nd
 u : Sl
instance : Inhabited Nt := ⟨⟨⟨0, 0, [], []⟩, ⟨none, 0, 0⟩⟩⟩
def encN (x : Nt) : List Value := [.int .i64 x.n.d, .int .i64 x.n.p, .string (bstr x.n.pol), x.u.val]
def Few (l : List B) : Prop := l.length <= 100000 /\ ∀ b ∈ l, b.length <= 1000000
def Nd.Ok (n : Nd) : Prop := Few n.ex /\ n.pol.length <= 1000000
def RdIn {α : Type} (w : World) (S : Nat -> Prop) (enc : α -> List Value) (v : Value) (l : List α) : Prop := Rd w enc v l /\ ∀ k, v.ownBlock = some k -> S k
theorem RdIn.keep {α : Type} {w w' : World} {S : Nat -> Prop} {enc : α -> List Value} {v : Value} {l : List α} (h : RdIn w S enc v l) (hs : w.heap.size <= w'.heap.size) (hb : ∀ k, S k -> k < w.heap.size -> w'.heap[k]? = w.heap[k]?) : RdIn w' S enc v l := ⟨h.1.keep hs fun k hk hlt => hb k (h.2 k hk) hlt, h.2⟩
theorem RdIn.mono {α : Type} {w : World} {S S' : Nat -> Prop} {enc : α -> List Value} {v : Value} {l : List α} (h : RdIn w S enc v l) (hS : ∀ k, k < w.heap.size -> S k -> S' k) : RdIn w S' enc v l := ⟨h.1, fun k hk => hS k (h.1.lt k hk) (h.2 k hk)⟩
def NtIn (w : World) (S : Nat -> Prop) (x : Nt) : Prop := RdIn w S encS x.u.val x.n.ex /\ Nd.Ok x.n
abbrev nds (l : List Nt) : List Nd := l.map (·.n)
theorem strs_cells {w : World} {ad : Option Addr} {n c : Nat} {l : List B} (h : Rd w encS (.slice ad n c) l) : n = l.length /\ ∀ (W : World), Below w.heap.size w W -> ∀ k (hk : k < l.length), ∃ b o, ad = some ⟨b, o, none⟩ /\ b < w.heap.size /\ W.cell? ⟨b, o + k, none⟩ = some (.string (bstr l[k])) := by
 obtain ⟨ad', c', hv, -⟩ := h.form;simp only [Value.slice.injEq] at hv
 refine ⟨hv.2.1, fun W hW k hk => ?_⟩;obtain ⟨b, o, c, hv', _, hlt, hc⟩ := h.cells encS_ok (by omega);simp only [Value.slice.injEq] at hv'
 have q := hc W (fun k' hk' => hW.block k' (h.lt k' hk')) k hk 0 _ (by omega) rfl;rw [Nat.mul_one, Nat.add_zero] at q;exact ⟨b, o, hv'.1, hlt, q⟩
def Rq (w : World) (v : Value) (l : List B) : Prop := (l = [] /\ ∃ a c, v = .slice a 0 c) \/ Rd w encS v l
theorem Rq.form {w : World} {v : Value} {l : List B} (h : Rq w v l) : ∃ ad c, v = .slice ad l.length c /\ True := by
 rcases h with ⟨rfl, a, c, rfl⟩ | h
 ·exact ⟨_, _, rfl, trivial⟩
 ·obtain ⟨ad, c, h, -⟩ := h.form; exact ⟨_, _, h, trivial⟩
theorem Rq.below {w w' : World} {v : Value} {l : List B} (h : Rq w v l) (hb : Below w.heap.size w w') : Rq w' v l := h.imp id fun q => q.below hb
theorem Rq.rd {w : World} {v : Value} {l : List B} (h : Rq w v l) (hp : 0 < l.length) : Rd w encS v l := by
 rcases h with ⟨rfl, -⟩ | h
 ·simp at hp
 ·exact h
theorem strs_cells_q {w : World} {ad : Option Addr} {n c : Nat} {l : List B} (h : Rq w (.slice ad n c) l) : n = l.length /\ ∀ (W : World), Below w.heap.size w W -> ∀ k (hk : k < l.length), ∃ b o, ad = some ⟨b, o, none⟩ /\ b < w.heap.size /\ W.cell? ⟨b, o + k, none⟩ = some (.string (bstr l[k])) := by
 rcases h with ⟨rfl, a, c', h⟩ | h
 ·simp only [Value.slice.injEq] at h
  exact ⟨h.2.1, fun W _ k hk => by simp at hk⟩
 ·exact strs_cells h
structure TO (w : World) (B : Nat) (v : Value) (l : List Nt) : Prop where
 own : Go.Proofs.YtmagjdocondmhaaGreat.Slc.Own w B 111 4 encN v l
 nm : ∀ x ∈ l, NtIn w (fun k => v.ownBlock ≠ some k) x
theorem info_str : (Tryz.prog.info? 9).map (fun i => (i.zero, i.size, i.bytes)) = some (some (.string ⟨#[]⟩), 1, 16) := by kernel_rfl
theorem info_parts {i : Option TypeInfo} {z : Value} {n b : Nat} (h : i.map (fun i => (i.zero, i.size, i.bytes)) = some (some z, n, b)) : ∃ j, i = some j /\ j.zero = some z /\ j.size = n /\ j.bytes = b := by
 cases i with
 | none => cases h
 | some j => simp only [Option.map_some, zO, Prod.mk.injEq] at h; exact ⟨j, rfl, h.1, h.2.1, h.2.2⟩
theorem und_strs : Tryz.prog.underlying 34 = some (.slice 9) := by kernel_rfl
theorem lt_of_some {w : World} {k : Nat} {ob : Obj} (h : w.heap[k]? = some ob) : k < w.heap.size := by
 rcases Nat.lt_or_ge k w.heap.size with q | q
 ·exact q
 ·rw [Array.getElem?_eq_none q] at h; cases h
end Go.Proofs.YtmagjdocondmhaaGreat.Tr
namespace Go.Proofs.YtmagjdocondmhaaGreat.St
section
variable {α : Type} (lt : α -> α -> Bool)
variable {lt}
def ins (x : α) : List α -> List α
 | [] => [x]
 | y :: l => if lt x y then x :: y :: l else y :: ins x l
end
section
variable {α : Type} {lt : α -> α -> Bool}
end
end Go.Proofs.YtmagjdocondmhaaGreat.St
namespace Go.Proofs.YtmagjdocondmhaaGreat.Tr
open Go Go.RowKit Go.Sort Slc St
attribute [local go_sem] Oper.semAt_some
def cmpI (a b : Int) : Int := if a < b then -1 else if b < a then 1 else 0
def cmpB (a b : B) : Int := if a < b then -1 else if b < a then 1 else 0
def or3 (a b c : Int) : Int := if a ≠ 0 then a else if b ≠ 0 then b else c
def befI (x y : Nd) : Int := or3 (cmpI x.d y.d) (cmpI x.p y.p) (cmpB x.pol y.pol)
def ltT (x y : Nd) : Bool := decide (befI x y < 0)
theorem ltB_irr (a : B) : ¬ a < a := List.lt_irrefl a
theorem leB_iff (a b : B) : a <= b ↔ ¬ b < a := Iff.rfl
theorem ltB_tr {a b c : B} (h : a < b) (h' : b < c) : a < c := List.lt_trans h h'
theorem eqB {a b : B} (h : ¬ a < b) (h' : ¬ b < a) : a = b := List.le_antisymm ((leB_iff a b).2 h') ((leB_iff b a).2 h)
theorem less_bytes (a b : B) : Op.bytesLess (bstr a).toList (bstr b).toList = decide (a < b) := by
 rw [ByteArray.toList_eq, ByteArray.toList_eq, bytesLess_eq, bstr_list, bstr_list]
theorem same_bytes (a b : B) : ((bstr a).toList == (bstr b).toList) = decide (a = b) := by
 rw [ByteArray.toList_eq, ByteArray.toList_eq, bstr_list, bstr_list, Bool.eq_iff_iff]; simp
structure Gx (w : World) where
 out : World
 is : ∃ q os, out = grow (w.drewN q) os
theorem grow_empty (w : World) : grow w #[] = w := by unfold grow; simp
def Gx.self (w : World) : Gx w := ⟨w, 0, #[], by rw [grow_empty]; rfl⟩
instance Gx.some (w : World) : Nonempty (Gx w) := ⟨Gx.self w⟩
end Go.Proofs.YtmagjdocondmhaaGreat.Tr
namespace Go.Proofs.YtmagjdocondmhaaGreat.Tr
open Go Go.RowKit Go.Sort Slc St
attribute [local go_sem] Oper.semAt_some
end Go.Proofs.YtmagjdocondmhaaGreat.Tr
namespace Go.Proofs.YtmagjdocondmhaaGreat.Tr
open Go Go.RowKit Go.Sort Slc St
attribute [local go_sem] Oper.semAt_some
end Go.Proofs.YtmagjdocondmhaaGreat.Tr
namespace Go.Proofs.YtmagjdocondmhaaGreat.Tr
open Go Go.RowKit Slc St
attribute [local go_sem] Oper.semAt_some
def anyP : B := [50, 46, 53, 46, 50, 57, 46, 51, 50, 46, 48]
theorem anyP_str : bstr anyP = ⟨#[50, 46, 53, 46, 50, 57, 46, 51, 50, 46, 48]⟩ := rfl
def onlyB (l : List B) : Bool := decide (l = [anyP])
def ascB (l : List B) : Bool := decide (l.Pairwise (· < ·)) && !l.isEmpty
theorem same_any (a : B) : ((bstr a).toList == ([50, 46, 53, 46, 50, 57, 46, 51, 50, 46, 48] : List UInt8)) = decide (a = anyP) := by
 have h := same_bytes a anyP;rw [ByteArray.toList_eq (bstr anyP)] at h;exact h
theorem below_drawn {B : Nat} {a w : World} (h : Below B a w) (q : Nat) : Below B a (w.drewN q) := ⟨h.os, h.tape, h.output, h.size, h.block⟩
theorem ascB_bad {l : List B} {i : Nat} (hi : i + 1 < l.length) (h : ¬ l[i] < l[i + 1]) : ascB l = false := by
 unfold ascB;rw [zF (fun hp => h (List.pairwise_iff_getElem.1 hp i (i + 1) (by omega) hi (by omega))), Bool.false_and]
theorem lt_tr {a b c : B} (h1 : a < b) (h2 : b < c) : a < c := List.lt_trans h1 h2
theorem pair_chain : ∀ (l : List B), (∀ k (hk : k + 1 < l.length), l[k] < l[k + 1]) -> l.Pairwise (· < ·)
 | [], _ => List.Pairwise.nil
 | [a], _ => by simp
 | a :: b :: l, h => by
  have ih := pair_chain (b :: l) (fun k hk => h (k + 1) (by simp only [List.length_cons] at hk |-; omega));have h0 : a < b := h 0 (by simp);refine List.pairwise_cons.2 ⟨fun x hx => ?_, ih⟩;rcases List.mem_cons.1 hx with rfl | hx
  ·exact h0
  ·exact lt_tr h0 ((List.pairwise_cons.1 ih).1 x hx)
theorem ascB_good {l : List B} (h : ∀ k (hk : k + 1 < l.length), l[k] < l[k + 1]) : ascB l = decide ((0 : Int) < (l.length : Nat)) := by
 unfold ascB;rw [zT (pair_chain l h), Bool.true_and]
 cases l <;> simp
end Go.Proofs.YtmagjdocondmhaaGreat.Tr
namespace Go.Proofs.YtmagjdocondmhaaGreat.Tr
open Go Go.RowKit Slc St
attribute [local go_sem] Oper.semAt_some
theorem index_q (w : World) (v : Value) (l : List B) (x : B) (h : Rq w v l) (hl : l.length <= 9223372036854775807) :
  Calls Tryz.prog 93 #[v, .string (bstr x)] w fun e w' => ∃ r : Int, e = .returned (.int .i64 r) /\ (0 <= r ↔ x ∈ l) /\ w = w' := by
 obtain ⟨ad, cp, hv, -⟩ := h.form;have HC := Bx.mk (fun hp => (h.rd hp).cells encS_ok hp);subst hv
 have HX := Bx.mk (fun y : B => show ((bstr x).toList == (bstr y).toList) = decide (x = y) by
  rw [ByteArray.toList_eq, ByteArray.toList_eq, bstr_list, bstr_list];by_cases q : x = y
  ·rw [q]; simp
  ·rw [zF q]; simpa using q)
 clear h;generalize bstr x = X at *;go_enter Tryz.func93, Tryz.ntmps93;go_wp2_with fail
 go_loop [5, 8] (fun _ i => ∃ k : Nat, k <= l.length /\ i = .int .i64 (k : Int) /\ x ∉ l.take k) (fun _ i => l.length - (intOf i).toNat)
 case atStart => exact ⟨0, by omega, rfl, by simp⟩
 case round =>
  obtain ⟨k, hk, rfl, hnot⟩ := hrel;have HN := Bx.mk hnot;clear hnot;by_cases hlt : k < l.length
  ·obtain ⟨b, o, c, hvf, -, -, hcell⟩ := HC.out (by omega);simp only [Value.slice.injEq, true_and] at hvf
   obtain ⟨rfl, rfl⟩ := hvf;have hcl := hcell w (fun _ _ => rfl) k hlt 0 _ (by omega) rfl;simp only [Nat.mul_one, Nat.add_zero] at hcl
   have hq := HX.out l[k]
   have HT := Bx.mk (show x ≠ l[k] -> x ∉ l.take (k + 1) from fun h1 h2 => by
    rw [zA hlt, List.mem_append, zS] at h2
    exact h2.elim HN.out h1)
   have HM := Bx.mk (zM hlt);clear hcell;by_cases hxy : x = l[k]
   ·rw [zT hxy] at hq;have HR := Bx.mk (show decide (x ∈ l) = true by rw [hxy]; exact zT HM.out);clear hxy HM;generalize bstr l[k] = Y at *;go_wp2_with fail
    go_ret;exact ⟨_, rfl, ⟨fun _ => of_decide_eq_true HR.out, fun _ => by omega⟩, rfl⟩
   ·rw [zF hxy] at hq;have HT2 := Bx.mk (HT.out hxy);clear hxy HM;generalize bstr l[k] = Y at *;go_wp2_with fail
    go_round
    case rel => exact ⟨k + 1, by omega, by go_num, HT2.out⟩
    case measure => simp [intOf]; omega
  ·obtain rfl : k = l.length := by omega
   have HR := Bx.mk (show decide (x ∈ l) = false by have := HN.out; rw [List.take_length] at this; exact zF this);go_wp2_with fail
   go_ret;exact ⟨_, rfl, ⟨fun q => absurd q (by decide), fun q => absurd q (of_decide_eq_false HR.out)⟩, rfl⟩
theorem contains_q (w : World) (v : Value) (l : List B) (x : B) (h : Rq w v l) (hl : l.length <= 9223372036854775807) :
  Calls Tryz.prog 48 #[v, .string (bstr x)] w fun e w' => e = .returned (.bool (decide (x ∈ l))) /\ w = w' := by
 have HI := Bx.mk (index_q w v l x h hl);clear h;generalize bstr x = X at *;go_enter Tryz.func48, Tryz.ntmps48;go_wp2_with fail
 go_at_call 93;refine HI.out.mono ?_;rintro e w' ⟨r, rfl, hr, rfl⟩;have HR := Bx.mk hr;clear hr;go_wp2_with fail
 go_ret;exact ⟨by simp [HR.out], rfl⟩
theorem contains_any (w : World) (v : Value) (l : List B) (x : B) (h : Rd w encS v l) (hl : l.length <= 9223372036854775807) :
  Calls Tryz.prog 48 #[v, .string (bstr x)] w fun e w' => e = .returned (.bool (decide (x ∈ l))) /\ w = w' := contains_q w v l x (.inr h) hl
end Go.Proofs.YtmagjdocondmhaaGreat.Tr
namespace Go.Proofs.YtmagjdocondmhaaGreat.Tr
open Go Go.RowKit Slc St
attribute [local go_sem] Oper.semAt_some
end Go.Proofs.YtmagjdocondmhaaGreat.Tr
namespace Go.Proofs.YtmagjdocondmhaaGreat.Tr
open Go Go.RowKit Slc St
attribute [local go_sem] Oper.semAt_some
end Go.Proofs.YtmagjdocondmhaaGreat.Tr
namespace Go.Proofs.YtmagjdocondmhaaGreat.Tr
open Go Go.RowKit Slc St
instance : Inhabited Nd := ⟨⟨0, 0, [], []⟩⟩
end Go.Proofs.YtmagjdocondmhaaGreat.Tr
namespace Go.Proofs.YtmagjdocondmhaaGreat.Tr
open Go Go.RowKit Slc St
attribute [local go_sem] Oper.semAt_some
theorem in_q (w : World) (v : Value) (l : List B) (x : B) (h : Rq w v l) (hl : l.length <= 100000) :
  Calls Tryz.prog 47 #[v, .string (bstr x)] w fun e w' => e = .returned (.bool (decide (x ∈ l))) /\ w = w' := by
 obtain ⟨ad, cp, hv, -⟩ := h.form;have HC := Bx.mk (fun hp => (h.rd hp).cells encS_ok hp);subst hv
 have HX := Bx.mk (fun y : B => show ((bstr y).toList == (bstr x).toList) = decide (y = x) by
  rw [ByteArray.toList_eq, ByteArray.toList_eq, bstr_list, bstr_list];by_cases q : y = x
  ·rw [q]; simp
  ·rw [zF q]; simpa using q)
 obtain ⟨R, hR⟩ : ∃ R, R = decide (x ∈ l) := ⟨_, rfl⟩
 rw [<- hR];have HR := Bx.mk hR;clear h hR;generalize bstr x = X at *;go_enter Tryz.func47, Tryz.ntmps47;go_wp2_with fail
 go_loop [5] (fun i => ∃ k : Nat, k <= l.length /\ i = .int .i64 (k : Int) /\ Bx (x ∉ l.take k)) (fun i => l.length - (intOf i).toNat)
 case atStart => exact ⟨0, by omega, rfl, ⟨by simp⟩⟩
 case round =>
  obtain ⟨k, hk, rfl, HN⟩ := hrel;by_cases hlt : k < l.length
  ·obtain ⟨b, o, c, hvf, -, -, hcell⟩ := HC.out (by omega);simp only [Value.slice.injEq, true_and] at hvf
   obtain ⟨rfl, rfl⟩ := hvf;have hcl := hcell w (fun _ _ => rfl) k hlt 0 _ (by omega) rfl;simp only [Nat.mul_one, Nat.add_zero] at hcl
   have hq := HX.out l[k]
   have HT := Bx.mk (show x ≠ l[k] -> x ∉ l.take (k + 1) from fun h1 h2 => by
    rw [zA hlt, List.mem_append, zS] at h2
    exact h2.elim HN.out h1)
   have HM := Bx.mk (zM hlt);clear hcell;by_cases hxy : l[k] = x
   ·rw [zT hxy] at hq;have HF := Bx.mk (show R = true by rw [HR.out]; exact zT (hxy ▸ HM.out));generalize bstr l[k] = Y at *;clear hxy;go_wp2_with fail
    go_ret;exact ⟨by rw [HF.out]; rfl, rfl⟩
   ·rw [zF hxy] at hq;have HT2 := Bx.mk (HT.out fun e => hxy e.symm);generalize bstr l[k] = Y at *;clear hxy;go_wp2_with fail
    go_round
    case rel => exact ⟨k + 1, by omega, by go_num, HT2⟩
    case measure => simp [intOf]; omega
  ·have HF := Bx.mk (show R = false by
    rw [HR.out];obtain rfl : k = l.length := (by omega);have := HN.out;rw [List.take_length] at this
    exact zF this)
   go_wp2_with fail
   go_ret;exact ⟨by rw [HF.out]; rfl, rfl⟩
theorem in_any (w : World) (v : Value) (l : List B) (x : B) (h : Rd w encS v l) (hl : l.length <= 100000) :
  Calls Tryz.prog 47 #[v, .string (bstr x)] w fun e w' => e = .returned (.bool (decide (x ∈ l))) /\ w = w' := in_q w v l x (.inr h) hl
end Go.Proofs.YtmagjdocondmhaaGreat.Tr
namespace Go.Proofs.YtmagjdocondmhaaGreat.Tr.Gr
open Go Go.RowKit Slc Tr
def encI (i : Int) : List Value := [.int .i64 i]
theorem encI_ok : Enc 1 encI := ⟨fun _ => rfl, fun c u hu => by
 simp only [encI, zS] at hu
 subst hu; rfl, by omega⟩
structure Vx where
 pol : B
 ex : List B
 par : List Int
instance : Inhabited Vx := ⟨⟨[], [], []⟩⟩
structure Vt where
 n : Vx
 u : Sl
 q : Sl
instance : Inhabited Vt := ⟨⟨default, ⟨none, 0, 0⟩, ⟨none, 0, 0⟩⟩⟩
def encV (x : Vt) : List Value := [.string (bstr x.n.pol), x.u.val, x.q.val]
theorem encV_ok : Enc 3 encV := ⟨fun _ => rfl, fun x u hu => by simp [encV] at hu; rcases hu with rfl | rfl | rfl <;> rfl, by omega⟩
def verV (x : Vt) : Value := .agg #[.string (bstr x.n.pol), x.u.val, x.q.val]
structure Lv where
 vs : List Vt
 s : Sl
instance : Inhabited Lv := ⟨⟨[], ⟨none, 0, 0⟩⟩⟩
def encL (L : Lv) : List Value := [L.s.val]
theorem encL_ok : Enc 1 encL := ⟨fun _ => rfl, fun x u hu => by simp [encL] at hu; subst hu; rfl, by omega⟩
abbrev vxs (l : List Vt) : List Vx := l.map (·.n)
abbrev gxs (g : List Lv) : List (List Vx) := g.map fun L => vxs L.vs
def Vx.Ok (n : Vx) : Prop := Few n.ex /\ n.pol.length <= 1000000 /\ n.par.length <= 100000 /\ ∀ p ∈ n.par, -1000000 <= p /\ p <= 1000000
def RqIn {α : Type} (w : World) (S : Nat -> Prop) (enc : α -> List Value) (v : Value) (l : List α) : Prop := (l = [] /\ ∃ a c, v = .slice a 0 c) \/ RdIn w S enc v l
section
variable {α : Type} {enc : α -> List Value} {w w' : World} {S S' : Nat -> Prop} {v : Value} {l : List α}
theorem RqIn.form (h : RqIn w S enc v l) : ∃ ad c, v = .slice ad l.length c /\ True := by
 rcases h with ⟨rfl, a, c, rfl⟩ | h
 ·exact ⟨_, _, rfl, trivial⟩
 ·obtain ⟨ad, c, h, -⟩ := h.1.form; exact ⟨_, _, h, trivial⟩
theorem RqIn.keep (h : RqIn w S enc v l) (hs : w.heap.size <= w'.heap.size) (hb : ∀ k, S k -> k < w.heap.size -> w'.heap[k]? = w.heap[k]?) : RqIn w' S enc v l := h.imp id fun q => q.keep hs hb
theorem RqIn.mono (h : RqIn w S enc v l) (hS : ∀ k, k < w.heap.size -> S k -> S' k) : RqIn w S' enc v l := h.imp id fun q => q.mono hS
theorem RqIn.rd (h : RqIn w S enc v l) (hp : 0 < l.length) : Rd w enc v l := by
 rcases h with ⟨rfl, -⟩ | h
 ·simp at hp
 ·exact h.1
theorem RqIn.below (h : RqIn w S enc v l) (hb : Below w.heap.size w w') : RqIn w' S enc v l := h.keep hb.size fun k _ hk => hb.block k hk
theorem RqIn.all (h : RqIn w S enc v l) : RqIn w (fun k => k < w.heap.size) enc v l := h.imp id fun q => ⟨q.1, q.1.lt⟩
end
theorem int_cells {w : World} {S : Nat -> Prop} {ad : Option Addr} {n c : Nat} {l : List Int} (h : RqIn w S encI (.slice ad n c) l) : n = l.length /\ ∀ (W : World), (∀ k, k < w.heap.size -> S k -> W.heap[k]? = w.heap[k]?) -> ∀ k (hk : k < l.length), ∃ b o, ad = some ⟨b, o, none⟩ /\ b < w.heap.size /\ W.cell? ⟨b, o + k, none⟩ = some (.int .i64 l[k]) := by
 rcases h with ⟨rfl, a, c', h⟩ | h
 ·simp only [Value.slice.injEq] at h
  exact ⟨h.2.1, fun W _ k hk => by simp at hk⟩
 ·obtain ⟨ad', c', hv, -⟩ := h.1.form;simp only [Value.slice.injEq] at hv
  refine ⟨hv.2.1, fun W hW k hk => ?_⟩;obtain ⟨b, o, c, hv', _, hlt, hc⟩ := h.1.cells encI_ok (by omega);simp only [Value.slice.injEq] at hv'
  have q := hc W (fun k' hk' => hW k' (h.1.lt k' hk') (h.2 k' hk')) k hk 0 _ (by omega) rfl;rw [Nat.mul_one, Nat.add_zero] at q;exact ⟨b, o, hv'.1, hlt, q⟩
def VtIn (w : World) (S : Nat -> Prop) (x : Vt) : Prop := RdIn w S encS x.u.val x.n.ex /\ RqIn w S encI x.q.val x.n.par /\ Vx.Ok x.n
def VtAt (w : World) (x : Vt) : Prop := VtIn w (fun k => k < w.heap.size) x
section
variable {w w' : World} {S S' : Nat -> Prop} {x : Vt}
theorem VtIn.keep (h : VtIn w S x) (hs : w.heap.size <= w'.heap.size) (hb : ∀ k, S k -> k < w.heap.size -> w'.heap[k]? = w.heap[k]?) : VtIn w' S x := ⟨h.1.keep hs hb, h.2.1.keep hs hb, h.2.2⟩
theorem VtIn.mono (h : VtIn w S x) (hS : ∀ k, k < w.heap.size -> S k -> S' k) : VtIn w S' x := ⟨h.1.mono hS, h.2.1.mono hS, h.2.2⟩
theorem VtIn.below (h : VtIn w S x) (hb : Below w.heap.size w w') : VtIn w' S x := h.keep hb.size fun k _ hk => hb.block k hk
theorem VtIn.at_ (h : VtIn w S x) : VtAt w x := ⟨⟨h.1.1, h.1.1.lt⟩, h.2.1.all, h.2.2⟩
theorem VtAt.below (h : VtAt w x) (hb : Below w.heap.size w w') : VtAt w' x := (VtIn.below h hb).at_
end
structure VL (w : World) (v : Value) (l : List Vt) : Prop where
 rd : Rd w encV v l
 at_ : ∀ x ∈ l, VtAt w x
theorem VL.below {w w' : World} {v : Value} {l : List Vt} (h : VL w v l) (hb : Below w.heap.size w w') : VL w' v l := ⟨h.rd.below hb, fun x hx => (h.at_ x hx).below hb⟩
theorem vs_cells {w : World} {ad : Option Addr} {n c : Nat} {l : List Vt} (h : Rd w encV (.slice ad n c) l) : n = l.length /\ ∀ (W : World), (∀ k, k < w.heap.size -> (Value.slice ad n c).ownBlock = some k -> W.heap[k]? = w.heap[k]?) -> ∀ k (hk : k < l.length), ∃ b o, ad = some ⟨b, o, none⟩ /\ b < w.heap.size /\ W.cell? ⟨b, o + k * 3, none⟩ = some (.string (bstr (l[k]).n.pol)) /\ W.cell? ⟨b, o + k * 3 + 1, none⟩ = some (l[k]).u.val /\ W.cell? ⟨b, o + k * 3 + 2, none⟩ = some (l[k]).q.val := by
 obtain ⟨ad', c', hv, -⟩ := h.form;simp only [Value.slice.injEq] at hv
 refine ⟨hv.2.1, fun W hW k hk => ?_⟩;obtain ⟨b, o, c, hv', _, hlt, hc⟩ := h.cells encV_ok (by omega);simp only [Value.slice.injEq] at hv'
 have q := hc W (fun k' hk' => hW k' (h.lt k' hk') hk') k hk;exact ⟨b, o, hv'.1, hlt, q 0 _ (by omega) rfl, q 1 _ (by omega) rfl, q 2 _ (by omega) rfl⟩
theorem ls_cells {w : World} {ad : Option Addr} {n c : Nat} {l : List Lv} (h : Rd w encL (.slice ad n c) l) : n = l.length /\ ∀ (W : World), (∀ k, k < w.heap.size -> (Value.slice ad n c).ownBlock = some k -> W.heap[k]? = w.heap[k]?) -> ∀ k (hk : k < l.length), ∃ b o, ad = some ⟨b, o, none⟩ /\ b < w.heap.size /\ W.cell? ⟨b, o + k, none⟩ = some (l[k]).s.val := by
 obtain ⟨ad', c', hv, -⟩ := h.form;simp only [Value.slice.injEq] at hv
 refine ⟨hv.2.1, fun W hW k hk => ?_⟩;obtain ⟨b, o, c, hv', _, hlt, hc⟩ := h.cells encL_ok (by omega);simp only [Value.slice.injEq] at hv'
 have q := hc W (fun k' hk' => hW k' (h.lt k' hk') hk') k hk 0 _ (by omega) rfl;rw [Nat.mul_one, Nat.add_zero] at q;exact ⟨b, o, hv'.1, hlt, q⟩
structure GL (w : World) (v : Value) (g : List Lv) : Prop where
 rd : Rd w encL v g
 lv : ∀ L ∈ g, VL w L.s.val L.vs
theorem GL.below {w w' : World} {v : Value} {g : List Lv} (h : GL w v g) (hb : Below w.heap.size w w') : GL w' v g := ⟨h.rd.below hb, fun L hL => (h.lv L hL).below hb⟩
def GB (v : Value) (g : List Lv) (k : Nat) : Prop := v.ownBlock = some k \/ ∃ L ∈ g, L.s.val.ownBlock = some k
structure Fr (S : Nat -> Prop) (w w' : World) : Prop where
 os : w'.os = w.os
 tape : w'.tape = w.tape
 output : w'.output = w.output
 size : w.heap.size <= w'.heap.size
 block : ∀ k, k < w.heap.size -> ¬ S k -> w'.heap[k]? = w.heap[k]?
theorem Fr.refl (S : Nat -> Prop) (w : World) : Fr S w w := ⟨rfl, rfl, rfl, zR _, fun _ _ _ => rfl⟩
theorem Fr.trans {S S' : Nat -> Prop} {w w1 w2 : World} (h : Fr S w w1) (h' : Fr S' w1 w2) (hS : ∀ k, k < w.heap.size -> S' k -> S k) : Fr S w w2 :=
 ⟨h'.os.trans h.os, h'.tape.trans h.tape, h'.output.trans h.output, Nat.le_trans h.size h'.size, fun k hk hn => (h'.block k (Nat.lt_of_lt_of_le hk h.size) fun q => hn (hS k hk q)).trans (h.block k hk hn)⟩
theorem Fr.of_below {S : Nat -> Prop} {w w' : World} (h : Below w.heap.size w w') : Fr S w w' := ⟨h.os, h.tape, h.output, h.size, fun k hk _ => h.block k hk⟩
theorem Fr.of_grown {S : Nat -> Prop} {w w' : World} {g : Option Nat} (h : w.grownBy w' g) (hS : ∀ k, g = some k -> S k) : Fr S w w' := ⟨h.os, h.tape, h.output, h.size, fun k hk hn => h.block k hk fun e => hn (hS k e.symm)⟩
theorem Fr.below {S : Nat -> Prop} {w w' : World} {B : Nat} (h : Fr S w w') (hS : ∀ k, S k -> B <= k) (hB : B <= w.heap.size) : Below B w w' := ⟨h.os, h.tape, h.output, h.size, fun k hk => h.block k (by omega) fun q => by have := hS k q; omega⟩
structure GO (w : World) (B : Nat) (v : Value) (g : List Lv) : Prop where
 own : Slc.Own w B 63 1 encL v g
 lv : ∀ L ∈ g, Slc.Own w B 65 3 encV L.s.val L.vs
 ap : ∀ (i j : Nat) (hi : i < g.length) (hj : j < g.length), i ≠ j -> ∀ k, (g[i]).s.val.ownBlock = some k -> (g[j]).s.val.ownBlock ≠ some k
 ao : ∀ L ∈ g, ∀ k, L.s.val.ownBlock = some k -> v.ownBlock ≠ some k
 nm : ∀ L ∈ g, ∀ x ∈ L.vs, VtIn w (fun k => ¬ GB v g k) x
section
variable {w w' : World} {B B' : Nat} {v : Value} {g : List Lv}
theorem GO.gl (h : GO w B v g) : GL w v g := ⟨h.own.rd, fun L hL => ⟨(h.lv L hL).rd, fun x hx => (h.nm L hL x hx).at_⟩⟩
theorem GO.keep (h : GO w B v g) (hs : w.heap.size <= w'.heap.size) (hb : ∀ k, k < w.heap.size -> (GB v g k \/ ∃ L ∈ g, ∃ x ∈ L.vs, x.u.val.ownBlock = some k \/ x.q.val.ownBlock = some k) -> w'.heap[k]? = w.heap[k]?) : GO w' B v g := by
 refine ⟨h.own.keep fun k hk hlt => hb k hlt (.inl (.inl hk)), fun L hL => (h.lv L hL).keep fun k hk hlt => hb k hlt (.inl (.inr ⟨L, hL, hk⟩)), h.ap, h.ao, fun L hL x hx => ?_⟩;obtain ⟨h1, h2, h3⟩ := h.nm L hL x hx;refine ⟨⟨h1.1.keep hs fun k hk hlt => hb k hlt (.inr ⟨L, hL, x, hx, .inl hk⟩), h1.2⟩, ?_, h3⟩;rcases h2 with h2 | h2
 ·exact .inl h2
 ·exact .inr ⟨h2.1.keep hs fun k hk hlt => hb k hlt (.inr ⟨L, hL, x, hx, .inr hk⟩), h2.2⟩
theorem GO.below (h : GO w B v g) (hb : Below w.heap.size w w') : GO w' B v g := h.keep hb.size fun k hk _ => hb.block k hk
theorem GO.mono (h : GO w B v g) (hB : B' <= B) : GO w B' v g := ⟨h.own.mono hB, fun L hL => (h.lv L hL).mono hB, h.ap, h.ao, h.nm⟩
theorem GO.lt (h : GO w B v g) {k : Nat} (hk : GB v g k) : B <= k /\ k < w.heap.size := by
 rcases hk with hk | ⟨L, hL, hk⟩
 ·exact h.own.lt k hk
 ·exact (h.lv L hL).lt k hk
theorem GO.nil (w : World) (B : Nat) : GO w B (.slice none 0 0) [] := ⟨Slc.Own.nil _ _, (fun L hL => by cases hL), (fun i j hi => by simp at hi), (fun L hL => by cases hL), (fun L hL => by cases hL)⟩
end
theorem info_ver : (Tryz.prog.info? 65).map (fun i => (i.zero, i.size, i.bytes)) = some (some (.agg #[.string ⟨#[]⟩, .slice none 0 0, .slice none 0 0]), 3, 64) := by kernel_rfl
theorem info_lev : (Tryz.prog.info? 63).map (fun i => (i.zero, i.size, i.bytes)) = some (some (.agg #[.slice none 0 0]), 1, 24) := by kernel_rfl
theorem info_int : (Tryz.prog.info? 3).map (fun i => (i.zero, i.size, i.bytes)) = some (some (.int .i64 0), 1, 8) := by kernel_rfl
theorem info_boo : (Tryz.prog.info? 4).map (fun i => (i.zero, i.size, i.bytes)) = some (some (.bool false), 1, 1) := by kernel_rfl
theorem und_vers : Tryz.prog.underlying 61 = some (.slice 65) := by kernel_rfl
theorem und_levs : Tryz.prog.underlying 23 = some (.slice 63) := by kernel_rfl
theorem und_ints : Tryz.prog.underlying 22 = some (.slice 3) := by kernel_rfl
end Go.Proofs.YtmagjdocondmhaaGreat.Tr.Gr
namespace Go.Proofs.YtmagjdocondmhaaGreat.Tr
open Go Go.RowKit St
def insS (x : B) : List B -> List B
 | [] => [x]
 | y :: l => if x < y then x :: y :: l else if x = y then y :: l else y :: insS x l
def setB (l : List B) : List B := l.foldl (fun a x => insS x a) []
abbrev Asc (l : List B) : Prop := l.Pairwise (· < ·)
theorem insS_mem (x y : B) (l : List B) : y ∈ insS x l ↔ y = x \/ y ∈ l := by
 induction l with
 | nil => simp [insS]
 | cons z l ih =>
  unfold insS;by_cases h1 : x < z
  ·rw [if_pos h1]; simp
  ·rw [if_neg h1];by_cases h2 : x = z
   ·rw [if_pos h2]; subst h2; simp
   ·rw [if_neg h2, List.mem_cons, ih, List.mem_cons];constructor
    ·rintro (h | h | h) <;> simp [h]
    ·rintro (h | h | h) <;> simp [h]
theorem ltB_or {x y : B} (h1 : ¬ x < y) (h2 : x ≠ y) : y < x := by
 rcases Classical.em (y < x) with h | h
 ·exact h
 ·exact absurd (eqB h1 h) h2
theorem insS_asc (x : B) (l : List B) (h : Asc l) : Asc (insS x l) := by
 induction l with
 | nil => simp [insS, Asc]
 | cons z l ih =>
  rw [Asc, List.pairwise_cons] at h;unfold insS;by_cases h1 : x < z
  ·rw [if_pos h1];refine List.pairwise_cons.2 ⟨fun y hy => ?_, List.pairwise_cons.2 h⟩;rcases List.mem_cons.1 hy with rfl | hy
   ·exact h1
   ·exact ltB_tr h1 (h.1 y hy)
  ·rw [if_neg h1];by_cases h2 : x = z
   ·rw [if_pos h2]; exact List.pairwise_cons.2 h
   ·rw [if_neg h2];refine List.pairwise_cons.2 ⟨fun y hy => ?_, ih h.2⟩;rcases (insS_mem x y l).1 hy with rfl | hy
    ·exact ltB_or h1 h2
    ·exact h.1 y hy
theorem foldS_mem (y : B) : ∀ (l a : List B), y ∈ l.foldl (fun a x => insS x a) a ↔ y ∈ a \/ y ∈ l
 | [], a => by simp
 | x :: l, a => by
  rw [List.foldl_cons, foldS_mem y l, insS_mem, List.mem_cons];constructor
  ·rintro ((h | h) | h) <;> simp [h]
  ·rintro (h | h | h) <;> simp [h]
theorem foldS_asc : ∀ (l a : List B), Asc a -> Asc (l.foldl (fun a x => insS x a) a)
 | [], a, h => h
 | x :: l, a, h => foldS_asc l _ (insS_asc x a h)
theorem setB_mem {y : B} {l : List B} : y ∈ setB l ↔ y ∈ l := by
 unfold setB; rw [foldS_mem]; simp
theorem setB_asc (l : List B) : Asc (setB l) := foldS_asc l [] List.Pairwise.nil
theorem asc_unique : ∀ (l m : List B), Asc l -> Asc m -> (∀ x, x ∈ l ↔ x ∈ m) -> l = m
 | [], [], _, _, _ => rfl
 | [], b :: m, _, _, h => by have := (h b).2 (by simp); cases this
 | a :: l, [], _, _, h => by have := (h a).1 (by simp); cases this
 | a :: l, b :: m, h1, h2, h => by
  rw [Asc, List.pairwise_cons] at h1 h2
  have e : a = b := by
   rcases List.mem_cons.1 ((h a).1 (by simp)) with q | q
   ·exact q
   ·rcases List.mem_cons.1 ((h b).2 (by simp)) with q' | q'
    ·exact q'.symm
    ·exact absurd (ltB_tr (h1.1 b q') (h2.1 a q)) (ltB_irr _)
  subst e;rw [asc_unique l m h1.2 h2.2 fun x => ?_];have hx := h x;rw [List.mem_cons, List.mem_cons] at hx;constructor
  ·intro q;rcases hx.1 (.inr q) with rfl | q'
   ·exact absurd (h1.1 _ q) (ltB_irr _)
   ·exact q'
  ·intro q;rcases hx.2 (.inr q) with rfl | q'
   ·exact absurd (h2.1 _ q) (ltB_irr _)
   ·exact q'
theorem setB_eq {l m : List B} (h : Asc m) (hm : ∀ x, x ∈ m ↔ x ∈ l) : m = setB l := asc_unique _ _ h (setB_asc l) fun x => (hm x).trans setB_mem.symm
theorem insS_length (x : B) (l : List B) : (insS x l).length <= l.length + 1 := by
 induction l with
 | nil => simp [insS]
 | cons z l ih =>
  unfold insS;split
  ·simp
  ·split
   ·simp
   ·simp only [List.length_cons]; omega
theorem foldS_length : ∀ (l a : List B), (l.foldl (fun a x => insS x a) a).length <= a.length + l.length
 | [], a => by simp
 | x :: l, a => by
  rw [List.foldl_cons];have := foldS_length l (insS x a);have := insS_length x a;simp only [List.length_cons]; omega
theorem setB_length (l : List B) : (setB l).length <= l.length := by
 have := foldS_length l [];simpa [setB] using this
theorem setB_snoc (l : List B) (x : B) : setB (l ++ [x]) = insS x (setB l) := by
 unfold setB; rw [List.foldl_append]; rfl
theorem asc_nodup {l : List B} (h : Asc l) : l.Nodup := List.Pairwise.imp (fun {a b} hab e => by subst e; exact ltB_irr _ hab) h
section
variable {α : Type} {lt : α -> α -> Bool}
def srtL (l : List α) : List α := l.foldl (fun a x => ins (lt := lt) x a) []
end
abbrev sortT (l : List Nd) : List Nd := srtL (lt := ltT) l
abbrev pn (t : List Nd) (n : Nd) : Nd := t[n.p.toNat]!
section
variable {t : List Nd} {D : Int}
end
def rk (m : List Bool) (i : Nat) : Nat := ((List.range i).filter fun j => m[j]!).length
theorem rk_succ (m : List Bool) (k : Nat) : rk m (k + 1) = rk m k + if m[k]! then 1 else 0 := by
 unfold rk;rw [List.range_succ, List.filter_append, List.length_append]
 cases h : m[k]! <;> simp [List.filter_cons, h, -List.getElem!_eq_getElem?_getD]
theorem rk_zero (m : List Bool) : rk m 0 = 0 := rfl
theorem rk_le (m : List Bool) : ∀ k, rk m k <= k
 | 0 => zR _
 | k + 1 => by rw [rk_succ]; have := rk_le m k; split <;> omega
theorem rk_mono (m : List Bool) {i j : Nat} (h : i <= j) : rk m i <= rk m j := by
 induction h with
 | refl => exact zR _
 | step _ ih => rw [rk_succ]; omega
theorem rk_lt (m : List Bool) {i j : Nat} (h : i < j) (hm : m[i]! = true) : rk m i < rk m j := by
 have := rk_mono m (show i + 1 <= j from h);rw [rk_succ, if_pos hm] at this; omega
def newN (D i : Int) (p : B) : Nd := ⟨D, i, p, [p]⟩
def okM (m : B × B) : Bool := decide (m.1 ≠ anyP) && decide (m.2 ≠ anyP)
def srcL (l : List (B × B)) : List B := setB ((l.filter okM).map (·.1))
def subL (l : List (B × B)) (x : B) : List B := setB ((l.filter fun m => decide (m.1 = x) && okM m).map (·.2))
structure R2 (t : List Nd) (D : Int) (S : Nd -> Prop) (xs : List Nd) : Prop where
 nd : xs.Nodup
 form : ∀ n ∈ xs, ∃ i p, n = newN D i p
 mem : ∀ n, n ∈ xs ↔ S n
section
variable {t : List Nd} {D : Int}
end
structure Bs (t : List Nd) (D : Int) (a : Nat) : Prop where
 le : a <= t.length
 lo : ∀ j, j < a -> t[j]!.d < D
 hi : ∀ j, a <= j -> j < t.length -> t[j]!.d = D
 pa : ∀ j, j < t.length -> -1 <= t[j]!.p /\ t[j]!.p < a /\ t[j]!.p < j
section
variable {t : List Nd} {D : Int}
end
section
variable {t : List Nd} {D : Int}
end
end Go.Proofs.YtmagjdocondmhaaGreat.Tr
namespace Go.Proofs.YtmagjdocondmhaaGreat.Mp
open Go Go.RowKit Go.Maps
abbrev DW := DataW Unit
structure Ky (P : Program) (kt : TypeId) (K : Type) where
 lit : K -> Lit
 val : K -> Value
 ok : K -> Prop
 keyed : Keyed P kt
 key : ∀ k, WideAt.IsKeyLit (lit k)
 inj : ∀ a b, lit a = lit b -> a = b
 of : ∀ k, ok k -> keyOf P kt (val k) = some (lit k)
def I64 (k : Int) : Prop := -9223372036854775808 <= k /\ k <= 9223372036854775807
def kyInt {P : Program} {kt : TypeId} (h : P.underlying kt = some (.int .i64)) : Ky P kt Int where
 lit k := .int .i64 k
 val k := .int .i64 k
 ok := I64
 keyed := int_keyed h
 key k := trivial
 inj a b e := by injection e
 of k hk := keyOf_int_mk h ((Lit.wf_int_iff _ _).2 hk)
def kyStr {P : Program} {kt : TypeId} (h : P.underlying kt = some .string) : Ky P kt (List UInt8) where
 lit k := .string k
 val k := .string ⟨k.toArray⟩
 ok k := k.length <= maxLen
 keyed := string_keyed h
 key k := trivial
 inj a b e := by injection e
 of k hk := WideMaps.keyOf_string_mk h (by show k.toArray.size <= _; simpa using hk)
section
variable {P : Program} {kt e t : TypeId} {K : Type}
structure IsF (Y : Ky P kt K) {γ : Type} (ed : γ -> DW) (D : DW) (f : K -> Option γ) : Prop where
 tidy : Tidy D
 at_ : ∀ (k : K) z, D.atKey (Y.lit k) z = match f k with | some d => ed d | none => z
 has_ : ∀ k : K, Maps.has D (Y.lit k) = (f k).isSome
variable {γ : Type} {ed : γ -> DW} {Y : Ky P kt K}
theorem IsF.empty (Y : Ky P kt K) (ed : γ -> DW) : IsF Y ed (.map []) (fun _ => none) := ⟨tidy_empty, fun n z => rfl, fun n => rfl⟩
theorem IsF.put [DecidableEq K] {D : DW} {f : K -> Option γ} (h : IsF Y ed D f) (k : K) (x : γ) : IsF Y ed (D.put (Y.lit k) (ed x)) (fun j => if j = k then some x else f j) := by
 refine ⟨h.tidy.put (Y.key k) _, fun m z => ?_, fun m => ?_⟩
 ·by_cases q : m = k
  ·subst q; rw [atKey_put_same h.tidy.isMap (Y.key _)]; simp
  ·rw [atKey_put_other (fun q2 => q (Y.inj _ _ q2)), h.at_ m z]; simp [q]
 ·by_cases q : m = k
  ·subst q; rw [has_put_same h.tidy.isMap (Y.key _)]; simp
  ·rw [has_put_other (fun q2 => q (Y.inj _ _ q2)), h.has_ m]; simp [q]
def OwnF (w : World) (Y : Ky P kt K) (R : Value -> Option (DW × List MemPlace)) (ed : γ -> DW) (b n : Nat) (f : K -> Option γ) : Prop := ∃ D : DW, w.ownsMap P kt R b n D /\ IsF Y ed D f
variable {R : Value -> Option (DW × List MemPlace)} {w : World} {b n : Nat} {f : K -> Option γ}
theorem OwnF.lt (h : OwnF w Y R ed b n f) : b < w.heap.size := by obtain ⟨D, h, _⟩ := h; exact h.lt
theorem OwnF.kept {w' : World} {row : Option Nat} (h : OwnF w Y R ed b n f) (hg : w.grownBy w' row) (hne : some b ≠ row) : OwnF w' Y R ed b n f := by
 obtain ⟨D, h, hm⟩ := h; exact ⟨D, h.kept hg hne, hm⟩
theorem OwnF.block {w' : World} (h : OwnF w Y R ed b n f) (hb : w'.heap[b]? = w.heap[b]?) : OwnF w' Y R ed b n f := by
 obtain ⟨D, ⟨es, clock, hh, r⟩, hm⟩ := h;exact ⟨D, ⟨es, clock, by rw [hb]; exact hh, r⟩, hm⟩
theorem OwnF.below {w' : World} (h : OwnF w Y R ed b n f) (hb : Below w.heap.size w w') : OwnF w' Y R ed b n f := h.block (hb.block b h.lt)
theorem OwnF.mono {n' : Nat} (h : OwnF w Y R ed b n f) (hn : n <= n') : OwnF w Y R ed b n' f := by
 obtain ⟨D, h, hm⟩ := h; exact ⟨D, h.mono hn, hm⟩
theorem OwnF.made (w : World) (Y : Ky P kt K) (R : Value -> Option (DW × List MemPlace)) (ed : γ -> DW) : OwnF (w.alloc (.map #[] 0)) Y R ed w.heap.size 0 (fun _ => none) := ⟨_, World.ownsMap_made w P kt R, IsF.empty Y ed⟩
theorem OwnF.put [DecidableEq K] (h : OwnF w Y R ed b n f) (ht : P.underlying t = some (.map kt e)) (hn : n < maxLen) {k : K} (hw : Y.ok k) (x : γ) (v : Value) (hx : R v = some (ed x, [])) :
  ∃ w', (Instr.mapUpdate t (.map (some b)) (Y.val k) v).run P w = .ok () w' /\ OwnF w' Y R ed b (n + 1) (fun j => if j = k then some x else f j) /\ w.grownBy w' (some b) := by
 obtain ⟨D, h, hm⟩ := h;obtain ⟨w', h1, h2, h3⟩ := h.update Y.keyed ht hn (Y.of k hw) hx;exact ⟨w', h1, ⟨_, h2, hm.put k x⟩, h3⟩
theorem OwnF.look (h : OwnF w Y R ed b n f) (ht : P.underlying t = some (.map kt e)) (ev : γ -> Value) (z0 : γ) (hz : (zeroValue e).run P w = .ok (ev z0) w) (hR : ∀ x, R (ev x) = some (ed x, []))
  (hinv : ∀ v x ps, R v = some (ed x, ps) -> v = ev x) {k : K} (hw : Y.ok k) :
  (Instr.lookup t (.map (some b)) (Y.val k) false).run P w = .ok (ev ((f k).getD z0)) w /\
  (Instr.lookup t (.map (some b)) (Y.val k) true).run P w = .ok (.tuple #[ev ((f k).getD z0), .bool (f k).isSome]) w := by
 obtain ⟨D, h, hm⟩ := h;have hat : D.atKey (Y.lit k) (ed z0) = ed ((f k).getD z0) := by rw [hm.at_]; cases f k <;> rfl
 obtain ⟨v, ps, h1, h2⟩ := h.lookup Y.keyed ht hz (hR z0) (Y.of k hw);obtain ⟨v', ps', h1', h2'⟩ := h.look_ok Y.keyed ht hz (hR z0) (Y.of k hw);rw [hm.has_] at h1';rw [hat] at h2 h2';exact ⟨by rw [h1, hinv _ _ _ h2], by rw [h1', hinv _ _ _ h2']⟩
end
section
variable {P : Program} {kt e t : TypeId} {γ : Type} {ed : γ -> DW} {R : Value -> Option (DW × List MemPlace)} {w : World} {b n : Nat}
theorem OwnF.putI {hk : P.underlying kt = some (.int .i64)} {f : Int -> Option γ} (h : OwnF w (kyInt hk) R ed b n f) (ht : P.underlying t = some (.map kt e)) (hn : n < maxLen) {k : Int} (hw : I64 k) (x : γ) (v : Value) (hx : R v = some (ed x, [])) :
  ∃ w', (Instr.mapUpdate t (.map (some b)) (.int .i64 k) v).run P w = .ok () w' /\ OwnF w' (kyInt hk) R ed b (n + 1) (fun j => if j = k then some x else f j) /\ w.grownBy w' (some b) := h.put ht hn (k := k) hw x v hx
theorem OwnF.putS {hk : P.underlying kt = some .string} {f : List UInt8 -> Option γ} (h : OwnF w (kyStr hk) R ed b n f) (ht : P.underlying t = some (.map kt e)) (hn : n < maxLen) {k : List UInt8} (hw : k.length <= maxLen) (x : γ) (v : Value) (hx : R v = some (ed x, [])) :
  ∃ w', (Instr.mapUpdate t (.map (some b)) (.string ⟨k.toArray⟩) v).run P w = .ok () w' /\ OwnF w' (kyStr hk) R ed b (n + 1) (fun j => if j = k then some x else f j) /\ w.grownBy w' (some b) := h.put ht hn (k := k) hw x v hx
theorem OwnF.lookS {hk : P.underlying kt = some .string} {f : List UInt8 -> Option γ} (h : OwnF w (kyStr hk) R ed b n f) (ht : P.underlying t = some (.map kt e)) (ev : γ -> Value) (z0 : γ) (hz : (zeroValue e).run P w = .ok (ev z0) w) (hR : ∀ x, R (ev x) = some (ed x, []))
  (hinv : ∀ v x ps, R v = some (ed x, ps) -> v = ev x) {k : List UInt8} (hw : k.length <= maxLen) :
  (Instr.lookup t (.map (some b)) (.string ⟨k.toArray⟩) false).run P w = .ok (ev ((f k).getD z0)) w /\
  (Instr.lookup t (.map (some b)) (.string ⟨k.toArray⟩) true).run P w = .ok (.tuple #[ev ((f k).getD z0), .bool (f k).isSome]) w := h.look ht ev z0 hz hR hinv (k := k) hw
end
abbrev edB (b : Bool) : DW := .lit (.bool b)
def rdB : Value -> Option (DW × List MemPlace)
 | .bool b => some (edB b, [])
 | _ => none
theorem rdB_mk (b : Bool) : rdB (.bool b) = some (edB b, []) := rfl
theorem rdB_inv (v : Value) (b : Bool) (ps : List MemPlace) (h : rdB v = some (edB b, ps)) : v = .bool b := by
 unfold rdB at h;split at h
 ·simp only [zO, Prod.mk.injEq, DataW.lit.injEq, Lit.bool.injEq] at h; rw [h.1]
 ·cases h
structure Sg where
 ad : Option (Nat × Nat)
 n : Nat
 c : Nat
def Sg.val (s : Sg) : Value := .slice (s.ad.map fun p => ⟨p.1, p.2, none⟩) s.n s.c
def edS (s : Sg) : DW := match s.ad with
 | none => .agg [.lit (.int .i64 s.n), .lit (.int .i64 s.c)]
 | some p => .agg [.lit (.int .i64 p.1), .lit (.int .i64 p.2), .lit (.int .i64 s.n), .lit (.int .i64 s.c)]
def rdS : Value -> Option (DW × List MemPlace)
 | .slice none n c => some (edS ⟨none, n, c⟩, [])
 | .slice (some ⟨b, o, none⟩) n c => some (edS ⟨some (b, o), n, c⟩, [])
 | _ => none
theorem rdS_mk (s : Sg) : rdS s.val = some (edS s, []) := by
 obtain ⟨ad, n, c⟩ := s
 cases ad <;> rfl
theorem edS_inj {s s' : Sg} (h : edS s = edS s') : s = s' := by
 obtain ⟨ad, n, c⟩ := s;obtain ⟨ad', n', c'⟩ := s';unfold edS at h
 cases ad <;> cases ad' <;> simp at h
 ·obtain ⟨h1, h2⟩ := h; congr 1 <;> omega
 ·rename_i p q
  obtain ⟨p1, p2⟩ := p;obtain ⟨q1, q2⟩ := q;simp at h
  obtain ⟨h1, h2, h3, h4⟩ := h;obtain rfl : p1 = q1 := by omega
  obtain rfl : p2 = q2 := by omega
  congr 1 <;> omega
theorem rdS_inv (v : Value) (s : Sg) (ps : List MemPlace) (h : rdS v = some (edS s, ps)) : v = s.val := by
 unfold rdS at h;split at h
 ·simp only [zO, Prod.mk.injEq] at h
  rw [<- edS_inj h.1]; rfl
 ·simp only [zO, Prod.mk.injEq] at h
  rw [<- edS_inj h.1]; rfl
 ·cases h
end Go.Proofs.YtmagjdocondmhaaGreat.Mp
namespace Go.Proofs.YtmagjdocondmhaaGreat.Tr
open Go Go.RowKit Slc St Mp
attribute [local go_sem] Oper.semAt_some
theorem u_int : Tryz.prog.underlying 3 = some (.int .i64) := Tryz.underlying3
theorem u_mapIB : Tryz.prog.underlying 72 = some (.map 3 4) := Tryz.underlying72
noncomputable abbrev kI : Ky Tryz.prog 3 Int := kyInt u_int
end Go.Proofs.YtmagjdocondmhaaGreat.Tr
