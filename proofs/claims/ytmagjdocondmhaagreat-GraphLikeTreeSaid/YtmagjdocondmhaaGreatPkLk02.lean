/- packed -/
import Derived.Test.YtmagjdocondmhaaGreatPkLk01
import Derived.ProofKit
import Derived.Sort.WalkA
import Derived.Shelf.SlSortCmp.KitK
set_option linter.unusedVariables false
set_option linter.unusedSimpArgs false
set_option maxRecDepth 100000
set_option maxHeartbeats 64000000
namespace Go.Proofs.YtmagjdocondmhaaGreat.Tr
open Go Go.RowKit Slc
structure Bx (p : Prop) : Prop where
 out : p
abbrev B := List UInt8
def bstr (b : B) : ByteArray := ⟨b.toArray⟩
theorem bstr_inj {a b : B} (h : bstr a = bstr b) : a = b := by
 unfold bstr at h;have := congrArg (fun x => x.data.toList) h;simpa using this
theorem bstr_back (x : ByteArray) : bstr x.data.toList = x := by unfold bstr; simp
theorem bstr_list (b : B) : (bstr b).data.toList = b := by unfold bstr; simp
def encS (d : B) : List Value := [.string (bstr d)]
theorem encS_ok : Enc 1 encS := ⟨fun c => rfl, fun c u hu => by
 simp only [encS, zS] at hu
 subst hu; rfl, by omega⟩
structure Sl where
 ad : Option Addr
 n : Nat
 c : Nat
def Sl.val (s : Sl) : Value := .slice s.ad s.n s.c
structure Nd where
 d : Int
 p : Int
 pol : B
 ex : List B
structure Nt where
 n : Nd
 u : Sl
instance : Inhabited Nt := ⟨⟨⟨0, 0, [], []⟩, ⟨none, 0, 0⟩⟩⟩
def encN (x : Nt) : List Value := [.int .i64 x.n.d, .int .i64 x.n.p, .string (bstr x.n.pol), x.u.val]
theorem encN_ok : Enc 4 encN := ⟨fun _ => rfl, fun x u hu => by simp [encN] at hu; rcases hu with rfl | rfl | rfl | rfl <;> rfl, by omega⟩
def nodV (x : Nt) : Value := .agg #[.int .i64 x.n.d, .int .i64 x.n.p, .string (bstr x.n.pol), x.u.val]
def Few (l : List B) : Prop := l.length <= 100000 /\ ∀ b ∈ l, b.length <= 1000000
def Nd.Ok (n : Nd) : Prop := Few n.ex /\ n.pol.length <= 1000000
def RdIn {α : Type} (w : World) (S : Nat -> Prop) (enc : α -> List Value) (v : Value) (l : List α) : Prop := Rd w enc v l /\ ∀ k, v.ownBlock = some k -> S k
theorem RdIn.keep {α : Type} {w w' : World} {S : Nat -> Prop} {enc : α -> List Value} {v : Value} {l : List α} (h : RdIn w S enc v l) (hs : w.heap.size <= w'.heap.size) (hb : ∀ k, S k -> k < w.heap.size -> w'.heap[k]? = w.heap[k]?) : RdIn w' S enc v l := ⟨h.1.keep hs fun k hk hlt => hb k (h.2 k hk) hlt, h.2⟩
theorem RdIn.mono {α : Type} {w : World} {S S' : Nat -> Prop} {enc : α -> List Value} {v : Value} {l : List α} (h : RdIn w S enc v l) (hS : ∀ k, k < w.heap.size -> S k -> S' k) : RdIn w S' enc v l := ⟨h.1, fun k hk => hS k (h.1.lt k hk) (h.2 k hk)⟩
def NtIn (w : World) (S : Nat -> Prop) (x : Nt) : Prop := RdIn w S encS x.u.val x.n.ex /\ Nd.Ok x.n
def NtAt (w : World) (x : Nt) : Prop := Rd w encS x.u.val x.n.ex /\ Nd.Ok x.n
theorem NtAt.below {w w' : World} {x : Nt} (h : NtAt w x) (hb : Below w.heap.size w w') : NtAt w' x := ⟨h.1.below hb, h.2⟩
theorem NtIn.of {w : World} {x : Nt} (h : NtAt w x) : NtIn w (fun k => k < w.heap.size) x := ⟨⟨h.1, h.1.lt⟩, h.2⟩
theorem NtIn.keep {w w' : World} {S : Nat -> Prop} {x : Nt} (h : NtIn w S x) (hs : w.heap.size <= w'.heap.size) (hb : ∀ k, S k -> k < w.heap.size -> w'.heap[k]? = w.heap[k]?) : NtIn w' S x := ⟨h.1.keep hs hb, h.2⟩
theorem NtIn.mono {w : World} {S S' : Nat -> Prop} {x : Nt} (h : NtIn w S x) (hS : ∀ k, k < w.heap.size -> S k -> S' k) : NtIn w S' x := ⟨h.1.mono hS, h.2⟩
theorem NtIn.below {w w' : World} {S : Nat -> Prop} {x : Nt} (h : NtIn w S x) (hb : Below w.heap.size w w') : NtIn w' S x := h.keep hb.size fun k _ hk => hb.block k hk
theorem NtIn.at_ {w : World} {S : Nat -> Prop} {x : Nt} (h : NtIn w S x) : NtAt w x := ⟨h.1.1, h.2⟩
structure TL (w : World) (v : Value) (l : List Nt) : Prop where
 rd : Rd w encN v l
 at_ : ∀ x ∈ l, NtAt w x
theorem TL.below {w w' : World} {v : Value} {l : List Nt} (h : TL w v l) (hb : Below w.heap.size w w') : TL w' v l := ⟨h.rd.below hb, fun x hx => (h.at_ x hx).below hb⟩
abbrev nds (l : List Nt) : List Nd := l.map (·.n)
theorem TL.cells {w : World} {ad : Option Addr} {n c : Nat} {l : List Nt} (h : TL w (.slice ad n c) l) : n = l.length /\ ∀ (W : World), Below w.heap.size w W -> ∀ k (hk : k < l.length), ∃ b o, ad = some ⟨b, o, none⟩ /\ b < w.heap.size /\ W.cell? ⟨b, o + k * 4, none⟩ = some (.int .i64 (l[k]).n.d) /\ W.cell? ⟨b, o + k * 4 + 1, none⟩ = some (.int .i64 (l[k]).n.p) /\ W.cell? ⟨b, o + k * 4 + 2, none⟩ = some (.string (bstr (l[k]).n.pol)) /\ W.cell? ⟨b, o + k * 4 + 3, none⟩ = some (l[k]).u.val := by
 obtain ⟨ad', c', hv, -⟩ := h.rd.form;simp only [Value.slice.injEq] at hv
 refine ⟨hv.2.1, fun W hW k hk => ?_⟩;obtain ⟨b, o, c, hv', _, hlt, hc⟩ := h.rd.cells encN_ok (by omega);simp only [Value.slice.injEq] at hv'
 have q := hc W (fun k' hk' => hW.block k' (h.rd.lt k' hk')) k hk;exact ⟨b, o, hv'.1, hlt, q 0 _ (by omega) rfl, q 1 _ (by omega) rfl, q 2 _ (by omega) rfl, q 3 _ (by omega) rfl⟩
theorem strs_cells {w : World} {ad : Option Addr} {n c : Nat} {l : List B} (h : Rd w encS (.slice ad n c) l) : n = l.length /\ ∀ (W : World), Below w.heap.size w W -> ∀ k (hk : k < l.length), ∃ b o, ad = some ⟨b, o, none⟩ /\ b < w.heap.size /\ W.cell? ⟨b, o + k, none⟩ = some (.string (bstr l[k])) := by
 obtain ⟨ad', c', hv, -⟩ := h.form;simp only [Value.slice.injEq] at hv
 refine ⟨hv.2.1, fun W hW k hk => ?_⟩;obtain ⟨b, o, c, hv', _, hlt, hc⟩ := h.cells encS_ok (by omega);simp only [Value.slice.injEq] at hv'
 have q := hc W (fun k' hk' => hW.block k' (h.lt k' hk')) k hk 0 _ (by omega) rfl;rw [Nat.mul_one, Nat.add_zero] at q;exact ⟨b, o, hv'.1, hlt, q⟩
def Rq (w : World) (v : Value) (l : List B) : Prop := (l = [] /\ ∃ a c, v = .slice a 0 c) \/ Rd w encS v l
theorem Rq.form {w : World} {v : Value} {l : List B} (h : Rq w v l) : ∃ ad c, v = .slice ad l.length c /\ True := by
 rcases h with ⟨rfl, a, c, rfl⟩ | h
 ·exact ⟨_, _, rfl, trivial⟩
 ·obtain ⟨ad, c, h, -⟩ := h.form; exact ⟨_, _, h, trivial⟩
theorem Rq.below {w w' : World} {v : Value} {l : List B} (h : Rq w v l) (hb : Below w.heap.size w w') : Rq w' v l := h.imp id fun q => q.below hb
theorem Rq.rd {w : World} {v : Value} {l : List B} (h : Rq w v l) (hp : 0 < l.length) : Rd w encS v l := by
 rcases h with ⟨rfl, -⟩ | h
 ·simp at hp
 ·exact h
theorem strs_cells_q {w : World} {ad : Option Addr} {n c : Nat} {l : List B} (h : Rq w (.slice ad n c) l) : n = l.length /\ ∀ (W : World), Below w.heap.size w W -> ∀ k (hk : k < l.length), ∃ b o, ad = some ⟨b, o, none⟩ /\ b < w.heap.size /\ W.cell? ⟨b, o + k, none⟩ = some (.string (bstr l[k])) := by
 rcases h with ⟨rfl, a, c', h⟩ | h
 ·simp only [Value.slice.injEq] at h
  exact ⟨h.2.1, fun W _ k hk => by simp at hk⟩
 ·exact strs_cells h
def NqAt (w : World) (x : Nt) : Prop := Rq w x.u.val x.n.ex /\ Nd.Ok x.n
structure TQ (w : World) (v : Value) (l : List Nt) : Prop where
 rd : Rd w encN v l
 at_ : ∀ x ∈ l, NqAt w x
theorem TL.tq {w : World} {v : Value} {l : List Nt} (h : TL w v l) : TQ w v l := ⟨h.rd, fun x hx => ⟨.inr (h.at_ x hx).1, (h.at_ x hx).2⟩⟩
theorem TQ.below {w w' : World} {v : Value} {l : List Nt} (h : TQ w v l) (hb : Below w.heap.size w w') : TQ w' v l := ⟨h.rd.below hb, fun x hx => ⟨(h.at_ x hx).1.below hb, (h.at_ x hx).2⟩⟩
theorem TQ.cells {w : World} {ad : Option Addr} {n c : Nat} {l : List Nt} (h : TQ w (.slice ad n c) l) : n = l.length /\ ∀ (W : World), Below w.heap.size w W -> ∀ k (hk : k < l.length), ∃ b o, ad = some ⟨b, o, none⟩ /\ b < w.heap.size /\ W.cell? ⟨b, o + k * 4, none⟩ = some (.int .i64 (l[k]).n.d) /\ W.cell? ⟨b, o + k * 4 + 1, none⟩ = some (.int .i64 (l[k]).n.p) /\ W.cell? ⟨b, o + k * 4 + 2, none⟩ = some (.string (bstr (l[k]).n.pol)) /\ W.cell? ⟨b, o + k * 4 + 3, none⟩ = some (l[k]).u.val := by
 obtain ⟨ad', c', hv, -⟩ := h.rd.form;simp only [Value.slice.injEq] at hv
 refine ⟨hv.2.1, fun W hW k hk => ?_⟩;obtain ⟨b, o, c, hv', _, hlt, hc⟩ := h.rd.cells encN_ok (by omega);simp only [Value.slice.injEq] at hv'
 have q := hc W (fun k' hk' => hW.block k' (h.rd.lt k' hk')) k hk;exact ⟨b, o, hv'.1, hlt, q 0 _ (by omega) rfl, q 1 _ (by omega) rfl, q 2 _ (by omega) rfl, q 3 _ (by omega) rfl⟩
structure TO (w : World) (B : Nat) (v : Value) (l : List Nt) : Prop where
 own : Go.Proofs.YtmagjdocondmhaaGreat.Slc.Own w B 111 4 encN v l
 nm : ∀ x ∈ l, NtIn w (fun k => v.ownBlock ≠ some k) x
theorem TO.tl {w : World} {B : Nat} {v : Value} {l : List Nt} (h : TO w B v l) : TL w v l := ⟨h.own.rd, fun x hx => (h.nm x hx).at_⟩
theorem TO.below {w w' : World} {B : Nat} {v : Value} {l : List Nt} (h : TO w B v l) (hb : Below w.heap.size w w') : TO w' B v l := ⟨h.own.below hb, fun x hx => (h.nm x hx).below hb⟩
theorem TO.nil (w : World) (B : Nat) : TO w B (.slice none 0 0) [] := ⟨Go.Proofs.YtmagjdocondmhaaGreat.Slc.Own.nil _ _, fun x hx => by cases hx⟩
theorem TO.mono {w : World} {B B' : Nat} {v : Value} {l : List Nt} (h : TO w B v l) (hB : B' <= B) : TO w B' v l := ⟨h.own.mono hB, h.nm⟩
structure GT (W : World) (B : Nat) (wr : World) (v : Value) (l : List Nt) : Prop where
 to : TO wr B v l
 bel : Below B W wr
 le : B <= W.heap.size
theorem GT.nil (W : World) (B : Nat) (h : B <= W.heap.size) : GT W B W (.slice none 0 0) [] := ⟨TO.nil _ _, Below.refl _ _, h⟩
theorem GT.sz {W wr : World} {B : Nat} {v : Value} {l : List Nt} (h : GT W B wr v l) : B <= wr.heap.size := Nat.le_trans h.le h.bel.size
theorem GT.below {W wr w1 : World} {B : Nat} {v : Value} {l : List Nt} (h : GT W B wr v l) (hb : Below wr.heap.size wr w1) : GT W B w1 v l := ⟨h.to.below hb, h.bel.trans (hb.mono h.sz), h.le⟩
theorem GT.form {W wr : World} {B : Nat} {v : Value} {l : List Nt} (h : GT W B wr v l) : ∃ ad c, v = .slice ad l.length c /\ l.length <= c := h.to.own.rd.form
theorem GT.apd {W wr w' : World} {B a b : Nat} {v v' : Value} {l m : List Nt} {xs news : List Value} (h : GT W B wr v l) (hm : ∀ x ∈ m, NtIn wr (fun k => v.ownBlock ≠ some k) x) (hx : xs = l.flatMap encN) (hy : news = m.flatMap encN) (ha : a = l.length) (hb : b = m.length) (h' : Apd wr B 111 4 v a b xs news v' w') : GT W B w' v' (l ++ m) := by
 have key : ∀ x, NtIn wr (fun k => v.ownBlock ≠ some k) x -> NtIn w' (fun k => v'.ownBlock ≠ some k) x := by
  intro x hx;refine NtIn.mono (S := fun k => v.ownBlock ≠ some k /\ k < wr.heap.size) ((hx.mono fun k hk h1 => ⟨h1, hk⟩).keep h'.grown.size fun k hk hlt => h'.grown.block k hlt fun e => hk.1 e.symm) ?_;intro k _ hk e;rcases h'.blk with q | q
  ·exact hk.1 (by rw [<- q]; exact e)
  ·rw [q] at e; simp only [zO] at e; omega
 refine ⟨⟨h.to.own.apd hx hy ha hb h', fun x hx => ?_⟩, h.bel.grown h'.grown h.sz fun k hk => (h.to.own.lt k hk).1, h.le⟩;rcases List.mem_append.1 hx with q | q
 ·exact key x (h.to.nm x q)
 ·exact key x (hm x q)
theorem info_node : (Tryz.prog.info? 111).map (fun i => (i.zero, i.size, i.bytes)) = some (some (.agg #[.int .i64 0, .int .i64 0, .string ⟨#[]⟩, .slice none 0 0]), 4, 56) := by kernel_rfl
theorem info_str : (Tryz.prog.info? 9).map (fun i => (i.zero, i.size, i.bytes)) = some (some (.string ⟨#[]⟩), 1, 16) := by kernel_rfl
theorem info_parts {i : Option TypeInfo} {z : Value} {n b : Nat} (h : i.map (fun i => (i.zero, i.size, i.bytes)) = some (some z, n, b)) : ∃ j, i = some j /\ j.zero = some z /\ j.size = n /\ j.bytes = b := by
 cases i with
 | none => cases h
 | some j => simp only [Option.map_some, zO, Prod.mk.injEq] at h; exact ⟨j, rfl, h.1, h.2.1, h.2.2⟩
theorem und_nodes : Tryz.prog.underlying 54 = some (.slice 111) := by kernel_rfl
theorem und_nodes' : Tryz.prog.underlying 54 = some (.slice (Tryz.prog.elem 54)) := by kernel_rfl
theorem size_nodes (W : World) : (sizeOf (Tryz.prog.elem 54)).run Tryz.prog W = .ok 4 W := by kernel_rfl
theorem und_strs : Tryz.prog.underlying 34 = some (.slice 9) := by kernel_rfl
theorem lt_of_some {w : World} {k : Nat} {ob : Obj} (h : w.heap[k]? = some ob) : k < w.heap.size := by
 rcases Nat.lt_or_ge k w.heap.size with q | q
 ·exact q
 ·rw [Array.getElem?_eq_none q] at h; cases h
end Go.Proofs.YtmagjdocondmhaaGreat.Tr
namespace Go.Proofs.YtmagjdocondmhaaGreat.St
section
variable {α : Type} (lt : α -> α -> Bool)
structure Ord : Prop where
 irr : ∀ x, lt x x = false
 tr : ∀ x y z, lt x y = true -> lt y z = true -> lt x z = true
 co : ∀ x y z, lt x y = false -> lt y z = false -> lt x z = false
def eqv (x y : α) : Bool := !lt x y && !lt y x
def Stab (l l' : List α) : Prop := ∀ x, l.filter (eqv lt x) = l'.filter (eqv lt x)
def Srt (l : List α) : Prop := l.Pairwise fun x y => lt y x = false
variable {lt}
theorem Ord.asym (O : Ord lt) {x y : α} (h : lt x y = true) : lt y x = false := by
 cases h' : lt y x with
 | false => rfl
 | true => have := O.tr _ _ _ h h'; rw [O.irr] at this; cases this
theorem Ord.lt_of (O : Ord lt) {x y z : α} (h : lt x y = false) (h' : lt x z = true) : lt y z = true := by
 cases q : lt y z with
 | true => rfl
 | false => have := O.co _ _ _ h q; rw [h'] at this; cases this
theorem Ord.lt_of' (O : Ord lt) {x y z : α} (h : lt y z = false) (h' : lt x z = true) : lt x y = true := by
 cases q : lt x y with
 | true => rfl
 | false => have := O.co _ _ _ q h; rw [h'] at this; cases this
theorem eqv_refl (O : Ord lt) (x : α) : eqv lt x x = true := by simp [eqv, O.irr]
theorem eqv_def {x y : α} : eqv lt x y = true ↔ lt x y = false /\ lt y x = false := by simp [eqv]
theorem Stab.refl (l : List α) : Stab lt l l := fun _ => rfl
theorem Stab.symm {l l' : List α} (h : Stab lt l l') : Stab lt l' l := fun x => (h x).symm
theorem Stab.trans {l l' l'' : List α} (h : Stab lt l l') (h' : Stab lt l' l'') : Stab lt l l'' := fun x => (h x).trans (h' x)
theorem Stab.append {l l' m m' : List α} (h : Stab lt l l') (h' : Stab lt m m') : Stab lt (l ++ m) (l' ++ m') := fun x => by
 rw [List.filter_append, List.filter_append, h x, h' x]
theorem Stab.mid {l l' : List α} (h : Stab lt l l') (p q : List α) : Stab lt (p ++ l ++ q) (p ++ l' ++ q) := ((Stab.refl p).append h).append (Stab.refl q)
theorem Stab.mem {l l' : List α} (O : Ord lt) (h : Stab lt l l') {x : α} (hx : x ∈ l) : x ∈ l' := by
 have : x ∈ l.filter (eqv lt x) := List.mem_filter.2 ⟨hx, eqv_refl O x⟩;rw [h x] at this;exact (List.mem_filter.1 this).1
theorem Stab.swap (O : Ord lt) {U V : List α} (h : ∀ u ∈ U, ∀ v ∈ V, lt v u = true) : Stab lt (U ++ V) (V ++ U) := fun x => by
 rw [List.filter_append, List.filter_append];by_cases hU : U.filter (eqv lt x) = []
 ·rw [hU]; simp
 ·have hV : V.filter (eqv lt x) = [] := by
   rw [List.filter_eq_nil_iff];intro v hv hxv;obtain ⟨u, hu⟩ := List.exists_mem_of_ne_nil _ hU;obtain ⟨hu1, hu2⟩ := List.mem_filter.1 hu;rw [eqv_def] at hu2 hxv;have h1 := h u hu1 v hv;have h2 := O.co _ _ _ hxv.2 hu2.1;rw [h1] at h2; cases h2
  rw [hV]; simp
theorem Srt.nil : Srt lt ([] : List α) := List.Pairwise.nil
theorem Srt.append {l m : List α} : Srt lt (l ++ m) ↔ Srt lt l /\ Srt lt m /\ ∀ x ∈ l, ∀ y ∈ m, lt y x = false := List.pairwise_append
theorem Srt.singleton (x : α) : Srt lt [x] := List.pairwise_singleton _ _
theorem Stab.tail (O : Ord lt) {a : α} {l l' : List α} (h : Stab lt (a :: l) (a :: l')) : Stab lt l l' := fun x => by
 have := h x;rw [List.filter_cons, List.filter_cons] at this;split at this
 ·simpa using this
 ·exact this
theorem srt_unique (O : Ord lt) : ∀ (l l' : List α), Srt lt l -> Srt lt l' -> Stab lt l l' -> l = l'
 | [], [], _, _, _ => rfl
 | [], b :: l', _, _, h => by have := h.symm.mem O (List.mem_cons_self (a := b) (l := l')); cases this
 | a :: l, [], _, _, h => by have := h.mem O (List.mem_cons_self (a := a) (l := l)); cases this
 | a :: l, b :: l', hs, hs', h => by
  have hs1 := hs;have hs2 := hs';rw [Srt, List.pairwise_cons] at hs1 hs2
  have e : eqv lt a b = true := by
   rw [eqv_def];constructor
   ·rcases List.mem_cons.1 (h.mem O (List.mem_cons_self (a := a) (l := l))) with q | q
    ·subst q; exact O.irr _
    ·exact hs2.1 a q
   ·rcases List.mem_cons.1 (h.symm.mem O (List.mem_cons_self (a := b) (l := l'))) with q | q
    ·subst q; exact O.irr _
    ·exact hs1.1 b q
  have h1 := h a;rw [List.filter_cons, List.filter_cons, if_pos (eqv_refl O a), if_pos e] at h1;obtain rfl : a = b := (List.cons.inj h1).1;rw [srt_unique O l l' hs1.2 hs2.2 (h.tail O)]
theorem Stab.perm (O : Ord lt) : ∀ (l l' : List α), Stab lt l l' -> l.Perm l'
 | [], [], _ => List.Perm.nil
 | [], b :: l', h => by have := h.symm.mem O (List.mem_cons_self (a := b) (l := l')); cases this
 | a :: l, l', h => by
  obtain ⟨s, r, hs⟩ := List.append_of_mem (h.mem O (List.mem_cons_self (a := a) (l := l)))
  -- the first of a's class in l'
  have h1 := h a;rw [List.filter_cons, if_pos (eqv_refl O a)] at h1
  obtain ⟨s1, r1, e1, e2, e3⟩ : ∃ s1 r1, l' = s1 ++ a :: r1 /\ s1.filter (eqv lt a) = [] /\ r1.filter (eqv lt a) = l.filter (eqv lt a) := by
   clear hs s r h
   induction l' with
   | nil => simp at h1
   | cons b l' ih =>
    rw [List.filter_cons] at h1;by_cases hb : eqv lt a b = true
    ·rw [if_pos hb] at h1;obtain ⟨rfl, h2⟩ := List.cons.inj h1;exact ⟨[], l', rfl, rfl, h2.symm⟩
    ·rw [if_neg hb] at h1;obtain ⟨s1, r1, e1, e2, e3⟩ := ih h1;exact ⟨b :: s1, r1, by rw [e1]; rfl, by rw [List.filter_cons, if_neg hb]; exact e2, e3⟩
  subst e1
  have hst : Stab lt l (s1 ++ r1) := by
   intro x;have hx := h x;rw [List.filter_cons, List.filter_append, List.filter_cons] at hx;rw [List.filter_append];by_cases hxa : eqv lt x a = true
   ·rw [if_pos hxa, if_pos hxa] at hx
    have hs0 : s1.filter (eqv lt x) = [] := by
     rw [List.filter_eq_nil_iff] at e2 |-;intro y hy hxy;apply e2 y hy
     rw [eqv_def] at hxa hxy |-;exact ⟨O.co _ _ _ hxa.2 hxy.1, O.co _ _ _ hxy.2 hxa.1⟩
    rw [hs0] at hx |-;simpa using hx
   ·rw [if_neg hxa, if_neg hxa] at hx;exact hx
  exact ((Stab.perm O l (s1 ++ r1) hst).cons a).trans List.perm_middle.symm
theorem Stab.length {l l' : List α} (h : Stab lt l l') (O : Ord lt) : l.length = l'.length := (Stab.perm O l l' h).length_eq
theorem merge_rot (O : Ord lt) {A1 A2 B1 B2 C D : List α} (hA : Srt lt (A1 ++ A2)) (hB : Srt lt (B1 ++ B2))
  (h1 : ∀ x ∈ A2, ∀ y ∈ B1, lt y x = true) (h2 : ∀ x ∈ A1, ∀ y ∈ B2, lt y x = false)
  (hC : Srt lt C) (hC' : Stab lt (A1 ++ B1) C) (hD : Srt lt D) (hD' : Stab lt (A2 ++ B2) D) : Srt lt (C ++ D) /\ Stab lt ((A1 ++ A2) ++ (B1 ++ B2)) (C ++ D) := by
 have hA' := Srt.append.1 hA;have hB' := Srt.append.1 hB;constructor
 ·refine Srt.append.2 ⟨hC, hD, fun x hx y hy => ?_⟩;have hx' := hC'.symm.mem O hx;have hy' := hD'.symm.mem O hy;rw [List.mem_append] at hx' hy';rcases hx' with hx' | hx' <;> rcases hy' with hy' | hy'
  ·exact hA'.2.2 x hx' y hy'
  ·exact h2 x hx' y hy'
  ·exact O.asym (h1 y hy' x hx')
  ·exact hB'.2.2 x hx' y hy'
 ·have e1 : (A1 ++ A2) ++ (B1 ++ B2) = A1 ++ (A2 ++ B1) ++ B2 := by simp
  have e2 : A1 ++ (B1 ++ A2) ++ B2 = (A1 ++ B1) ++ (A2 ++ B2) := by simp
  rw [e1];refine ((Stab.swap O h1).mid A1 B2).trans ?_;rw [e2];exact hC'.append hD'
def ins (x : α) : List α -> List α
 | [] => [x]
 | y :: l => if lt x y then x :: y :: l else y :: ins x l
end
section
variable {α : Type} {lt : α -> α -> Bool}
theorem srt_lt_lt (O : Ord lt) {A B : List α} {a b : α} (hA : Srt lt (a :: A)) (hB : Srt lt (B ++ [b])) (h : lt b a = true) : ∀ x ∈ a :: A, ∀ y ∈ B ++ [b], lt y x = true := by
 intro x hx y hy
 have h1 : lt x a = false := by
  rcases List.mem_cons.1 hx with rfl | hx
  ·exact O.irr _
  ·exact (List.pairwise_cons.1 hA).1 x hx
 have h2 : lt b y = false := by
  rw [List.mem_append, zS] at hy;rcases hy with hy | rfl
  ·exact (Srt.append.1 hB).2.2 y hy b (by simp)
  ·exact O.irr _
 exact O.lt_of h2 (O.lt_of' h1 h)
theorem srt_le_le (O : Ord lt) {A B : List α} {a b : α} (hA : Srt lt (A ++ [a])) (hB : Srt lt (b :: B)) (h : lt b a = false) : ∀ x ∈ A ++ [a], ∀ y ∈ b :: B, lt y x = false := by
 intro x hx y hy
 have h1 : lt a x = false := by
  rw [List.mem_append, zS] at hx;rcases hx with hx | rfl
  ·exact (Srt.append.1 hA).2.2 x hx a (by simp)
  ·exact O.irr _
 have h2 : lt y b = false := by
  rcases List.mem_cons.1 hy with rfl | hy
  ·exact O.irr _
  ·exact (List.pairwise_cons.1 hB).1 y hy
 exact O.co _ _ _ h2 (O.co _ _ _ h h1)
end
end Go.Proofs.YtmagjdocondmhaaGreat.St
namespace Go.Proofs.YtmagjdocondmhaaGreat.St
open Go.Sort
section
variable {α : Type} [Inhabited α]
theorem get_list {dk : Array α} {A B : List α} {x : α} (h : dk.toList = A ++ x :: B) {i : Nat} (hi : i = A.length) : dk[i]! = x /\ i < dk.size := by
 subst hi;have hl : dk.size = A.length + (B.length + 1) := by rw [<- Array.length_toList, h]; simp
 have hlt : A.length < dk.size := by omega
 refine ⟨?_, hlt⟩;rw [getElem!_pos dk _ hlt];have := congrArg (fun l : List α => l[A.length]?) h;simp only [List.getElem?_append_right (zR _), Nat.sub_self, List.getElem?_cons_zero] at this
 rw [Array.getElem?_toList, Array.getElem?_eq_getElem hlt] at this;exact Option.some.inj this
theorem swp_list {dk : Array α} {A B C : List α} {x y : α} (h : dk.toList = A ++ x :: (B ++ y :: C)) {i j : Nat} (hi : i = A.length) (hj : j = A.length + 1 + B.length) :
  (swp dk i j).toList = A ++ y :: (B ++ x :: C) /\ dk[i]! = x /\ dk[j]! = y /\ i < dk.size /\ j < dk.size := by
 have h1 := get_list h hi;have h' : dk.toList = (A ++ x :: B) ++ y :: C := by rw [h]; simp
 have h2 := get_list h' (i := j) (by rw [hj]; simp; omega);refine ⟨?_, h1.1, h2.1, h1.2, h2.2⟩;unfold swp
 rw [h1.1, h2.1, Array.toList_setIfInBounds, Array.toList_setIfInBounds, h, hi, List.set_append_right _ _ (zR _), Nat.sub_self, List.set_cons_zero, hj,
  List.set_append_right _ _ (by omega), show A.length + 1 + B.length - A.length = B.length + 1 by omega, List.set_cons_succ, List.set_append_right _ _ (zR _), Nat.sub_self, List.set_cons_zero]
theorem swp_list' {dk : Array α} {A B C : List α} {x y : α} (h : dk.toList = A ++ x :: (B ++ y :: C)) {i j : Nat} (hi : i = A.length) (hj : j = A.length + 1 + B.length) :
  (swp dk j i).toList = A ++ y :: (B ++ x :: C) := by
 have h0 := swp_list h hi hj
 have e : swp dk j i = swp dk i j := by
  unfold swp;have hne : i ≠ j := by omega
  rw [Array.setIfInBounds_comm _ _ (Ne.symm hne)]
 rw [e]; exact h0.1
end
section
variable {α : Type} [Inhabited α] {lt : α -> α -> Bool}
theorem insInner_list (O : Ord lt) (P : List α) (x : α) : ∀ (n : Nat) (L R : List α) (dk : Array α), L.length = n -> dk.toList = P ++ (L ++ x :: R) -> Srt lt L ->
  ∃ L1 L2, L = L1 ++ L2 /\ (insInner lt P.length (P.length + L.length) dk).toList = P ++ (L1 ++ x :: (L2 ++ R)) /\ (∀ y ∈ L2, lt x y = true) /\ (∀ y ∈ L1, lt x y = false)
 | 0, L, R, dk, hn, hd, hs => by
  obtain rfl : L = [] := List.eq_nil_of_length_eq_zero hn;refine ⟨[], [], rfl, ?_, (fun y hy => by cases hy), (fun y hy => by cases hy)⟩
  rw [insInner_stop _ _ _ _ (.inl (by simp)), hd]; rfl
 | n + 1, L, R, dk, hn, hd, hs => by
  obtain ⟨L', y, rfl⟩ : ∃ L' y, L = L' ++ [y] := ⟨L.dropLast, L.getLast (by intro h; rw [h] at hn; simp at hn), (List.dropLast_concat_getLast _).symm⟩
  have hn' : L'.length = n := by simpa using hn
  have hd' : dk.toList = (P ++ L') ++ y :: ([] ++ x :: R) := by rw [hd]; simp
  have hsw := swp_list hd' (i := P.length + L'.length) (j := P.length + (L' ++ [y]).length) (by simp) (by simp; omega);have hsw' := swp_list' hd' (i := P.length + L'.length) (j := P.length + (L' ++ [y]).length) (by simp) (by simp; omega);have hs' := Srt.append.1 hs;by_cases hl : lt x y = true
  ·have hgo := insInner_go lt P.length (P.length + (L' ++ [y]).length) dk (by simp) (by
    rw [hsw.2.2.1, show P.length + (L' ++ [y]).length - 1 = P.length + L'.length by simp, hsw.2.1]; exact hl)
   rw [show P.length + (L' ++ [y]).length - 1 = P.length + L'.length by simp] at hgo;rw [hgo];obtain ⟨L1, L2, h1, h2, h3, h4⟩ := insInner_list O P x n L' (y :: R) (swp dk (P.length + (L' ++ [y]).length) (P.length + L'.length)) hn' (by rw [hsw']; simp) hs'.1;refine ⟨L1, L2 ++ [y], by rw [h1]; simp, ?_, ?_, h4⟩
   ·rw [h2]; simp
   ·intro z hz;rcases List.mem_append.1 hz with q | q
    ·exact h3 z q
    ·rw [zS] at q; subst q; exact hl
  ·have hl' : lt x y = false := by simpa using hl
   have hst := insInner_stop lt P.length (P.length + (L' ++ [y]).length) dk (.inr (by
    rw [hsw.2.2.1, show P.length + (L' ++ [y]).length - 1 = P.length + L'.length by simp, hsw.2.1]; exact hl'))
   rw [hst];refine ⟨L' ++ [y], [], by simp, by rw [hd]; simp, (fun z hz => by cases hz), fun z hz => ?_⟩;rcases List.mem_append.1 hz with q | q
   ·exact O.co _ _ _ hl' (hs'.2.2 z q y (by simp))
   ·rw [zS] at q; subst q; exact hl'
theorem insOuter_list (O : Ord lt) (P Q : List α) : ∀ (n : Nat) (L R : List α) (dk : Array α), R.length = n -> dk.toList = P ++ (L ++ (R ++ Q)) -> Srt lt L ->
  ∃ S, (insOuter lt P.length (P.length + (L.length + R.length)) (P.length + L.length) dk).toList = P ++ (S ++ Q) /\ Srt lt S /\ Stab lt (L ++ R) S
 | 0, L, R, dk, hn, hd, hs => by
  obtain rfl : R = [] := List.eq_nil_of_length_eq_zero hn;refine ⟨L, ?_, hs, by rw [List.append_nil]; exact Stab.refl _⟩
  rw [insOuter_stop _ _ _ _ _ (by simp), hd]; simp
 | n + 1, L, [], dk, hn, hd, hs => by simp at hn
 | n + 1, L, x :: R, dk, hn, hd, hs => by
  have hn' : R.length = n := by simpa using hn
  rw [insOuter_go _ _ _ _ _ (by simp)];obtain ⟨L1, L2, h1, h2, h3, h4⟩ := insInner_list O P x L.length L (R ++ Q) dk rfl (by rw [hd]; simp) hs
  have hs2 : Srt lt (L1 ++ x :: L2) := by
   rw [h1] at hs;have hs' := Srt.append.1 hs;refine Srt.append.2 ⟨hs'.1, List.pairwise_cons.2 ⟨fun y hy => O.asym (h3 y hy), hs'.2.1⟩, fun y hy z hz => ?_⟩;rcases List.mem_cons.1 hz with rfl | hz
   ·exact h4 y hy
   ·exact hs'.2.2 y hy z hz
  have hst : Stab lt (L ++ [x]) (L1 ++ x :: L2) := by
   rw [h1];have e1 : (L1 ++ L2) ++ [x] = L1 ++ (L2 ++ [x]) ++ [] := by simp
   have e2 : L1 ++ x :: L2 = L1 ++ ([x] ++ L2) ++ [] := by simp
   rw [e1, e2];exact Stab.mid (Stab.swap O fun u hu v hv => by rw [zS] at hv; subst hv; exact h3 u hu) _ _
  have hlen : (L1 ++ x :: L2).length = L.length + 1 := by rw [h1]; simp; omega
  obtain ⟨S, g1, g2, g3⟩ := insOuter_list O P Q n (L1 ++ x :: L2) R (insInner lt P.length (P.length + L.length) dk) hn' (by rw [h2]; simp) hs2;refine ⟨S, ?_, g2, ?_⟩
  ·rw [<- g1, hlen];simp only [List.length_cons]
   congr 2 <;> omega
  ·have e : L ++ x :: R = (L ++ [x]) ++ R := by simp
   rw [e];exact (hst.append (Stab.refl R)).trans g3
theorem insSort_list (O : Ord lt) (P L Q : List α) (dk : Array α) (hd : dk.toList = P ++ (L ++ Q)) :
  ∃ S, (insertionSort lt dk P.length (P.length + L.length)).toList = P ++ (S ++ Q) /\ Srt lt S /\ Stab lt L S := by
 unfold insertionSort
 cases L with
 | nil =>
  refine ⟨[], ?_, Srt.nil, Stab.refl _⟩
  rw [insOuter_stop _ _ _ _ _ (by simp), hd]
 | cons x R =>
  obtain ⟨S, h1, h2, h3⟩ := insOuter_list O P Q R.length [x] R dk rfl (by rw [hd]; simp) (Srt.singleton x);refine ⟨S, ?_, h2, h3⟩;rw [<- h1];simp only [List.length_cons, List.length_nil]
  congr 2 <;> omega
end
end Go.Proofs.YtmagjdocondmhaaGreat.St
namespace Go.Proofs.YtmagjdocondmhaaGreat.St
open Go Go.RowKit Go.Sort Slc
section
variable {α : Type} [Inhabited α] {t : TypeId} {z : Nat} {enc : α -> List Value}
theorem flatK_list (E : Enc z enc) (l : List α) : (flatK enc z l.toArray).toList = l.flatMap enc := by
 have hz := E.pos;apply List.ext_getElem
 ·rw [Array.length_toList, size_flatK, flat_len E, List.size_toArray]
 ·intro i h1 h2;have hi : i < l.length * z := by rw [<- flat_len E]; exact h2
  have hq : i / z < l.length := Nat.div_lt_of_lt_mul (by rw [Nat.mul_comm]; exact hi);have hj : i % z < z := Nat.mod_lt _ hz;have e : i = i / z * z + i % z := by rw [Nat.mul_comm]; exact (Nat.div_add_mod i z).symm
  have f := flat_at E l (i / z) (i % z) hq hj;rw [<- e] at f;have g := get_flatK enc z l.toArray i (by simpa using hi);have hsz : i < (flatK enc z l.toArray).size := by simpa using hi
  rw [getElem!_pos _ i hsz] at g;have hg : l.toArray[i / z]! = l[i / z] := by rw [getElem!_pos _ _ (by simpa using hq)]; simp
  rw [hg] at g;have hlen : i % z < (enc l[i / z]).length := by rw [E.len]; exact hj
  rw [getElem!_pos (enc l[i / z]) (i % z) hlen] at g;rw [List.getElem?_eq_getElem h2, List.getElem?_eq_getElem hlen] at f;rw [Array.getElem_toList, g];exact (Option.some.inj f).symm
theorem holds_own (E : Enc z enc) {w : World} {B g n cap : Nat} {l : List α} (h : Own w B t z enc (.slice (some ⟨g, 0, none⟩) n cap) l) : HoldsK enc z w g 0 l.toArray := by
 intro i hi;rw [size_flatK, List.size_toArray] at hi;have hz := E.pos;have hq : i / z < l.length := Nat.div_lt_of_lt_mul (by rw [Nat.mul_comm]; exact hi);have hj : i % z < z := Nat.mod_lt _ hz;have e : i / z * z + i % z = i := by rw [Nat.mul_comm]; exact Nat.div_add_mod i z
 have g1 := get_flatK enc z l.toArray i (by simpa using hi);have hg : l.toArray[i / z]! = l[i / z] := by rw [getElem!_pos _ _ (by simpa using hq)]; simp
 rw [hg] at g1;have hlen : i % z < (enc l[i / z]).length := by rw [E.len]; exact hj
 rw [getElem!_pos (enc l[i / z]) (i % z) hlen] at g1;refine ⟨?_, ?_⟩
 ·rw [g1];have := Own.cell E h (i / z) hq (i % z) hj _ (List.getElem?_eq_getElem hlen);rw [e] at this;rw [Nat.zero_add]; exact this
 ·rcases h.2 with ⟨h0, hn⟩ | ⟨g', cap', cur, hv, _, hb, _⟩
  ·simp at h0
  ·simp only [Value.slice.injEq, zO, Addr.mk.injEq] at hv
   obtain ⟨⟨rfl, -⟩, -⟩ := hv;simp [World.frozen?, hb]
theorem own_sorted (E : Enc z enc) {w W : World} {B g n cap : Nat} {l : List α} {dk : Array α} (h : Own w B t z enc (.slice (some ⟨g, 0, none⟩) n cap) l) (hs : dk.size = l.length) (hS : SWK enc z w g 0 dk W) :
  Own W B t z enc (.slice (some ⟨g, 0, none⟩) n cap) dk.toList /\ w.grownBy W (some g) := by
 obtain ⟨m, os, rfl⟩ := hS;rcases h.2 with ⟨h0, hn⟩ | ⟨g', cap', cur, hv, hB, hb, hc, hm, hcs, ht⟩
 ·simp at h0
 simp only [Value.slice.injEq, zO, Addr.mk.injEq] at hv
 obtain ⟨⟨rfl, -⟩, rfl, rfl⟩ := hv;have hg : g < w.heap.size := lt_of_block hb;obtain ⟨F, hF⟩ : ∃ F, F = flatK enc z dk := ⟨_, rfl⟩
 have hFs : F.size = l.length * z := by rw [hF, size_flatK, hs]
 have hdl : dk.toList.length = l.length := by rw [Array.length_toList]; exact hs
 have hFl : F.toList = dk.toList.flatMap enc := by rw [hF, <- flatK_list E]
 unfold sortWorldK putRowK;rw [<- hF]
 have hheap : (grow (putRow id (Sort.ahead w m) g 0 F) os).heap[g]? = some (.cells (putCells id 0 F cur) t (0, 0)) := by
  rw [heap_grow_old _ _ (by simpa using hg)];simp [putRow, mapBlock, Sort.ahead, Array.getElem?_modify, hb, onCells]
 refine ⟨⟨by rw [<- hFl, hdl, <- hFs]; exact Array.length_toList, .inr ⟨g, cap, putCells id 0 F cur, by rw [hdl], hB, hheap, by rw [hdl]; exact hc, hm, by simp [putCells, hcs], ?_⟩⟩, ⟨rfl, rfl, rfl, by simp, fun k hk hne => ?_⟩⟩
 ·rw [hdl, <- hFl];have hle : l.length * z <= cur.size := by rw [hcs]; exact Nat.mul_le_mul_right z hc
  apply List.ext_getElem?
  intro j;by_cases hj : j < l.length * z
  ·rw [List.getElem?_take_of_lt hj, Array.getElem?_toList, Array.getElem?_toList];have h1 : j < cur.size := by omega
   have h2 : j < F.size := by omega
   simp [putCells, h1, h2]
  ·rw [List.getElem?_take_eq_none (by omega), List.getElem?_eq_none (by have : F.toList.length = F.size := Array.length_toList; omega)]
 ·rw [heap_grow_old _ _ (by simpa using hk)];have : g ≠ k := fun e => hne (by rw [e])
  simp [putRow, mapBlock, Sort.ahead, Array.getElem?_modify, this]
end
end Go.Proofs.YtmagjdocondmhaaGreat.St
namespace Go.Proofs.YtmagjdocondmhaaGreat.St
open Go.Sort
section
variable {α : Type}
theorem swp_step [Inhabited α] {dk : Array α} {P Y1 X2 M X1 Y2 Q : List α} {x y : α} (h : dk.toList = P ++ (Y1 ++ ((x :: X2) ++ (M ++ (X1 ++ ((y :: Y2) ++ Q)))))) {i j : Nat} (hi : i = P.length + Y1.length) (hj : j = P.length + Y1.length + (X2.length + 1) + M.length + X1.length) :
  (swp dk i j).toList = P ++ ((Y1 ++ [y]) ++ (X2 ++ (M ++ ((X1 ++ [x]) ++ (Y2 ++ Q))))) := by
 have h' : dk.toList = (P ++ Y1) ++ x :: ((X2 ++ (M ++ X1)) ++ y :: (Y2 ++ Q)) := by rw [h]; simp
 have := (swp_list h' (i := i) (j := j) (by rw [hi]; simp) (by rw [hj]; simp; omega)).1;rw [this]; simp
theorem split_len {l : List α} {n : Nat} (h : n <= l.length) : ∃ a b, l = a ++ b /\ a.length = n := ⟨l.take n, l.drop n, (List.take_append_drop n l).symm, by rw [List.length_take]; omega⟩
end
section
variable {α : Type} {lt : α -> α -> Bool}
theorem srt_at {l : List α} (h : Srt lt l) {i j : Nat} (hi : i < j) (hj : j < l.length) : lt l[j] (l[i]'(by omega)) = false := List.pairwise_iff_getElem.1 h i j (by omega) hj hi
structure Lows (lt : α -> α -> Bool) (x : α) (L : List α) (i j : Nat) : Prop where
 le : i <= j
 len : j <= L.length
 lo : ∀ k (hk : k < L.length), k < i -> lt L[k] x = true
 hi : ∀ k (hk : k < L.length), j <= k -> lt L[k] x = false
theorem Lows.start (x : α) (L : List α) : Lows lt x L 0 L.length := ⟨by omega, zR _, fun k _ h => by omega, fun k hk h => by omega⟩
theorem Lows.up (O : Ord lt) {x : α} {L : List α} (hs : Srt lt L) {i j h : Nat} (H : Lows lt x L i j) (h1 : i <= h) (h2 : h < j) (hh : lt (L[h]'(by have := H.len; omega)) x = true) : Lows lt x L (h + 1) j :=
 ⟨by omega, H.len, fun k hk hlt => by
  rcases Nat.lt_or_ge k h with q | q
  ·exact O.lt_of (srt_at hs q (by have := H.len; omega)) hh
  ·obtain rfl : k = h := by omega
   exact hh, H.hi⟩
theorem Lows.down (O : Ord lt) {x : α} {L : List α} (hs : Srt lt L) {i j h : Nat} (H : Lows lt x L i j) (h1 : i <= h) (h2 : h < j) (hh : lt (L[h]'(by have := H.len; omega)) x = false) : Lows lt x L i h :=
 ⟨h1, by have := H.len; omega, H.lo, fun k hk hle => by
  rcases Nat.lt_or_ge h k with q | q
  ·exact O.co _ _ _ (srt_at hs q hk) hh
  ·obtain rfl : k = h := by omega
   exact hh⟩
theorem Lows.done (O : Ord lt) {x : α} {L : List α} (hs : Srt lt L) {i : Nat} (H : Lows lt x L i i) : Srt lt (L.take i ++ (x :: L.drop i)) /\ Stab lt (x :: L) (L.take i ++ (x :: L.drop i)) := by
 have hlo : ∀ y ∈ L.take i, lt y x = true := fun y hy => by
  obtain ⟨k, hk, rfl⟩ := List.mem_iff_getElem.1 hy;rw [List.length_take] at hk;rw [List.getElem_take];exact H.lo k (by omega) (by omega)
 have hhi : ∀ y ∈ L.drop i, lt y x = false := fun y hy => by
  obtain ⟨k, hk, rfl⟩ := List.mem_iff_getElem.1 hy;rw [List.length_drop] at hk;rw [List.getElem_drop];exact H.hi _ _ (by omega)
 have hs2 := Srt.append.1 ((List.take_append_drop i L).symm ▸ hs);constructor
 ·refine Srt.append.2 ⟨hs2.1, List.pairwise_cons.2 ⟨fun y hy => hhi y hy, hs2.2.1⟩, fun y hy z hz => ?_⟩;rcases List.mem_cons.1 hz with rfl | hz
  ·exact O.asym (hlo y hy)
  ·exact hs2.2.2 y hy z hz
 ·have e1 : x :: L = [] ++ ([x] ++ L.take i) ++ L.drop i := by simp
  have e2 : L.take i ++ (x :: L.drop i) = [] ++ (L.take i ++ [x]) ++ L.drop i := by simp
  rw [e1, e2];exact (Stab.swap O fun u hu v hv => by rw [zS] at hu; subst hu; exact hlo v hv).mid _ _
structure Ups (lt : α -> α -> Bool) (x : α) (L : List α) (i j : Nat) : Prop where
 le : i <= j
 len : j <= L.length
 lo : ∀ k (hk : k < L.length), k < i -> lt x L[k] = false
 hi : ∀ k (hk : k < L.length), j <= k -> lt x L[k] = true
theorem Ups.start (x : α) (L : List α) : Ups lt x L 0 L.length := ⟨by omega, zR _, fun k _ h => by omega, fun k hk h => by omega⟩
theorem Ups.up (O : Ord lt) {x : α} {L : List α} (hs : Srt lt L) {i j h : Nat} (H : Ups lt x L i j) (h1 : i <= h) (h2 : h < j) (hh : lt x (L[h]'(by have := H.len; omega)) = false) : Ups lt x L (h + 1) j :=
 ⟨by omega, H.len, fun k hk hlt => by
  rcases Nat.lt_or_ge k h with q | q
  ·exact O.co _ _ _ hh (srt_at hs q (by have := H.len; omega))
  ·obtain rfl : k = h := by omega
   exact hh, H.hi⟩
theorem Ups.down (O : Ord lt) {x : α} {L : List α} (hs : Srt lt L) {i j h : Nat} (H : Ups lt x L i j) (h1 : i <= h) (h2 : h < j) (hh : lt x (L[h]'(by have := H.len; omega)) = true) : Ups lt x L i h :=
 ⟨h1, by have := H.len; omega, H.lo, fun k hk hle => by
  rcases Nat.lt_or_ge h k with q | q
  ·cases r : lt x L[k] with
   | true => rfl
   | false => have := O.co _ _ _ r (srt_at hs q hk); rw [hh] at this; cases this
  ·obtain rfl : k = h := by omega
   exact hh⟩
theorem Ups.done (O : Ord lt) {x : α} {L : List α} (hs : Srt lt L) {i : Nat} (H : Ups lt x L i i) : Srt lt (L.take i ++ (x :: L.drop i)) /\ Stab lt (L ++ [x]) (L.take i ++ (x :: L.drop i)) := by
 have hlo : ∀ y ∈ L.take i, lt x y = false := fun y hy => by
  obtain ⟨k, hk, rfl⟩ := List.mem_iff_getElem.1 hy;rw [List.length_take] at hk;rw [List.getElem_take];exact H.lo k (by omega) (by omega)
 have hhi : ∀ y ∈ L.drop i, lt x y = true := fun y hy => by
  obtain ⟨k, hk, rfl⟩ := List.mem_iff_getElem.1 hy;rw [List.length_drop] at hk;rw [List.getElem_drop];exact H.hi _ _ (by omega)
 have hs2 := Srt.append.1 ((List.take_append_drop i L).symm ▸ hs);constructor
 ·refine Srt.append.2 ⟨hs2.1, List.pairwise_cons.2 ⟨fun y hy => O.asym (hhi y hy), hs2.2.1⟩, fun y hy z hz => ?_⟩;rcases List.mem_cons.1 hz with rfl | hz
  ·exact hlo y hy
  ·exact hs2.2.2 y hy z hz
 ·have e1 : L ++ [x] = L.take i ++ (L.drop i ++ [x]) ++ [] := by
   rw [<- List.append_assoc, List.take_append_drop, List.append_nil]
  have e2 : L.take i ++ (x :: L.drop i) = L.take i ++ ([x] ++ L.drop i) ++ [] := by simp
  rw [e1, e2];exact (Stab.swap O fun u hu v hv => by rw [zS] at hv; subst hv; exact hhi u hu).mid _ _
def Ch (lt : α -> α -> Bool) (bs : Nat) (l : List α) : Prop := ∀ i, Srt lt ((l.drop (i * bs)).take bs)
theorem Ch.all {bs : Nat} {l : List α} (h : Ch lt bs l) (hb : l.length <= bs) : Srt lt l := by
 have := h 0;rw [Nat.zero_mul, List.drop_zero, List.take_of_length_le hb] at this;exact this
end
end Go.Proofs.YtmagjdocondmhaaGreat.St
