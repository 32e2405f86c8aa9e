/-
  The policy tree's values: nodes, strings; read only, owned, growing.
-/
import Derived.Test.YtmagjdocondmhaaSlc
import Derived.Test.YtmagjdocondmhaaGrow
import Derived.Test.YtmagjdocondmhaaTlvIns
import Derived.Test.YtmagjdocondmhaaDeck
import Derived.Test.YtmagjdocondmhaaFactsR
namespace Go.Proofs.Ytmagjdocondmhaa.Tr
open Go Go.RowKit Go.Proofs.Ytmagjdocondmhaa.Slc
set_option linter.unusedVariables false
set_option linter.unusedSimpArgs false

/-- a box for facts that simp must not see -/
structure Bx (p : Prop) : Prop where
  out : p
abbrev B := List UInt8
def bstr (b : B) : ByteArray := ⟨b.toArray⟩
theorem bstr_size (b : B) : (bstr b).size = b.length := rfl
theorem bstr_inj {a b : B} (h : bstr a = bstr b) : a = b := by
  unfold bstr at h
  have := congrArg (fun x => x.data.toList) h
  simpa using this
theorem bstr_back (x : ByteArray) : bstr x.data.toList = x := by unfold bstr; simp
theorem bstr_list (b : B) : (bstr b).data.toList = b := by unfold bstr; simp
def encS (d : B) : List Value := [.string (bstr d)]
theorem encS_ok : Enc 1 encS := ⟨fun c => rfl, fun c u hu => by
  simp only [encS, List.mem_singleton] at hu
  subst hu; rfl, by omega⟩
/-- a slice's value -/
structure Sl where
  ad : Option Addr
  n : Nat
  c : Nat
def Sl.val (s : Sl) : Value := .slice s.ad s.n s.c
/-- a node -/
structure Nd where
  d : Int
  p : Int
  pol : B
  ex : List B
/-- a node, and its expected policies' slice in memory -/
structure Nt where
  n : Nd
  u : Sl
instance : Inhabited Nt := ⟨⟨⟨0, 0, [], []⟩, ⟨none, 0, 0⟩⟩⟩
def encN (x : Nt) : List Value := [.int .i64 x.n.d, .int .i64 x.n.p, .string (bstr x.n.pol), x.u.val]
theorem encN_ok : Enc 4 encN := ⟨fun _ => rfl, fun x u hu => by simp [encN] at hu; rcases hu with rfl | rfl | rfl | rfl <;> rfl, by omega⟩
def nodV (x : Nt) : Value := .agg #[.int .i64 x.n.d, .int .i64 x.n.p, .string (bstr x.n.pol), x.u.val]
/-- strings that are short enough, and few -/
def Few (l : List B) : Prop := l.length ≤ 100000 ∧ ∀ b ∈ l, b.length ≤ 1000000
def Nd.Ok (n : Nd) : Prop := Few n.ex ∧ n.pol.length ≤ 1000000
/-- the expected policies lie in given blocks -/
def RdIn {α : Type} (w : World) (S : Nat → Prop) (enc : α → List Value) (v : Value) (l : List α) : Prop := Rd w enc v l ∧ ∀ k, v.ownBlock = some k → S k
theorem RdIn.keep {α : Type} {w w' : World} {S : Nat → Prop} {enc : α → List Value} {v : Value} {l : List α} (h : RdIn w S enc v l) (hs : w.heap.size ≤ w'.heap.size) (hb : ∀ k, S k → k < w.heap.size → w'.heap[k]? = w.heap[k]?) : RdIn w' S enc v l := ⟨h.1.keep hs fun k hk hlt => hb k (h.2 k hk) hlt, h.2⟩
theorem RdIn.mono {α : Type} {w : World} {S S' : Nat → Prop} {enc : α → List Value} {v : Value} {l : List α} (h : RdIn w S enc v l) (hS : ∀ k, k < w.heap.size → S k → S' k) : RdIn w S' enc v l := ⟨h.1, fun k hk => hS k (h.1.lt k hk) (h.2 k hk)⟩
def NtIn (w : World) (S : Nat → Prop) (x : Nt) : Prop := RdIn w S encS x.u.val x.n.ex ∧ Nd.Ok x.n
def NtAt (w : World) (x : Nt) : Prop := Rd w encS x.u.val x.n.ex ∧ Nd.Ok x.n
theorem NtAt.below {w w' : World} {x : Nt} (h : NtAt w x) (hb : Below w.heap.size w w') : NtAt w' x := ⟨h.1.below hb, h.2⟩
theorem NtIn.of {w : World} {x : Nt} (h : NtAt w x) : NtIn w (fun k => k < w.heap.size) x := ⟨⟨h.1, h.1.lt⟩, h.2⟩
theorem NtIn.keep {w w' : World} {S : Nat → Prop} {x : Nt} (h : NtIn w S x) (hs : w.heap.size ≤ w'.heap.size) (hb : ∀ k, S k → k < w.heap.size → w'.heap[k]? = w.heap[k]?) : NtIn w' S x := ⟨h.1.keep hs hb, h.2⟩
theorem NtIn.mono {w : World} {S S' : Nat → Prop} {x : Nt} (h : NtIn w S x) (hS : ∀ k, k < w.heap.size → S k → S' k) : NtIn w S' x := ⟨h.1.mono hS, h.2⟩
theorem NtIn.below {w w' : World} {S : Nat → Prop} {x : Nt} (h : NtIn w S x) (hb : Below w.heap.size w w') : NtIn w' S x := h.keep hb.size fun k _ hk => hb.block k hk
theorem NtIn.at_ {w : World} {S : Nat → Prop} {x : Nt} (h : NtIn w S x) : NtAt w x := ⟨h.1.1, h.2⟩
/-- a slice of nodes that can be read -/
structure TL (w : World) (v : Value) (l : List Nt) : Prop where
  rd : Rd w encN v l
  at_ : ∀ x ∈ l, NtAt w x
theorem TL.below {w w' : World} {v : Value} {l : List Nt} (h : TL w v l) (hb : Below w.heap.size w w') : TL w' v l := ⟨h.rd.below hb, fun x hx => (h.at_ x hx).below hb⟩
theorem TL.nil (w : World) : TL w (.slice none 0 0) [] := ⟨Rd.nil w, fun x hx => by cases hx⟩
abbrev nds (l : List Nt) : List Nd := l.map (·.n)
theorem TL.cells {w : World} {ad : Option Addr} {n c : Nat} {l : List Nt} (h : TL w (.slice ad n c) l) : n = l.length ∧ ∀ (W : World), Below w.heap.size w W → ∀ k (hk : k < l.length), ∃ b o, ad = some ⟨b, o, none⟩ ∧ b < w.heap.size ∧ W.cell? ⟨b, o + k * 4, none⟩ = some (.int .i64 (l[k]).n.d) ∧ W.cell? ⟨b, o + k * 4 + 1, none⟩ = some (.int .i64 (l[k]).n.p) ∧ W.cell? ⟨b, o + k * 4 + 2, none⟩ = some (.string (bstr (l[k]).n.pol)) ∧ W.cell? ⟨b, o + k * 4 + 3, none⟩ = some (l[k]).u.val := by
  obtain ⟨ad', c', hv, -⟩ := h.rd.form
  simp only [Value.slice.injEq] at hv
  refine ⟨hv.2.1, fun W hW k hk => ?_⟩
  obtain ⟨b, o, c, hv', _, hlt, hc⟩ := h.rd.cells encN_ok (by omega)
  simp only [Value.slice.injEq] at hv'
  have q := hc W (fun k' hk' => hW.block k' (h.rd.lt k' hk')) k hk
  exact ⟨b, o, hv'.1, hlt, q 0 _ (by omega) rfl, q 1 _ (by omega) rfl, q 2 _ (by omega) rfl, q 3 _ (by omega) rfl⟩
theorem strs_cells {w : World} {ad : Option Addr} {n c : Nat} {l : List B} (h : Rd w encS (.slice ad n c) l) : n = l.length ∧ ∀ (W : World), Below w.heap.size w W → ∀ k (hk : k < l.length), ∃ b o, ad = some ⟨b, o, none⟩ ∧ b < w.heap.size ∧ W.cell? ⟨b, o + k, none⟩ = some (.string (bstr l[k])) := by
  obtain ⟨ad', c', hv, -⟩ := h.form
  simp only [Value.slice.injEq] at hv
  refine ⟨hv.2.1, fun W hW k hk => ?_⟩
  obtain ⟨b, o, c, hv', _, hlt, hc⟩ := h.cells encS_ok (by omega)
  simp only [Value.slice.injEq] at hv'
  have q := hc W (fun k' hk' => hW.block k' (h.lt k' hk')) k hk 0 _ (by omega) rfl
  rw [Nat.mul_one, Nat.add_zero] at q
  exact ⟨b, o, hv'.1, hlt, q⟩
/-- strings that came in: they can be read, or there are none -/
def Rq (w : World) (v : Value) (l : List B) : Prop := (l = [] ∧ ∃ a c, v = .slice a 0 c) ∨ Rd w encS v l
theorem Rq.form {w : World} {v : Value} {l : List B} (h : Rq w v l) : ∃ ad c, v = .slice ad l.length c ∧ True := by
  rcases h with ⟨rfl, a, c, rfl⟩ | h
  · exact ⟨_, _, rfl, trivial⟩
  · obtain ⟨ad, c, h, -⟩ := h.form; exact ⟨_, _, h, trivial⟩
theorem Rq.below {w w' : World} {v : Value} {l : List B} (h : Rq w v l) (hb : Below w.heap.size w w') : Rq w' v l := h.imp id fun q => q.below hb
theorem Rq.rd {w : World} {v : Value} {l : List B} (h : Rq w v l) (hp : 0 < l.length) : Rd w encS v l := by
  rcases h with ⟨rfl, -⟩ | h
  · simp at hp
  · exact h
theorem strs_cells_q {w : World} {ad : Option Addr} {n c : Nat} {l : List B} (h : Rq w (.slice ad n c) l) : n = l.length ∧ ∀ (W : World), Below w.heap.size w W → ∀ k (hk : k < l.length), ∃ b o, ad = some ⟨b, o, none⟩ ∧ b < w.heap.size ∧ W.cell? ⟨b, o + k, none⟩ = some (.string (bstr l[k])) := by
  rcases h with ⟨rfl, a, c', h⟩ | h
  · simp only [Value.slice.injEq] at h
    exact ⟨h.2.1, fun W _ k hk => by simp at hk⟩
  · exact strs_cells h
def NqAt (w : World) (x : Nt) : Prop := Rq w x.u.val x.n.ex ∧ Nd.Ok x.n
/-- a slice of nodes that came in -/
structure TQ (w : World) (v : Value) (l : List Nt) : Prop where
  rd : Rd w encN v l
  at_ : ∀ x ∈ l, NqAt w x
theorem TL.tq {w : World} {v : Value} {l : List Nt} (h : TL w v l) : TQ w v l := ⟨h.rd, fun x hx => ⟨.inr (h.at_ x hx).1, (h.at_ x hx).2⟩⟩
theorem TQ.tl {w : World} {v : Value} {l : List Nt} (h : TQ w v l) (hp : ∀ x ∈ l, 0 < x.n.ex.length) : TL w v l := ⟨h.rd, fun x hx => ⟨(h.at_ x hx).1.rd (hp x hx), (h.at_ x hx).2⟩⟩
theorem TQ.below {w w' : World} {v : Value} {l : List Nt} (h : TQ w v l) (hb : Below w.heap.size w w') : TQ w' v l := ⟨h.rd.below hb, fun x hx => ⟨(h.at_ x hx).1.below hb, (h.at_ x hx).2⟩⟩
theorem TQ.cells {w : World} {ad : Option Addr} {n c : Nat} {l : List Nt} (h : TQ w (.slice ad n c) l) : n = l.length ∧ ∀ (W : World), Below w.heap.size w W → ∀ k (hk : k < l.length), ∃ b o, ad = some ⟨b, o, none⟩ ∧ b < w.heap.size ∧ W.cell? ⟨b, o + k * 4, none⟩ = some (.int .i64 (l[k]).n.d) ∧ W.cell? ⟨b, o + k * 4 + 1, none⟩ = some (.int .i64 (l[k]).n.p) ∧ W.cell? ⟨b, o + k * 4 + 2, none⟩ = some (.string (bstr (l[k]).n.pol)) ∧ W.cell? ⟨b, o + k * 4 + 3, none⟩ = some (l[k]).u.val := by
  obtain ⟨ad', c', hv, -⟩ := h.rd.form
  simp only [Value.slice.injEq] at hv
  refine ⟨hv.2.1, fun W hW k hk => ?_⟩
  obtain ⟨b, o, c, hv', _, hlt, hc⟩ := h.rd.cells encN_ok (by omega)
  simp only [Value.slice.injEq] at hv'
  have q := hc W (fun k' hk' => hW.block k' (h.rd.lt k' hk')) k hk
  exact ⟨b, o, hv'.1, hlt, q 0 _ (by omega) rfl, q 1 _ (by omega) rfl, q 2 _ (by omega) rfl, q 3 _ (by omega) rfl⟩
/-- a slice of nodes that the call owns; their strings lie in other blocks -/
structure TO (w : World) (B : Nat) (v : Value) (l : List Nt) : Prop where
  own : Go.Proofs.Ytmagjdocondmhaa.Slc.Own w B 56 4 encN v l
  nm : ∀ x ∈ l, NtIn w (fun k => v.ownBlock ≠ some k) x
theorem TO.tl {w : World} {B : Nat} {v : Value} {l : List Nt} (h : TO w B v l) : TL w v l := ⟨h.own.rd, fun x hx => (h.nm x hx).at_⟩
theorem TO.below {w w' : World} {B : Nat} {v : Value} {l : List Nt} (h : TO w B v l) (hb : Below w.heap.size w w') : TO w' B v l := ⟨h.own.below hb, fun x hx => (h.nm x hx).below hb⟩
theorem TO.nil (w : World) (B : Nat) : TO w B (.slice none 0 0) [] := ⟨Go.Proofs.Ytmagjdocondmhaa.Slc.Own.nil _ _, fun x hx => by cases hx⟩
theorem TO.mono {w : World} {B B' : Nat} {v : Value} {l : List Nt} (h : TO w B v l) (hB : B' ≤ B) : TO w B' v l := ⟨h.own.mono hB, h.nm⟩
/-- a slice that the call grows -/
structure GT (W : World) (B : Nat) (wr : World) (v : Value) (l : List Nt) : Prop where
  to : TO wr B v l
  bel : Below B W wr
  le : B ≤ W.heap.size
theorem GT.nil (W : World) (B : Nat) (h : B ≤ W.heap.size) : GT W B W (.slice none 0 0) [] := ⟨TO.nil _ _, Below.refl _ _, h⟩
theorem GT.sz {W wr : World} {B : Nat} {v : Value} {l : List Nt} (h : GT W B wr v l) : B ≤ wr.heap.size := Nat.le_trans h.le h.bel.size
theorem GT.below {W wr w1 : World} {B : Nat} {v : Value} {l : List Nt} (h : GT W B wr v l) (hb : Below wr.heap.size wr w1) : GT W B w1 v l := ⟨h.to.below hb, h.bel.trans (hb.mono h.sz), h.le⟩
theorem GT.form {W wr : World} {B : Nat} {v : Value} {l : List Nt} (h : GT W B wr v l) : ∃ ad c, v = .slice ad l.length c ∧ l.length ≤ c := h.to.own.rd.form
theorem GT.apd {W wr w' : World} {B a b : Nat} {v v' : Value} {l m : List Nt} {xs news : List Value} (h : GT W B wr v l) (hm : ∀ x ∈ m, NtIn wr (fun k => v.ownBlock ≠ some k) x) (hx : xs = l.flatMap encN) (hy : news = m.flatMap encN) (ha : a = l.length) (hb : b = m.length) (h' : Apd wr B 56 4 v a b xs news v' w') : GT W B w' v' (l ++ m) := by
  have key : ∀ x, NtIn wr (fun k => v.ownBlock ≠ some k) x → NtIn w' (fun k => v'.ownBlock ≠ some k) x := by
    intro x hx
    refine NtIn.mono (S := fun k => v.ownBlock ≠ some k ∧ k < wr.heap.size) ((hx.mono fun k hk h1 => ⟨h1, hk⟩).keep h'.grown.size fun k hk hlt => h'.grown.block k hlt fun e => hk.1 e.symm) ?_
    intro k _ hk e
    rcases h'.blk with q | q
    · exact hk.1 (by rw [← q]; exact e)
    · rw [q] at e; simp only [Option.some.injEq] at e; omega
  refine ⟨⟨h.to.own.apd hx hy ha hb h', fun x hx => ?_⟩, h.bel.grown h'.grown h.sz fun k hk => (h.to.own.lt k hk).1, h.le⟩
  rcases List.mem_append.1 hx with q | q
  · exact key x (h.to.nm x q)
  · exact key x (hm x q)
/-- a node that lies below B, beside a slice that is owned from B on -/
theorem NtAt.other {W wr : World} {B : Nat} {v : Value} {l : List Nt} {x : Nt} (h : GT W B wr v l) (hx : NtAt W x) (hB : ∀ k, k < W.heap.size → k < B) : NtIn wr (fun k => v.ownBlock ≠ some k) x :=
  NtIn.mono (S := fun k => k < W.heap.size) ((NtIn.of hx).keep h.bel.size fun k hk _ => h.bel.block k (hB k hk)) fun k _ hk e => by have := (h.to.own.lt k e).1; have := hB k hk; omega
theorem info_node : (Try.prog.info? 56).map (fun i => (i.zero, i.size, i.bytes)) = some (some (.agg #[.int .i64 0, .int .i64 0, .string ⟨#[]⟩, .slice none 0 0]), 4, 56) := by kernel_rfl
theorem info_str : (Try.prog.info? 9).map (fun i => (i.zero, i.size, i.bytes)) = some (some (.string ⟨#[]⟩), 1, 16) := by kernel_rfl
theorem info_parts {i : Option TypeInfo} {z : Value} {n b : Nat} (h : i.map (fun i => (i.zero, i.size, i.bytes)) = some (some z, n, b)) : ∃ j, i = some j ∧ j.zero = some z ∧ j.size = n ∧ j.bytes = b := by
  cases i with
  | none => cases h
  | some j => simp only [Option.map_some, Option.some.injEq, Prod.mk.injEq] at h; exact ⟨j, rfl, h.1, h.2.1, h.2.2⟩
theorem und_nodes : Try.prog.underlying 23 = some (.slice 56) := by kernel_rfl
theorem und_nodes' : Try.prog.underlying 23 = some (.slice (Try.prog.elem 23)) := by kernel_rfl
theorem size_nodes (W : World) : (sizeOf (Try.prog.elem 23)).run Try.prog W = .ok 4 W := by kernel_rfl
theorem und_strs : Try.prog.underlying 35 = some (.slice 9) := by kernel_rfl
theorem lt_of_some {w : World} {k : Nat} {ob : Obj} (h : w.heap[k]? = some ob) : k < w.heap.size := by
  rcases Nat.lt_or_ge k w.heap.size with q | q
  · exact q
  · rw [Array.getElem?_eq_none q] at h; cases h
end Go.Proofs.Ytmagjdocondmhaa.Tr
