/-
  Names that lie in given blocks; slices of entries that the call owns.
-/
import Derived.Test.YtpagoinnkknkfaaPbFirstP
namespace Go.Proofs.Ytpagoinnkknkfaa.Pb
open Go Go.RowKit Go.Proofs.Ytpagoinnkknkfaa.Slc
set_option linter.unusedVariables false
set_option linter.unusedSimpArgs false

def RdIn {α : Type} (w : World) (S : Nat → Prop) (enc : α → List Value) (v : Value) (l : List α) : Prop := Rd w enc v l ∧ ∀ k, v.ownBlock = some k → S k
theorem RdIn.keep {α : Type} {w w' : World} {S : Nat → Prop} {enc : α → List Value} {v : Value} {l : List α} (h : RdIn w S enc v l) (hs : w.heap.size ≤ w'.heap.size) (hb : ∀ k, S k → k < w.heap.size → w'.heap[k]? = w.heap[k]?) : RdIn w' S enc v l := ⟨h.1.keep hs fun k hk hlt => hb k (h.2 k hk) hlt, h.2⟩
theorem RdIn.mono {α : Type} {w : World} {S S' : Nat → Prop} {enc : α → List Value} {v : Value} {l : List α} (h : RdIn w S enc v l) (hS : ∀ k, k < w.heap.size → S k → S' k) : RdIn w S' enc v l := ⟨h.1, fun k hk => hS k (h.1.lt k hk) (h.2 k hk)⟩
def NameIn (w : World) (S : Nat → Prop) (v : Value) (n : Nm) : Prop :=
  ∃ vs : List Sl, RdIn w S encV1 v vs ∧ ∃ hl : vs.length = n.length, ∀ i (h : i < n.length), RdIn w S encA (vs[i]'(by omega)).val [n[i]]
theorem NameIn.keep {w w' : World} {S : Nat → Prop} {v : Value} {n : Nm} (h : NameIn w S v n) (hs : w.heap.size ≤ w'.heap.size) (hb : ∀ k, S k → k < w.heap.size → w'.heap[k]? = w.heap[k]?) : NameIn w' S v n := by
  obtain ⟨vs, h1, hl, h2⟩ := h
  exact ⟨vs, h1.keep hs hb, hl, fun i hi => (h2 i hi).keep hs hb⟩
theorem NameIn.mono {w : World} {S S' : Nat → Prop} {v : Value} {n : Nm} (h : NameIn w S v n) (hS : ∀ k, k < w.heap.size → S k → S' k) : NameIn w S' v n := by
  obtain ⟨vs, h1, hl, h2⟩ := h
  exact ⟨vs, h1.mono hS, hl, fun i hi => (h2 i hi).mono hS⟩
theorem NameIn.nat {w : World} {S : Nat → Prop} {v : Value} {n : Nm} (h : NameIn w S v n) : NameAt w v n := by
  obtain ⟨vs, h1, hl, h2⟩ := h
  exact ⟨vs, h1.1, hl, fun i hi => (h2 i hi).1⟩
theorem NameIn.of {w : World} {v : Value} {n : Nm} (h : NameAt w v n) : NameIn w (fun k => k < w.heap.size) v n := by
  obtain ⟨vs, h1, hl, h2⟩ := h
  exact ⟨vs, ⟨h1, h1.lt⟩, hl, fun i hi => ⟨h2 i hi, (h2 i hi).lt⟩⟩
theorem NameIn.below {w w' : World} {S : Nat → Prop} {v : Value} {n : Nm} (h : NameIn w S v n) (hb : Below w.heap.size w w') : NameIn w' S v n := h.keep hb.size fun k _ hk => hb.block k hk
/-- an entry whose issuer lies in given blocks -/
def EtIn (w : World) (S : Nat → Prop) (x : Et) : Prop := NameIn w S x.u.val x.e.iss ∧ Nm.Ok x.e.iss
theorem EtIn.of {w : World} {x : Et} (h : EtAt w x) : EtIn w (fun k => k < w.heap.size) x := ⟨NameIn.of h.1, h.2⟩
theorem EtIn.keep {w w' : World} {S : Nat → Prop} {x : Et} (h : EtIn w S x) (hs : w.heap.size ≤ w'.heap.size) (hb : ∀ k, S k → k < w.heap.size → w'.heap[k]? = w.heap[k]?) : EtIn w' S x := ⟨h.1.keep hs hb, h.2⟩
theorem EtIn.mono {w : World} {S S' : Nat → Prop} {x : Et} (h : EtIn w S x) (hS : ∀ k, k < w.heap.size → S k → S' k) : EtIn w S' x := ⟨h.1.mono hS, h.2⟩
theorem EtIn.below {w w' : World} {S : Nat → Prop} {x : Et} (h : EtIn w S x) (hb : Below w.heap.size w w') : EtIn w' S x := ⟨h.1.below hb, h.2⟩
theorem EtIn.at_ {w : World} {S : Nat → Prop} {x : Et} (h : EtIn w S x) : EtAt w x := ⟨h.1.nat, h.2⟩
/-- a slice of entries that the call owns; the issuers lie in other blocks -/
structure EO (w : World) (B : Nat) (v : Value) (l : List Et) : Prop where
  own : Own w B 44 5 encE v l
  nm : ∀ x ∈ l, EtIn w (fun k => v.ownBlock ≠ some k) x
theorem EO.el {w : World} {B : Nat} {v : Value} {l : List Et} (h : EO w B v l) : EL w v l := ⟨h.own.rd, fun x hx => (h.nm x hx).at_⟩
theorem EO.below {w w' : World} {B : Nat} {v : Value} {l : List Et} (h : EO w B v l) (hb : Below w.heap.size w w') : EO w' B v l := ⟨h.own.below hb, fun x hx => (h.nm x hx).below hb⟩
theorem EO.nil (w : World) (B : Nat) : EO w B (.slice none 0 0) [] := ⟨Own.nil _ _, fun x hx => by cases hx⟩
theorem EO.mono {w : World} {B B' : Nat} {v : Value} {l : List Et} (h : EO w B v l) (hB : B' ≤ B) : EO w B' v l := ⟨h.own.mono hB, h.nm⟩
/-- a slice that the call grows -/
structure GE (W : World) (B : Nat) (wr : World) (v : Value) (l : List Et) : Prop where
  eo : EO wr B v l
  bel : Below B W wr
  le : B ≤ W.heap.size
theorem GE.nil (W : World) (B : Nat) (h : B ≤ W.heap.size) : GE W B W (.slice none 0 0) [] := ⟨EO.nil _ _, Below.refl _ _, h⟩
theorem GE.sz {W wr : World} {B : Nat} {v : Value} {l : List Et} (h : GE W B wr v l) : B ≤ wr.heap.size := Nat.le_trans h.le h.bel.size
theorem GE.below {W wr w1 : World} {B : Nat} {v : Value} {l : List Et} (h : GE W B wr v l) (hb : Below wr.heap.size wr w1) : GE W B w1 v l := ⟨h.eo.below hb, h.bel.trans (hb.mono h.sz), h.le⟩
theorem GE.form {W wr : World} {B : Nat} {v : Value} {l : List Et} (h : GE W B wr v l) : ∃ ad c, v = .slice ad l.length c ∧ l.length ≤ c := h.eo.own.rd.form
theorem GE.apd {W wr w' : World} {B a b : Nat} {v v' : Value} {l m : List Et} {xs news : List Value} (h : GE W B wr v l) (hm : ∀ x ∈ m, EtIn wr (fun k => v.ownBlock ≠ some k) x) (hx : xs = l.flatMap encE) (hy : news = m.flatMap encE) (ha : a = l.length) (hb : b = m.length) (h' : Apd wr B 44 5 v a b xs news v' w') : GE W B w' v' (l ++ m) := by
  have key : ∀ x, EtIn wr (fun k => v.ownBlock ≠ some k) x → EtIn w' (fun k => v'.ownBlock ≠ some k) x := by
    intro x hx
    refine EtIn.mono (S := fun k => v.ownBlock ≠ some k ∧ k < wr.heap.size) ((hx.mono fun k hk h1 => ⟨h1, hk⟩).keep h'.grown.size fun k hk hlt => h'.grown.block k hlt fun e => hk.1 e.symm) ?_
    intro k _ hk e
    rcases h'.blk with q | q
    · exact hk.1 (by rw [← q]; exact e)
    · rw [q] at e; simp only [Option.some.injEq] at e; omega
  refine ⟨⟨h.eo.own.apd hx hy ha hb h', fun x hx => ?_⟩, h.bel.grown h'.grown h.sz fun k hk => (h.eo.own.lt k hk).1, h.le⟩
  rcases List.mem_append.1 hx with q | q
  · exact key x (h.eo.nm x q)
  · exact key x (hm x q)
/-- an entry that lies below B, beside a slice that is owned from B on -/
theorem EtAt.other {W wr : World} {B : Nat} {v : Value} {l : List Et} {x : Et} (h : GE W B wr v l) (hx : EtAt W x) (hB : ∀ k, k < W.heap.size → k < B) : EtIn wr (fun k => v.ownBlock ≠ some k) x :=
  EtIn.mono (S := fun k => k < W.heap.size) ((EtIn.of hx).keep h.bel.size fun k hk _ => h.bel.block k (hB k hk)) fun k _ hk e => by have := (h.eo.own.lt k e).1; have := hB k hk; omega
end Go.Proofs.Ytpagoinnkknkfaa.Pb
