/-
  A slice that the call grows: owned above B, nothing below B turned since W.
-/
import Derived.Test.YtpagoinnkknkfaaSlc
namespace Go.Proofs.Ytpagoinnkknkfaa.Slc
open Go Go.RowKit
set_option linter.unusedVariables false

structure Gr {α : Type} (W : World) (B : Nat) (t : TypeId) (z : Nat) (enc : α → List Value) (wr : World) (v : Value) (l : List α) : Prop where
  own : Own wr B t z enc v l
  bel : Below B W wr
  le : B ≤ W.heap.size
section
variable {α : Type} {t : TypeId} {z : Nat} {enc : α → List Value} {W wr w1 w' : World} {B : Nat} {v v' : Value} {l m : List α}
theorem Gr.nil (W : World) (B : Nat) (h : B ≤ W.heap.size) : Gr W B t z enc W (.slice none 0 0) ([] : List α) := ⟨Own.nil _ _, Below.refl _ _, h⟩
theorem Gr.sz (h : Gr W B t z enc wr v l) : B ≤ wr.heap.size := Nat.le_trans h.le h.bel.size
theorem Gr.below (h : Gr W B t z enc wr v l) (hb : Below wr.heap.size wr w1) : Gr W B t z enc w1 v l := ⟨h.own.below hb, h.bel.trans (hb.mono h.sz), h.le⟩
theorem Gr.apd {a b : Nat} {xs news : List Value} (h : Gr W B t z enc wr v l) (hx : xs = l.flatMap enc) (hy : news = m.flatMap enc) (ha : a = l.length) (hb : b = m.length) (h' : Apd wr B t z v a b xs news v' w') : Gr W B t z enc w' v' (l ++ m) :=
  ⟨h.own.apd hx hy ha hb h', h.bel.grown h'.grown h.sz fun k hk => (h.own.lt k hk).1, h.le⟩
theorem Gr.form (h : Gr W B t z enc wr v l) : ∃ ad c, v = .slice ad l.length c ∧ l.length ≤ c := h.own.rd.form
/-- what lies below B reads as it did -/
theorem Gr.rd {β : Type} {enc' : β → List Value} {u : Value} {r : List β} (h : Gr W B t z enc wr v l) (hr : Rd W enc' u r) (hu : ∀ k, u.ownBlock = some k → k < B) : Rd wr enc' u r := hr.keep h.bel.size fun k hk _ => h.bel.block k (hu k hk)
/-- one element in a block of its own -/
theorem src_new {w : World} {x : Nat} {y : α} (E : Enc z enc) (h : w.heap[x]? = some (.cells (enc y).toArray t (0, 0))) : SrcV w z (.slice (some ⟨x, 0, none⟩) 1 1) 1 ([y].flatMap enc) := by
  refine .ro _ _ _ _ (flat_len E [y]) (fun j u hj => ?_) (one_mem E [y])
  rw [add_at, Nat.zero_add]
  simp only [List.flatMap_cons, List.flatMap_nil, List.append_nil] at hj
  simp [World.cell?, h, hj]
end
end Go.Proofs.Ytpagoinnkknkfaa.Slc
