/-
  Regions that draw their order and whose calls may make memory: one walk of the lexical order, in the class of the worlds that agree with a given one on all that was there.
-/
import Derived.WalkKit
import Derived.BigQuiet
import Derived.Lib.Hide
namespace Go.Proofs.Ytbfgkcgnhgfkmaa
open Go.RowKit

/-- a world that has what w has, and perhaps more -/
structure Ext (w : World) where
  out : World
  bel : Below w.heap.size w out

theorem Ext.cell {w : World} (e : Ext w) {b o : Nat} (h : b < w.heap.size) : e.out.cell? ⟨b, o, none⟩ = w.cell? ⟨b, o, none⟩ := e.bel.cell (p := ⟨b, o, none⟩) h

/-- a callee's contract, met in such a world -/
theorem ext_of {P : Program} {f : FuncId} {args : Array Value} {w : World} {e : Ext w} {v : Value}
    (h : Calls P f args e.out fun r w' => r = .returned v ∧ Below e.out.heap.size e.out w') : Calls P f args e.out fun r w'' => r = .returned v ∧ ∃ e' : Ext w, w'' = e'.out :=
  h.mono fun _ _ ⟨he, hb⟩ => ⟨he, ⟨_, e.bel.trans (hb.mono e.bel.size)⟩, rfl⟩
theorem ext_of_same {P : Program} {f : FuncId} {args : Array Value} {w : World} {e : Ext w} {v : Value}
    (h : Calls P f args e.out fun r w' => r = .returned v ∧ e.out = w') : Calls P f args e.out fun r w'' => r = .returned v ∧ ∃ e' : Ext w, w'' = e'.out :=
  h.mono fun _ _ ⟨he, hb⟩ => ⟨he, e, hb.symm⟩

/-- one walk of the lexical order serves every order -/
theorem wp_region_ext {P : Program} {id : Nat} {Q : Exit → Act → World → Prop} {a : Act} {w : World} (e0 : Ext w) {l : List Oper} (hm : P.follows .mixedOrders = true) (hB : Region.lexB .any l.toArray = true)
    (h : wpQuiet P l.toArray (fun w' => ∃ e : Ext w, w' = e.out) (fun a' => ∀ w', (∃ e : Ext w, w' = e.out) → Q .normal a' w') l a) : (Code.region id l.toArray true).wp P Q a e0.out :=
  wp_region_quiet (C := fun w' => ∃ e : Ext w, w' = e.out) hm hB ⟨⟨_, e0.bel.drew⟩, rfl⟩ (by simpa using h)
def Ext.self (w : World) : Ext w := ⟨w, Below.refl _ _⟩
instance Ext.some (w : World) : Nonempty (Ext w) := ⟨Ext.self w⟩
/-- the same from the world itself -/
theorem wp_region_self {P : Program} {id : Nat} {Q : Exit → Act → World → Prop} {a : Act} {w : World} {l : List Oper} (hm : P.follows .mixedOrders = true) (hB : Region.lexB .any l.toArray = true)
    (h : wpQuiet P l.toArray (fun w' => ∃ e : Ext w, w' = e.out) (fun a' => ∀ w', (∃ e : Ext w, w' = e.out) → Q .normal a' w') l a) : (Code.region id l.toArray true).wp P Q a w :=
  wp_region_ext (Ext.self w) hm hB h

/-- the world behind a call, or behind a step, is one of the class again -/
theorem Ext.next {w w' : World} (e : Ext w) (h : Below e.out.heap.size e.out w') : ∃ e' : Ext w, w' = e'.out := ⟨⟨_, e.bel.trans (h.mono e.bel.size)⟩, rfl⟩

/-- a store into the block that the call made first -/
theorem below_own {w a w' : World} (h : Below w.heap.size a w') (o : Nat) (v : Value) : Below w.heap.size a (w'.setCell ⟨w.heap.size, o, none⟩ v) := h.setCell (Nat.le_refl _) v

end Go.Proofs.Ytbfgkcgnhgfkmaa
