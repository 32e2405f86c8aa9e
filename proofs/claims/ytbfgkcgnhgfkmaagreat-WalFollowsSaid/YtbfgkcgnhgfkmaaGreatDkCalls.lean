/-
  An argument []Call, opened to the calls that it holds.
-/
import Derived.Test.YtbfgkcgnhgfkmaaGreatDkDo
import Derived.Deep.Slices
import Derived.Deep.Fields
import Derived.ChangeSame
import Derived.OpenShut
import Derived.ProofKit
namespace Go.Proofs.YtbfgkcgnhgfkmaaGreat.Dk
open Go Go.ChangeShapes Go.WideShapes Go.RowKit Go.Deep Go.Proofs.YtbfgkcgnhgfkmaaGreat.Slc
set_option linter.unusedVariables false
set_option linter.unusedSimpArgs false
set_option maxRecDepth 10000

/-- what an argument's call fulfils -/
structure Cl.In (c : Cl) : Prop where
  ok : c.Ok
  name : c.name.length ≤ 9223372036854775807
  data : c.data.length ≤ 9223372036854775807
theorem i64_of {n : Int} (h : (Lit.int .i64 n).wf = true) : i64ok n := by
  have := bounds_i64 h; exact ⟨this.1, this.2⟩
/-- an argument []Call that holds the calls l -/
def Arg (W : World) (v : Value) (l : List Cl) : Prop :=
  ∃ ad c, v = .slice ad l.length c ∧ ∀ k (hk : k < l.length), ∃ b o, ad = some ⟨b, o, none⟩ ∧ b < W.heap.size ∧ ∀ j u, l[k].cells[j]? = some u → W.cell? ⟨b, o + (k * 8 + j), none⟩ = some u
theorem Arg.below {W W' : World} {v : Value} {l : List Cl} (h : Arg W v l) (hb : Below W.heap.size W W') : Arg W' v l := by
  obtain ⟨ad, c, rfl, hx⟩ := h
  refine ⟨ad, c, rfl, fun k hk => ?_⟩
  obtain ⟨b, o, h1, h2, h3⟩ := hx k hk
  refine ⟨b, o, h1, Nat.lt_of_lt_of_le h2 hb.size, fun j u hj => ?_⟩
  rw [← h3 j u hj]
  unfold World.cell?
  rw [hb.block b h2]
theorem cells_len (c : Cl) : c.cells.length = 8 := rfl
theorem add_at' (b o k : Nat) : (Addr.mk b o none).add k = ⟨b, o + k, none⟩ := by
  unfold Addr.add; split
  · simp [*]
  · rfl
end Go.Proofs.YtbfgkcgnhgfkmaaGreat.Dk
