/-
  The form's own reach: what a string or a slice weighs.
-/
import Derived.SizedLaws
namespace Go.Proofs.Ytmagjdocondmhaa
open Go
theorem reach_string {H : Type} {P : Program} {ts : List TypeId} {ds : List (DataW H)} (h : (DataW.weightsEach P ts ds).all (· ≤ reachBytes) = true) (j : Nat) (t : TypeId) (s : ByteArray) (ht : ts[j]? = some t) (hd : ds[j]? = some (.lit (.string s.data.toList))) : s.size ≤ 140737488355328 := by
  have z := sized_string h ht hd
  rw [Array.length_toList] at z
  exact Nat.le_of_lt (Nat.lt_of_le_of_lt z reachBytes_lt)
end Go.Proofs.Ytmagjdocondmhaa
