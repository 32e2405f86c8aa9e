/-
  A region of a function's text, by its number: so that a walk of the region can be a theorem of its own.
-/
import Derived.Test.YtmagjdocondmhaaTail
namespace Go.Proofs.Ytmagjdocondmhaa
open Go

/-- the region with a number -/
def regC (n : Nat) : Code → Code
  | .region id ops d => if id = n then .region id ops d else .skip
  | .seq a b => match regC n a with | .skip => regC n b | c => c
  | .cond _ a b => match regC n a with | .skip => regC n b | c => c
  | .block _ b => regC n b
  | .loop b => regC n b
  | .scope b => regC n b
  | .rangeFunc _ _ a b => match regC n a with | .skip => regC n b | c => c
  | _ => .skip
end Go.Proofs.Ytmagjdocondmhaa
