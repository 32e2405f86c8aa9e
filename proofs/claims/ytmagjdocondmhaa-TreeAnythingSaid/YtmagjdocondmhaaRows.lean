/-
  No cell of these rows narrows 'for every input' (looked for: loops, veiled, ifaces, maps, wideKeys, modest, calm, conditions, laid).
  DERIVED. THE GIVEN ROWS OF THIS SEAT. 7 by the template 'for every input the law returns true; each argument reads behind the call as it read before'; 0 by the template 'total and deterministic' (their statements: YtmagjdocondmhaaTotals.lean).
  GIVEN WITH THE SEED: the statements are not yours to turn. If you find one false, say at which input.
  Laid BY PROGRAM, IN A SANDBOX (cutbox-rows.mjs): the forced cells as the released guide's own fill.sh prints them over the translation a5f78418f73cae32… (all of the seat's roots in one cut). By AI agents, Wed Nov 11 2026. No macro, syntax, notation, axiom, sorry.
-/
import Derived.Test.YtmagjdocondmhaaChecked
import GoSem.Claim
import GoSem.ClaimJoined
import GoSem.ClaimMapViews
import Derived.JoinedTies
import Derived.KernelRfl
namespace Go.Proofs.Ytmagjdocondmhaa
/- THE CELL 'sum', in the pinned program and in every row, IS THE sha256 OF THE DUMP (.gsa) THAT YtmagjdocondmhaaProg.lean LOADS. Nothing in Lean hashes anything: it is a label: what it is worth is what the hold of that sum in a sandbox is worth. -/
noncomputable def Try.pinned : Pinned := { name := "ytmagjdocondmhaa", sum := "a5f78418f73cae32a9d1c015267a032bd99095cfe5061c8dd94a2b994a2920c9", checked := Try.checked }
namespace Rows
def none {H : Type} : Left H := { results := [], args := [] }

/-- 'certpathlaw31.TreeValid': WHATEVER THE INPUT: true; the input reads as it did. -/
def treeValidSpec : ChangeSpec := { name := "treeValid", fn := fun _ => fun
  | [d1, d2, d3] => { results := [.lit (.bool true)], args := [d1, d2, d3] }
  | _ => none }
def treeValidRow : OpenClaim := { program := "ytmagjdocondmhaa", sum := "a5f78418f73cae32a9d1c015267a032bd99095cfe5061c8dd94a2b994a2920c9", func := "certpath/certpathlaw31.TreeValid", spec := "treeValid", unfollowed := true, recurses := true, apart := false }
def TreeValidSaid : Prop := treeValidRow.holds Try.pinned (OpenSpec.ofChange treeValidSpec)

/-- ITS FALSE NEIGHBOUR: 'it returns false'. Refute it at one input. -/
def treeValidWrong : ChangeSpec := { name := "treeValid", fn := fun _ => fun
  | [d1, d2, d3] => { results := [.lit (.bool false)], args := [d1, d2, d3] }
  | _ => none }
def TreeValidWrongFalsely : Prop := treeValidRow.holds Try.pinned (OpenSpec.ofChange treeValidWrong)

/-- 'certpathlaw31.TreeEnters': WHATEVER THE INPUT: true; the input reads as it did. -/
def treeEntersSpec : ChangeSpec := { name := "treeEnters", fn := fun _ => fun
  | [d1, d2] => { results := [.lit (.bool true)], args := [d1, d2] }
  | _ => none }
def treeEntersRow : OpenClaim := { program := "ytmagjdocondmhaa", sum := "a5f78418f73cae32a9d1c015267a032bd99095cfe5061c8dd94a2b994a2920c9", func := "certpath/certpathlaw31.TreeEnters", spec := "treeEnters", unfollowed := true, recurses := true, apart := false }
def TreeEntersSaid : Prop := treeEntersRow.holds Try.pinned (OpenSpec.ofChange treeEntersSpec)

/-- ITS FALSE NEIGHBOUR: 'it returns false'. Refute it at one input. -/
def treeEntersWrong : ChangeSpec := { name := "treeEnters", fn := fun _ => fun
  | [d1, d2] => { results := [.lit (.bool false)], args := [d1, d2] }
  | _ => none }
def TreeEntersWrongFalsely : Prop := treeEntersRow.holds Try.pinned (OpenSpec.ofChange treeEntersWrong)

/-- 'certpathlaw31.TreeMaps': WHATEVER THE INPUT: true; the input reads as it did. -/
def treeMapsSpec : ChangeSpec := { name := "treeMaps", fn := fun _ => fun
  | [d1, d2] => { results := [.lit (.bool true)], args := [d1, d2] }
  | _ => none }
def treeMapsRow : OpenClaim := { program := "ytmagjdocondmhaa", sum := "a5f78418f73cae32a9d1c015267a032bd99095cfe5061c8dd94a2b994a2920c9", func := "certpath/certpathlaw31.TreeMaps", spec := "treeMaps", unfollowed := true, recurses := true, apart := false }
def TreeMapsSaid : Prop := treeMapsRow.holds Try.pinned (OpenSpec.ofChange treeMapsSpec)

/-- ITS FALSE NEIGHBOUR: 'it returns false'. Refute it at one input. -/
def treeMapsWrong : ChangeSpec := { name := "treeMaps", fn := fun _ => fun
  | [d1, d2] => { results := [.lit (.bool false)], args := [d1, d2] }
  | _ => none }
def TreeMapsWrongFalsely : Prop := treeMapsRow.holds Try.pinned (OpenSpec.ofChange treeMapsWrong)

/-- 'certpathlaw31.TreeRestricts': WHATEVER THE INPUT: true; the input reads as it did. -/
def treeRestrictsSpec : ChangeSpec := { name := "treeRestricts", fn := fun _ => fun
  | [d] => { results := [.lit (.bool true)], args := [d] }
  | _ => none }
def treeRestrictsRow : OpenClaim := { program := "ytmagjdocondmhaa", sum := "a5f78418f73cae32a9d1c015267a032bd99095cfe5061c8dd94a2b994a2920c9", func := "certpath/certpathlaw31.TreeRestricts", spec := "treeRestricts", unfollowed := true, recurses := true, apart := false }
def TreeRestrictsSaid : Prop := treeRestrictsRow.holds Try.pinned (OpenSpec.ofChange treeRestrictsSpec)

/-- ITS FALSE NEIGHBOUR: 'it returns false'. Refute it at one input. -/
def treeRestrictsWrong : ChangeSpec := { name := "treeRestricts", fn := fun _ => fun
  | [d] => { results := [.lit (.bool false)], args := [d] }
  | _ => none }
def TreeRestrictsWrongFalsely : Prop := treeRestrictsRow.holds Try.pinned (OpenSpec.ofChange treeRestrictsWrong)

/-- 'certpathlaw31.TreeAnything': WHATEVER THE INPUT: true; the input reads as it did. -/
def treeAnythingSpec : ChangeSpec := { name := "treeAnything", fn := fun _ => fun
  | [d1, d2, d3, d4, d5] => { results := [.lit (.bool true)], args := [d1, d2, d3, d4, d5] }
  | _ => none }
def treeAnythingRow : OpenClaim := { program := "ytmagjdocondmhaa", sum := "a5f78418f73cae32a9d1c015267a032bd99095cfe5061c8dd94a2b994a2920c9", func := "certpath/certpathlaw31.TreeAnything", spec := "treeAnything", unfollowed := true, recurses := true, apart := false }
def TreeAnythingSaid : Prop := treeAnythingRow.holds Try.pinned (OpenSpec.ofChange treeAnythingSpec)

/-- ITS FALSE NEIGHBOUR: 'it returns false'. Refute it at one input. -/
def treeAnythingWrong : ChangeSpec := { name := "treeAnything", fn := fun _ => fun
  | [d1, d2, d3, d4, d5] => { results := [.lit (.bool false)], args := [d1, d2, d3, d4, d5] }
  | _ => none }
def TreeAnythingWrongFalsely : Prop := treeAnythingRow.holds Try.pinned (OpenSpec.ofChange treeAnythingWrong)

/-- 'certpathlaw31.TreeStaysValid': WHATEVER THE INPUT: true; the input reads as it did. -/
def treeStaysValidSpec : ChangeSpec := { name := "treeStaysValid", fn := fun _ => fun
  | [d] => { results := [.lit (.bool true)], args := [d] }
  | _ => none }
def treeStaysValidRow : OpenClaim := { program := "ytmagjdocondmhaa", sum := "a5f78418f73cae32a9d1c015267a032bd99095cfe5061c8dd94a2b994a2920c9", func := "certpath/certpathlaw31.TreeStaysValid", spec := "treeStaysValid", unfollowed := true, recurses := true, apart := false }
def TreeStaysValidSaid : Prop := treeStaysValidRow.holds Try.pinned (OpenSpec.ofChange treeStaysValidSpec)

/-- ITS FALSE NEIGHBOUR: 'it returns false'. Refute it at one input. -/
def treeStaysValidWrong : ChangeSpec := { name := "treeStaysValid", fn := fun _ => fun
  | [d] => { results := [.lit (.bool false)], args := [d] }
  | _ => none }
def TreeStaysValidWrongFalsely : Prop := treeStaysValidRow.holds Try.pinned (OpenSpec.ofChange treeStaysValidWrong)

/-- 'certpathlaw31.TreeLimit': WHATEVER THE INPUT: true; the input reads as it did. -/
def treeLimitSpec : ChangeSpec := { name := "treeLimit", fn := fun _ => fun
  | [d] => { results := [.lit (.bool true)], args := [d] }
  | _ => none }
def treeLimitRow : OpenClaim := { program := "ytmagjdocondmhaa", sum := "a5f78418f73cae32a9d1c015267a032bd99095cfe5061c8dd94a2b994a2920c9", func := "certpath/certpathlaw31.TreeLimit", spec := "treeLimit", unfollowed := true, recurses := true, apart := false }
def TreeLimitSaid : Prop := treeLimitRow.holds Try.pinned (OpenSpec.ofChange treeLimitSpec)

/-- ITS FALSE NEIGHBOUR: 'it returns false'. Refute it at one input. -/
def treeLimitWrong : ChangeSpec := { name := "treeLimit", fn := fun _ => fun
  | [d] => { results := [.lit (.bool false)], args := [d] }
  | _ => none }
def TreeLimitWrongFalsely : Prop := treeLimitRow.holds Try.pinned (OpenSpec.ofChange treeLimitWrong)

/- THE SECOND FORM. 'bulk': how many values and letters a reading holds, each counted each time it is reached (what is shared counts as often as it is met; a slice's spare places count too). A statement '..UptoSaid' is the law's where the arguments, and the package variables that the reading takes, are together of bulk at most 1048576: NARROWER than '..Said'. Prove '..Said' where nothing that the law and all that it calls make is longer than what came in: it says more and counts as full. Else prove '..UptoSaid'. A law counts once. -/
mutual
def uptoBulk {H : Type} : DataW H → Nat
  | .lit (.string bytes) => bytes.length + 1
  | .lit _ => 1
  | .nil => 1
  | .ptr d => uptoBulk d + 1
  | .slice elems spare => uptoBulkAll elems + uptoBulkAll spare + 1
  | .agg parts => uptoBulkAll parts + 1
  | .iface _ d => uptoBulk d + 1
  | .map entries => uptoBulkEntries entries + 1
  | .held _ => 1
def uptoBulkAll {H : Type} : List (DataW H) → Nat
  | [] => 0
  | d :: r => uptoBulk d + uptoBulkAll r
def uptoBulkEntries {H : Type} : List (Lit × DataW H) → Nat
  | [] => 0
  | x :: r => uptoBulkEntry x + uptoBulkEntries r
def uptoBulkEntry {H : Type} : Lit × DataW H → Nat
  | (.string bytes, d) => bytes.length + uptoBulk d + 1
  | (_, d) => uptoBulk d + 1
 end
def uptoSmall : (H : Type) → List (DataW H) → Bool := fun _ ds => decide (uptoBulkAll ds ≤ 1048576)
def OpenSpec.upto (s : _root_.Go.ChangeSpec) : _root_.Go.OpenSpec := { _root_.Go.OpenSpec.ofChange s with cond := some uptoSmall }

/-- 'certpathlaw31.TreeValid', WHERE WHAT IT READS IS OF BULK AT MOST 1048576: true; the input reads as it did. -/
def treeValidUptoRow : OpenClaim := { program := "ytmagjdocondmhaa", sum := "a5f78418f73cae32a9d1c015267a032bd99095cfe5061c8dd94a2b994a2920c9", func := "certpath/certpathlaw31.TreeValid", spec := "treeValid", unfollowed := true, recurses := true, apart := false, narrowed := true }
def TreeValidUptoSaid : Prop := treeValidUptoRow.holds Try.pinned (OpenSpec.upto treeValidSpec)

/-- 'certpathlaw31.TreeEnters', WHERE WHAT IT READS IS OF BULK AT MOST 1048576: true; the input reads as it did. -/
def treeEntersUptoRow : OpenClaim := { program := "ytmagjdocondmhaa", sum := "a5f78418f73cae32a9d1c015267a032bd99095cfe5061c8dd94a2b994a2920c9", func := "certpath/certpathlaw31.TreeEnters", spec := "treeEnters", unfollowed := true, recurses := true, apart := false, narrowed := true }
def TreeEntersUptoSaid : Prop := treeEntersUptoRow.holds Try.pinned (OpenSpec.upto treeEntersSpec)

/-- 'certpathlaw31.TreeMaps', WHERE WHAT IT READS IS OF BULK AT MOST 1048576: true; the input reads as it did. -/
def treeMapsUptoRow : OpenClaim := { program := "ytmagjdocondmhaa", sum := "a5f78418f73cae32a9d1c015267a032bd99095cfe5061c8dd94a2b994a2920c9", func := "certpath/certpathlaw31.TreeMaps", spec := "treeMaps", unfollowed := true, recurses := true, apart := false, narrowed := true }
def TreeMapsUptoSaid : Prop := treeMapsUptoRow.holds Try.pinned (OpenSpec.upto treeMapsSpec)

/-- 'certpathlaw31.TreeRestricts', WHERE WHAT IT READS IS OF BULK AT MOST 1048576: true; the input reads as it did. -/
def treeRestrictsUptoRow : OpenClaim := { program := "ytmagjdocondmhaa", sum := "a5f78418f73cae32a9d1c015267a032bd99095cfe5061c8dd94a2b994a2920c9", func := "certpath/certpathlaw31.TreeRestricts", spec := "treeRestricts", unfollowed := true, recurses := true, apart := false, narrowed := true }
def TreeRestrictsUptoSaid : Prop := treeRestrictsUptoRow.holds Try.pinned (OpenSpec.upto treeRestrictsSpec)

/-- 'certpathlaw31.TreeAnything', WHERE WHAT IT READS IS OF BULK AT MOST 1048576: true; the input reads as it did. -/
def treeAnythingUptoRow : OpenClaim := { program := "ytmagjdocondmhaa", sum := "a5f78418f73cae32a9d1c015267a032bd99095cfe5061c8dd94a2b994a2920c9", func := "certpath/certpathlaw31.TreeAnything", spec := "treeAnything", unfollowed := true, recurses := true, apart := false, narrowed := true }
def TreeAnythingUptoSaid : Prop := treeAnythingUptoRow.holds Try.pinned (OpenSpec.upto treeAnythingSpec)

/-- 'certpathlaw31.TreeStaysValid', WHERE WHAT IT READS IS OF BULK AT MOST 1048576: true; the input reads as it did. -/
def treeStaysValidUptoRow : OpenClaim := { program := "ytmagjdocondmhaa", sum := "a5f78418f73cae32a9d1c015267a032bd99095cfe5061c8dd94a2b994a2920c9", func := "certpath/certpathlaw31.TreeStaysValid", spec := "treeStaysValid", unfollowed := true, recurses := true, apart := false, narrowed := true }
def TreeStaysValidUptoSaid : Prop := treeStaysValidUptoRow.holds Try.pinned (OpenSpec.upto treeStaysValidSpec)

/-- 'certpathlaw31.TreeLimit', WHERE WHAT IT READS IS OF BULK AT MOST 1048576: true; the input reads as it did. -/
def treeLimitUptoRow : OpenClaim := { program := "ytmagjdocondmhaa", sum := "a5f78418f73cae32a9d1c015267a032bd99095cfe5061c8dd94a2b994a2920c9", func := "certpath/certpathlaw31.TreeLimit", spec := "treeLimit", unfollowed := true, recurses := true, apart := false, narrowed := true }
def TreeLimitUptoSaid : Prop := treeLimitUptoRow.holds Try.pinned (OpenSpec.upto treeLimitSpec)

end Rows
end Go.Proofs.Ytmagjdocondmhaa
