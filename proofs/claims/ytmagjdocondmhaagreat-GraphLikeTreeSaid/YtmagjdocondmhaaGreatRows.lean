/-
  No cell of these rows narrows 'for every input' (looked for: loops, veiled, ifaces, maps, wideKeys, modest, calm, conditions, laid).
  DERIVED. THE GIVEN ROWS OF THIS SEAT. 7 by the template 'for every input the law returns true; each argument reads behind the call as it read before'; 0 by the template 'total and deterministic' (their statements: YtmagjdocondmhaaGreatTotals.lean).
  GIVEN WITH THE SEED: the statements are not yours to turn. If you find one false, say at which input.
  Laid BY PROGRAM, IN A SANDBOX (cutbox-rows.mjs): the forced cells as the released guide's own fill.sh prints them over the translation e0c85d8be9205f5b… (all of the seat's roots in one cut). By AI agents, Wed Nov 11 2026. No macro, syntax, notation, axiom, sorry.
-/
import Derived.Test.YtmagjdocondmhaaGreatChecked
import GoSem.Claim
import GoSem.ClaimJoined
import GoSem.ClaimMapViews
import Derived.JoinedTies
import Derived.KernelRfl
namespace Go.Proofs.YtmagjdocondmhaaGreat
/- THE CELL 'sum', in the pinned program and in every row, IS THE sha256 OF THE DUMP (.gsa) THAT YtmagjdocondmhaaGreatProg.lean LOADS. Nothing in Lean hashes anything: it is a label: what it is worth is what the hold of that sum in a sandbox is worth. -/
noncomputable def Tryz.pinned : Pinned := { name := "ytmagjdocondmhaagreat", sum := "e0c85d8be9205f5b6b3994a7ffb5100f8f3de0f0375d1d080bdd2fe3f460c052", checked := Tryz.checked }
namespace Rows
def none {H : Type} : Left H := { results := [], args := [] }

/-- 'certpathlaw32.GraphValid': WHATEVER THE INPUT: true; the input reads as it did. -/
def graphValidSpec : ChangeSpec := { name := "graphValid", fn := fun _ => fun
  | [d1, d2] => { results := [.lit (.bool true)], args := [d1, d2] }
  | _ => none }
def graphValidRow : OpenClaim := { program := "ytmagjdocondmhaagreat", sum := "e0c85d8be9205f5b6b3994a7ffb5100f8f3de0f0375d1d080bdd2fe3f460c052", func := "certpath/certpathlaw32.GraphValid", spec := "graphValid", inPlace := ["slices.overlaps[certpath/api.PolicyVertex]"], unfollowed := true, recurses := true, apart := false }
def GraphValidSaid : Prop := graphValidRow.holds Tryz.pinned (OpenSpec.ofChange graphValidSpec)

/-- ITS FALSE NEIGHBOUR: 'it returns false'. Refute it at one input. -/
def graphValidWrong : ChangeSpec := { name := "graphValid", fn := fun _ => fun
  | [d1, d2] => { results := [.lit (.bool false)], args := [d1, d2] }
  | _ => none }
def GraphValidWrongFalsely : Prop := graphValidRow.holds Tryz.pinned (OpenSpec.ofChange graphValidWrong)

/-- 'certpathlaw32.GraphEnters': WHATEVER THE INPUT: true; the input reads as it did. -/
def graphEntersSpec : ChangeSpec := { name := "graphEnters", fn := fun _ => fun
  | [d1, d2] => { results := [.lit (.bool true)], args := [d1, d2] }
  | _ => none }
def graphEntersRow : OpenClaim := { program := "ytmagjdocondmhaagreat", sum := "e0c85d8be9205f5b6b3994a7ffb5100f8f3de0f0375d1d080bdd2fe3f460c052", func := "certpath/certpathlaw32.GraphEnters", spec := "graphEnters", inPlace := ["slices.overlaps[certpath/api.PolicyVertex]"], unfollowed := true, recurses := true, apart := false }
def GraphEntersSaid : Prop := graphEntersRow.holds Tryz.pinned (OpenSpec.ofChange graphEntersSpec)

/-- ITS FALSE NEIGHBOUR: 'it returns false'. Refute it at one input. -/
def graphEntersWrong : ChangeSpec := { name := "graphEnters", fn := fun _ => fun
  | [d1, d2] => { results := [.lit (.bool false)], args := [d1, d2] }
  | _ => none }
def GraphEntersWrongFalsely : Prop := graphEntersRow.holds Tryz.pinned (OpenSpec.ofChange graphEntersWrong)

/-- 'certpathlaw32.GraphMaps': WHATEVER THE INPUT: true; the input reads as it did. -/
def graphMapsSpec : ChangeSpec := { name := "graphMaps", fn := fun _ => fun
  | [d1, d2] => { results := [.lit (.bool true)], args := [d1, d2] }
  | _ => none }
def graphMapsRow : OpenClaim := { program := "ytmagjdocondmhaagreat", sum := "e0c85d8be9205f5b6b3994a7ffb5100f8f3de0f0375d1d080bdd2fe3f460c052", func := "certpath/certpathlaw32.GraphMaps", spec := "graphMaps", inPlace := ["slices.overlaps[certpath/api.PolicyVertex]"], unfollowed := true, recurses := true, apart := false }
def GraphMapsSaid : Prop := graphMapsRow.holds Tryz.pinned (OpenSpec.ofChange graphMapsSpec)

/-- ITS FALSE NEIGHBOUR: 'it returns false'. Refute it at one input. -/
def graphMapsWrong : ChangeSpec := { name := "graphMaps", fn := fun _ => fun
  | [d1, d2] => { results := [.lit (.bool false)], args := [d1, d2] }
  | _ => none }
def GraphMapsWrongFalsely : Prop := graphMapsRow.holds Tryz.pinned (OpenSpec.ofChange graphMapsWrong)

/-- 'certpathlaw32.GraphRestricts': WHATEVER THE INPUT: true; the input reads as it did. -/
def graphRestrictsSpec : ChangeSpec := { name := "graphRestricts", fn := fun _ => fun
  | [d] => { results := [.lit (.bool true)], args := [d] }
  | _ => none }
def graphRestrictsRow : OpenClaim := { program := "ytmagjdocondmhaagreat", sum := "e0c85d8be9205f5b6b3994a7ffb5100f8f3de0f0375d1d080bdd2fe3f460c052", func := "certpath/certpathlaw32.GraphRestricts", spec := "graphRestricts", inPlace := ["slices.overlaps[certpath/api.PolicyVertex]"], unfollowed := true, recurses := true, apart := false }
def GraphRestrictsSaid : Prop := graphRestrictsRow.holds Tryz.pinned (OpenSpec.ofChange graphRestrictsSpec)

/-- ITS FALSE NEIGHBOUR: 'it returns false'. Refute it at one input. -/
def graphRestrictsWrong : ChangeSpec := { name := "graphRestricts", fn := fun _ => fun
  | [d] => { results := [.lit (.bool false)], args := [d] }
  | _ => none }
def GraphRestrictsWrongFalsely : Prop := graphRestrictsRow.holds Tryz.pinned (OpenSpec.ofChange graphRestrictsWrong)

/-- 'certpathlaw32.GraphAnything': WHATEVER THE INPUT: true; the input reads as it did. -/
def graphAnythingSpec : ChangeSpec := { name := "graphAnything", fn := fun _ => fun
  | [d1, d2, d3, d4] => { results := [.lit (.bool true)], args := [d1, d2, d3, d4] }
  | _ => none }
def graphAnythingRow : OpenClaim := { program := "ytmagjdocondmhaagreat", sum := "e0c85d8be9205f5b6b3994a7ffb5100f8f3de0f0375d1d080bdd2fe3f460c052", func := "certpath/certpathlaw32.GraphAnything", spec := "graphAnything", inPlace := ["slices.overlaps[certpath/api.PolicyVertex]"], unfollowed := true, recurses := true, apart := false }
def GraphAnythingSaid : Prop := graphAnythingRow.holds Tryz.pinned (OpenSpec.ofChange graphAnythingSpec)

/-- ITS FALSE NEIGHBOUR: 'it returns false'. Refute it at one input. -/
def graphAnythingWrong : ChangeSpec := { name := "graphAnything", fn := fun _ => fun
  | [d1, d2, d3, d4] => { results := [.lit (.bool false)], args := [d1, d2, d3, d4] }
  | _ => none }
def GraphAnythingWrongFalsely : Prop := graphAnythingRow.holds Tryz.pinned (OpenSpec.ofChange graphAnythingWrong)

/-- 'certpathlaw32.GraphStaysSmall': WHATEVER THE INPUT: true; the input reads as it did. -/
def graphStaysSmallSpec : ChangeSpec := { name := "graphStaysSmall", fn := fun _ => fun
  | [d1, d2] => { results := [.lit (.bool true)], args := [d1, d2] }
  | _ => none }
def graphStaysSmallRow : OpenClaim := { program := "ytmagjdocondmhaagreat", sum := "e0c85d8be9205f5b6b3994a7ffb5100f8f3de0f0375d1d080bdd2fe3f460c052", func := "certpath/certpathlaw32.GraphStaysSmall", spec := "graphStaysSmall", inPlace := ["slices.overlaps[certpath/api.PolicyVertex]"], unfollowed := true, recurses := true, apart := false }
def GraphStaysSmallSaid : Prop := graphStaysSmallRow.holds Tryz.pinned (OpenSpec.ofChange graphStaysSmallSpec)

/-- ITS FALSE NEIGHBOUR: 'it returns false'. Refute it at one input. -/
def graphStaysSmallWrong : ChangeSpec := { name := "graphStaysSmall", fn := fun _ => fun
  | [d1, d2] => { results := [.lit (.bool false)], args := [d1, d2] }
  | _ => none }
def GraphStaysSmallWrongFalsely : Prop := graphStaysSmallRow.holds Tryz.pinned (OpenSpec.ofChange graphStaysSmallWrong)

/-- 'certpathlaw32.GraphLikeTree': WHATEVER THE INPUT: true; the input reads as it did. -/
def graphLikeTreeSpec : ChangeSpec := { name := "graphLikeTree", fn := fun _ => fun
  | [d] => { results := [.lit (.bool true)], args := [d] }
  | _ => none }
def graphLikeTreeRow : OpenClaim := { program := "ytmagjdocondmhaagreat", sum := "e0c85d8be9205f5b6b3994a7ffb5100f8f3de0f0375d1d080bdd2fe3f460c052", func := "certpath/certpathlaw32.GraphLikeTree", spec := "graphLikeTree", inPlace := ["slices.overlaps[certpath/api.PolicyVertex]"], unfollowed := true, recurses := true, apart := false }
def GraphLikeTreeSaid : Prop := graphLikeTreeRow.holds Tryz.pinned (OpenSpec.ofChange graphLikeTreeSpec)

/-- ITS FALSE NEIGHBOUR: 'it returns false'. Refute it at one input. -/
def graphLikeTreeWrong : ChangeSpec := { name := "graphLikeTree", fn := fun _ => fun
  | [d] => { results := [.lit (.bool false)], args := [d] }
  | _ => none }
def GraphLikeTreeWrongFalsely : Prop := graphLikeTreeRow.holds Tryz.pinned (OpenSpec.ofChange graphLikeTreeWrong)

/- THE SECOND FORM. 'bulk': how many values and letters a reading holds, each counted each time it is reached (what is shared counts as often as it is met; a slice's spare places count too). A statement '..UptoSaid' is the law's where the arguments, and the package variables that the reading takes, are together of bulk at most 1048576: NARROWER than '..Said'. Prove '..Said' where nothing that the law and all that it calls make is longer than what came in: it says more and counts as full. Else prove '..UptoSaid'. A law counts once. -/
mutual
def uptoBulk {H : Type} : DataW H → Nat
  | .lit (.string bytes) => bytes.length + 1
  | .lit _ => 1
  | .nil => 1
  | .ptr d => uptoBulk d + 1
  | .slice elems spare => uptoBulkAll elems + uptoBulkAll spare + 1
  | .agg parts => uptoBulkAll parts + 1
  | .iface _ d => uptoBulk d + 1
  | .map entries => uptoBulkEntries entries + 1
  | .held _ => 1
def uptoBulkAll {H : Type} : List (DataW H) → Nat
  | [] => 0
  | d :: r => uptoBulk d + uptoBulkAll r
def uptoBulkEntries {H : Type} : List (Lit × DataW H) → Nat
  | [] => 0
  | x :: r => uptoBulkEntry x + uptoBulkEntries r
def uptoBulkEntry {H : Type} : Lit × DataW H → Nat
  | (.string bytes, d) => bytes.length + uptoBulk d + 1
  | (_, d) => uptoBulk d + 1
 end
def uptoSmall : (H : Type) → List (DataW H) → Bool := fun _ ds => decide (uptoBulkAll ds ≤ 1048576)
def OpenSpec.upto (s : _root_.Go.ChangeSpec) : _root_.Go.OpenSpec := { _root_.Go.OpenSpec.ofChange s with cond := some uptoSmall }

/-- 'certpathlaw32.GraphValid', WHERE WHAT IT READS IS OF BULK AT MOST 1048576: true; the input reads as it did. -/
def graphValidUptoRow : OpenClaim := { program := "ytmagjdocondmhaagreat", sum := "e0c85d8be9205f5b6b3994a7ffb5100f8f3de0f0375d1d080bdd2fe3f460c052", func := "certpath/certpathlaw32.GraphValid", spec := "graphValid", inPlace := ["slices.overlaps[certpath/api.PolicyVertex]"], unfollowed := true, recurses := true, apart := false, narrowed := true }
def GraphValidUptoSaid : Prop := graphValidUptoRow.holds Tryz.pinned (OpenSpec.upto graphValidSpec)

/-- 'certpathlaw32.GraphEnters', WHERE WHAT IT READS IS OF BULK AT MOST 1048576: true; the input reads as it did. -/
def graphEntersUptoRow : OpenClaim := { program := "ytmagjdocondmhaagreat", sum := "e0c85d8be9205f5b6b3994a7ffb5100f8f3de0f0375d1d080bdd2fe3f460c052", func := "certpath/certpathlaw32.GraphEnters", spec := "graphEnters", inPlace := ["slices.overlaps[certpath/api.PolicyVertex]"], unfollowed := true, recurses := true, apart := false, narrowed := true }
def GraphEntersUptoSaid : Prop := graphEntersUptoRow.holds Tryz.pinned (OpenSpec.upto graphEntersSpec)

/-- 'certpathlaw32.GraphMaps', WHERE WHAT IT READS IS OF BULK AT MOST 1048576: true; the input reads as it did. -/
def graphMapsUptoRow : OpenClaim := { program := "ytmagjdocondmhaagreat", sum := "e0c85d8be9205f5b6b3994a7ffb5100f8f3de0f0375d1d080bdd2fe3f460c052", func := "certpath/certpathlaw32.GraphMaps", spec := "graphMaps", inPlace := ["slices.overlaps[certpath/api.PolicyVertex]"], unfollowed := true, recurses := true, apart := false, narrowed := true }
def GraphMapsUptoSaid : Prop := graphMapsUptoRow.holds Tryz.pinned (OpenSpec.upto graphMapsSpec)

/-- 'certpathlaw32.GraphRestricts', WHERE WHAT IT READS IS OF BULK AT MOST 1048576: true; the input reads as it did. -/
def graphRestrictsUptoRow : OpenClaim := { program := "ytmagjdocondmhaagreat", sum := "e0c85d8be9205f5b6b3994a7ffb5100f8f3de0f0375d1d080bdd2fe3f460c052", func := "certpath/certpathlaw32.GraphRestricts", spec := "graphRestricts", inPlace := ["slices.overlaps[certpath/api.PolicyVertex]"], unfollowed := true, recurses := true, apart := false, narrowed := true }
def GraphRestrictsUptoSaid : Prop := graphRestrictsUptoRow.holds Tryz.pinned (OpenSpec.upto graphRestrictsSpec)

/-- 'certpathlaw32.GraphAnything', WHERE WHAT IT READS IS OF BULK AT MOST 1048576: true; the input reads as it did. -/
def graphAnythingUptoRow : OpenClaim := { program := "ytmagjdocondmhaagreat", sum := "e0c85d8be9205f5b6b3994a7ffb5100f8f3de0f0375d1d080bdd2fe3f460c052", func := "certpath/certpathlaw32.GraphAnything", spec := "graphAnything", inPlace := ["slices.overlaps[certpath/api.PolicyVertex]"], unfollowed := true, recurses := true, apart := false, narrowed := true }
def GraphAnythingUptoSaid : Prop := graphAnythingUptoRow.holds Tryz.pinned (OpenSpec.upto graphAnythingSpec)

/-- 'certpathlaw32.GraphStaysSmall', WHERE WHAT IT READS IS OF BULK AT MOST 1048576: true; the input reads as it did. -/
def graphStaysSmallUptoRow : OpenClaim := { program := "ytmagjdocondmhaagreat", sum := "e0c85d8be9205f5b6b3994a7ffb5100f8f3de0f0375d1d080bdd2fe3f460c052", func := "certpath/certpathlaw32.GraphStaysSmall", spec := "graphStaysSmall", inPlace := ["slices.overlaps[certpath/api.PolicyVertex]"], unfollowed := true, recurses := true, apart := false, narrowed := true }
def GraphStaysSmallUptoSaid : Prop := graphStaysSmallUptoRow.holds Tryz.pinned (OpenSpec.upto graphStaysSmallSpec)

/-- 'certpathlaw32.GraphLikeTree', WHERE WHAT IT READS IS OF BULK AT MOST 1048576: true; the input reads as it did. -/
def graphLikeTreeUptoRow : OpenClaim := { program := "ytmagjdocondmhaagreat", sum := "e0c85d8be9205f5b6b3994a7ffb5100f8f3de0f0375d1d080bdd2fe3f460c052", func := "certpath/certpathlaw32.GraphLikeTree", spec := "graphLikeTree", inPlace := ["slices.overlaps[certpath/api.PolicyVertex]"], unfollowed := true, recurses := true, apart := false, narrowed := true }
def GraphLikeTreeUptoSaid : Prop := graphLikeTreeUptoRow.holds Tryz.pinned (OpenSpec.upto graphLikeTreeSpec)

end Rows
end Go.Proofs.YtmagjdocondmhaaGreat
