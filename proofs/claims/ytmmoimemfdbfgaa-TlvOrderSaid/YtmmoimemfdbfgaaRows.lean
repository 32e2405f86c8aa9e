/-
  No cell of these rows narrows 'for every input' (looked for: loops, veiled, ifaces, maps, wideKeys, modest, calm, conditions, laid).
  DERIVED. THE GIVEN ROWS OF THIS SEAT. 8 by the template 'for every input the law returns true; each argument reads behind the call as it read before'; 0 by the template 'total and deterministic' (their statements: YtmmoimemfdbfgaaTotals.lean).
  GIVEN WITH THE SEED: the statements are not yours to turn. If you find one false, say at which input.
  Laid BY PROGRAM, IN A SANDBOX (cutbox-rows.mjs): the forced cells as the released guide's own fill.sh prints them over the translation 9291fa088a4948bc… (all of the seat's roots in one cut). By AI agents, Wed Nov 11 2026. No macro, syntax, notation, axiom, sorry.
-/
import Derived.Test.YtmmoimemfdbfgaaChecked
import GoSem.Claim
import GoSem.ClaimJoined
import GoSem.ClaimMapViews
import Derived.JoinedTies
import Derived.KernelRfl
namespace Go.Proofs.Ytmmoimemfdbfgaa
/- THE CELL 'sum', in the pinned program and in every row, IS THE sha256 OF THE DUMP (.gsa) THAT YtmmoimemfdbfgaaProg.lean LOADS. Nothing in Lean hashes anything: it is a label: what it is worth is what the hold of that sum in a sandbox is worth. -/
noncomputable def Try.pinned : Pinned := { name := "ytmmoimemfdbfgaa", sum := "9291fa088a4948bc84aec90740454fb4e402b6a4b85321071bc6fb967befb975", checked := Try.checked }
namespace Rows
def none {H : Type} : Left H := { results := [], args := [] }

/-- 'certpathlaw02.TlvWrap': WHATEVER THE INPUT: true; the input reads as it did. -/
def tlvWrapSpec : ChangeSpec := { name := "tlvWrap", fn := fun _ => fun
  | [d1, d2] => { results := [.lit (.bool true)], args := [d1, d2] }
  | _ => none }
def tlvWrapRow : OpenClaim := { program := "ytmmoimemfdbfgaa", sum := "9291fa088a4948bc84aec90740454fb4e402b6a4b85321071bc6fb967befb975", func := "certpath/certpathlaw02.TlvWrap", spec := "tlvWrap", inPlace := ["internal/abi.NoEscape", "internal/bytealg.MakeNoZero"], apart := false }
def TlvWrapSaid : Prop := tlvWrapRow.holds Try.pinned (OpenSpec.ofChange tlvWrapSpec)

/-- ITS FALSE NEIGHBOUR: 'it returns false'. Refute it at one input. -/
def tlvWrapWrong : ChangeSpec := { name := "tlvWrap", fn := fun _ => fun
  | [d1, d2] => { results := [.lit (.bool false)], args := [d1, d2] }
  | _ => none }
def TlvWrapWrongFalsely : Prop := tlvWrapRow.holds Try.pinned (OpenSpec.ofChange tlvWrapWrong)

/-- 'certpathlaw02.TlvLong': WHATEVER THE INPUT: true; the input reads as it did. -/
def tlvLongSpec : ChangeSpec := { name := "tlvLong", fn := fun _ => fun
  | [d1, d2] => { results := [.lit (.bool true)], args := [d1, d2] }
  | _ => none }
def tlvLongRow : OpenClaim := { program := "ytmmoimemfdbfgaa", sum := "9291fa088a4948bc84aec90740454fb4e402b6a4b85321071bc6fb967befb975", func := "certpath/certpathlaw02.TlvLong", spec := "tlvLong", inPlace := ["internal/abi.NoEscape", "internal/bytealg.MakeNoZero"], apart := false }
def TlvLongSaid : Prop := tlvLongRow.holds Try.pinned (OpenSpec.ofChange tlvLongSpec)

/-- ITS FALSE NEIGHBOUR: 'it returns false'. Refute it at one input. -/
def tlvLongWrong : ChangeSpec := { name := "tlvLong", fn := fun _ => fun
  | [d1, d2] => { results := [.lit (.bool false)], args := [d1, d2] }
  | _ => none }
def TlvLongWrongFalsely : Prop := tlvLongRow.holds Try.pinned (OpenSpec.ofChange tlvLongWrong)

/-- 'certpathlaw02.TlvBack': WHATEVER THE INPUT: true; the input reads as it did. -/
def tlvBackSpec : ChangeSpec := { name := "tlvBack", fn := fun _ => fun
  | [d1, d2, d3] => { results := [.lit (.bool true)], args := [d1, d2, d3] }
  | _ => none }
def tlvBackRow : OpenClaim := { program := "ytmmoimemfdbfgaa", sum := "9291fa088a4948bc84aec90740454fb4e402b6a4b85321071bc6fb967befb975", func := "certpath/certpathlaw02.TlvBack", spec := "tlvBack", inPlace := ["internal/abi.NoEscape", "internal/bytealg.MakeNoZero"], apart := false }
def TlvBackSaid : Prop := tlvBackRow.holds Try.pinned (OpenSpec.ofChange tlvBackSpec)

/-- ITS FALSE NEIGHBOUR: 'it returns false'. Refute it at one input. -/
def tlvBackWrong : ChangeSpec := { name := "tlvBack", fn := fun _ => fun
  | [d1, d2, d3] => { results := [.lit (.bool false)], args := [d1, d2, d3] }
  | _ => none }
def TlvBackWrongFalsely : Prop := tlvBackRow.holds Try.pinned (OpenSpec.ofChange tlvBackWrong)

/-- 'certpathlaw02.TlvPrefix': WHATEVER THE INPUT: true; the input reads as it did. -/
def tlvPrefixSpec : ChangeSpec := { name := "tlvPrefix", fn := fun _ => fun
  | [d1, d2] => { results := [.lit (.bool true)], args := [d1, d2] }
  | _ => none }
def tlvPrefixRow : OpenClaim := { program := "ytmmoimemfdbfgaa", sum := "9291fa088a4948bc84aec90740454fb4e402b6a4b85321071bc6fb967befb975", func := "certpath/certpathlaw02.TlvPrefix", spec := "tlvPrefix", inPlace := ["internal/abi.NoEscape", "internal/bytealg.MakeNoZero"], apart := false }
def TlvPrefixSaid : Prop := tlvPrefixRow.holds Try.pinned (OpenSpec.ofChange tlvPrefixSpec)

/-- ITS FALSE NEIGHBOUR: 'it returns false'. Refute it at one input. -/
def tlvPrefixWrong : ChangeSpec := { name := "tlvPrefix", fn := fun _ => fun
  | [d1, d2] => { results := [.lit (.bool false)], args := [d1, d2] }
  | _ => none }
def TlvPrefixWrongFalsely : Prop := tlvPrefixRow.holds Try.pinned (OpenSpec.ofChange tlvPrefixWrong)

/-- 'certpathlaw02.TlvRead': WHATEVER THE INPUT: true; the input reads as it did. -/
def tlvReadSpec : ChangeSpec := { name := "tlvRead", fn := fun _ => fun
  | [d1, d2] => { results := [.lit (.bool true)], args := [d1, d2] }
  | _ => none }
def tlvReadRow : OpenClaim := { program := "ytmmoimemfdbfgaa", sum := "9291fa088a4948bc84aec90740454fb4e402b6a4b85321071bc6fb967befb975", func := "certpath/certpathlaw02.TlvRead", spec := "tlvRead", inPlace := ["internal/abi.NoEscape", "internal/bytealg.MakeNoZero"], recurses := true, apart := false }
def TlvReadSaid : Prop := tlvReadRow.holds Try.pinned (OpenSpec.ofChange tlvReadSpec)

/-- ITS FALSE NEIGHBOUR: 'it returns false'. Refute it at one input. -/
def tlvReadWrong : ChangeSpec := { name := "tlvRead", fn := fun _ => fun
  | [d1, d2] => { results := [.lit (.bool false)], args := [d1, d2] }
  | _ => none }
def TlvReadWrongFalsely : Prop := tlvReadRow.holds Try.pinned (OpenSpec.ofChange tlvReadWrong)

/-- 'certpathlaw02.TlvHeads': WHATEVER THE INPUT: true; the input reads as it did. -/
def tlvHeadsSpec : ChangeSpec := { name := "tlvHeads", fn := fun _ => fun
  | [d1, d2, d3, d4, d5] => { results := [.lit (.bool true)], args := [d1, d2, d3, d4, d5] }
  | _ => none }
def tlvHeadsRow : OpenClaim := { program := "ytmmoimemfdbfgaa", sum := "9291fa088a4948bc84aec90740454fb4e402b6a4b85321071bc6fb967befb975", func := "certpath/certpathlaw02.TlvHeads", spec := "tlvHeads", inPlace := ["internal/abi.NoEscape", "internal/bytealg.MakeNoZero"], recurses := true, apart := false }
def TlvHeadsSaid : Prop := tlvHeadsRow.holds Try.pinned (OpenSpec.ofChange tlvHeadsSpec)

/-- ITS FALSE NEIGHBOUR: 'it returns false'. Refute it at one input. -/
def tlvHeadsWrong : ChangeSpec := { name := "tlvHeads", fn := fun _ => fun
  | [d1, d2, d3, d4, d5] => { results := [.lit (.bool false)], args := [d1, d2, d3, d4, d5] }
  | _ => none }
def TlvHeadsWrongFalsely : Prop := tlvHeadsRow.holds Try.pinned (OpenSpec.ofChange tlvHeadsWrong)

/-- 'certpathlaw02.TlvNested': WHATEVER THE INPUT: true; the input reads as it did. -/
def tlvNestedSpec : ChangeSpec := { name := "tlvNested", fn := fun _ => fun
  | [d1, d2, d3] => { results := [.lit (.bool true)], args := [d1, d2, d3] }
  | _ => none }
def tlvNestedRow : OpenClaim := { program := "ytmmoimemfdbfgaa", sum := "9291fa088a4948bc84aec90740454fb4e402b6a4b85321071bc6fb967befb975", func := "certpath/certpathlaw02.TlvNested", spec := "tlvNested", inPlace := ["internal/abi.NoEscape", "internal/bytealg.MakeNoZero"], recurses := true, apart := false }
def TlvNestedSaid : Prop := tlvNestedRow.holds Try.pinned (OpenSpec.ofChange tlvNestedSpec)

/-- ITS FALSE NEIGHBOUR: 'it returns false'. Refute it at one input. -/
def tlvNestedWrong : ChangeSpec := { name := "tlvNested", fn := fun _ => fun
  | [d1, d2, d3] => { results := [.lit (.bool false)], args := [d1, d2, d3] }
  | _ => none }
def TlvNestedWrongFalsely : Prop := tlvNestedRow.holds Try.pinned (OpenSpec.ofChange tlvNestedWrong)

/-- 'certpathlaw02.TlvOrder': WHATEVER THE INPUT: true; the input reads as it did. -/
def tlvOrderSpec : ChangeSpec := { name := "tlvOrder", fn := fun _ => fun
  | [d] => { results := [.lit (.bool true)], args := [d] }
  | _ => none }
def tlvOrderRow : OpenClaim := { program := "ytmmoimemfdbfgaa", sum := "9291fa088a4948bc84aec90740454fb4e402b6a4b85321071bc6fb967befb975", func := "certpath/certpathlaw02.TlvOrder", spec := "tlvOrder", inPlace := ["internal/abi.NoEscape", "internal/bytealg.MakeNoZero"], recurses := true, apart := false }
def TlvOrderSaid : Prop := tlvOrderRow.holds Try.pinned (OpenSpec.ofChange tlvOrderSpec)

/-- ITS FALSE NEIGHBOUR: 'it returns false'. Refute it at one input. -/
def tlvOrderWrong : ChangeSpec := { name := "tlvOrder", fn := fun _ => fun
  | [d] => { results := [.lit (.bool false)], args := [d] }
  | _ => none }
def TlvOrderWrongFalsely : Prop := tlvOrderRow.holds Try.pinned (OpenSpec.ofChange tlvOrderWrong)

/- THE SECOND FORM. 'bulk': how many values and letters a reading holds, each counted each time it is reached (what is shared counts as often as it is met; a slice's spare places count too). A statement '..UptoSaid' is the law's where the arguments, and the package variables that the reading takes, are together of bulk at most 1048576: NARROWER than '..Said'. Prove '..Said' where nothing that the law and all that it calls make is longer than what came in: it says more and counts as full. Else prove '..UptoSaid'. A law counts once. -/
mutual
def uptoBulk {H : Type} : DataW H → Nat
  | .lit (.string bytes) => bytes.length + 1
  | .lit _ => 1
  | .nil => 1
  | .ptr d => uptoBulk d + 1
  | .slice elems spare => uptoBulkAll elems + uptoBulkAll spare + 1
  | .agg parts => uptoBulkAll parts + 1
  | .iface _ d => uptoBulk d + 1
  | .map entries => uptoBulkEntries entries + 1
  | .held _ => 1
def uptoBulkAll {H : Type} : List (DataW H) → Nat
  | [] => 0
  | d :: r => uptoBulk d + uptoBulkAll r
def uptoBulkEntries {H : Type} : List (Lit × DataW H) → Nat
  | [] => 0
  | x :: r => uptoBulkEntry x + uptoBulkEntries r
def uptoBulkEntry {H : Type} : Lit × DataW H → Nat
  | (.string bytes, d) => bytes.length + uptoBulk d + 1
  | (_, d) => uptoBulk d + 1
 end
def uptoSmall : (H : Type) → List (DataW H) → Bool := fun _ ds => decide (uptoBulkAll ds ≤ 1048576)
def OpenSpec.upto (s : _root_.Go.ChangeSpec) : _root_.Go.OpenSpec := { _root_.Go.OpenSpec.ofChange s with cond := some uptoSmall }

/-- 'certpathlaw02.TlvWrap', WHERE WHAT IT READS IS OF BULK AT MOST 1048576: true; the input reads as it did. -/
def tlvWrapUptoRow : OpenClaim := { program := "ytmmoimemfdbfgaa", sum := "9291fa088a4948bc84aec90740454fb4e402b6a4b85321071bc6fb967befb975", func := "certpath/certpathlaw02.TlvWrap", spec := "tlvWrap", inPlace := ["internal/abi.NoEscape", "internal/bytealg.MakeNoZero"], apart := false, narrowed := true }
def TlvWrapUptoSaid : Prop := tlvWrapUptoRow.holds Try.pinned (OpenSpec.upto tlvWrapSpec)

/-- 'certpathlaw02.TlvLong', WHERE WHAT IT READS IS OF BULK AT MOST 1048576: true; the input reads as it did. -/
def tlvLongUptoRow : OpenClaim := { program := "ytmmoimemfdbfgaa", sum := "9291fa088a4948bc84aec90740454fb4e402b6a4b85321071bc6fb967befb975", func := "certpath/certpathlaw02.TlvLong", spec := "tlvLong", inPlace := ["internal/abi.NoEscape", "internal/bytealg.MakeNoZero"], apart := false, narrowed := true }
def TlvLongUptoSaid : Prop := tlvLongUptoRow.holds Try.pinned (OpenSpec.upto tlvLongSpec)

/-- 'certpathlaw02.TlvBack', WHERE WHAT IT READS IS OF BULK AT MOST 1048576: true; the input reads as it did. -/
def tlvBackUptoRow : OpenClaim := { program := "ytmmoimemfdbfgaa", sum := "9291fa088a4948bc84aec90740454fb4e402b6a4b85321071bc6fb967befb975", func := "certpath/certpathlaw02.TlvBack", spec := "tlvBack", inPlace := ["internal/abi.NoEscape", "internal/bytealg.MakeNoZero"], apart := false, narrowed := true }
def TlvBackUptoSaid : Prop := tlvBackUptoRow.holds Try.pinned (OpenSpec.upto tlvBackSpec)

/-- 'certpathlaw02.TlvPrefix', WHERE WHAT IT READS IS OF BULK AT MOST 1048576: true; the input reads as it did. -/
def tlvPrefixUptoRow : OpenClaim := { program := "ytmmoimemfdbfgaa", sum := "9291fa088a4948bc84aec90740454fb4e402b6a4b85321071bc6fb967befb975", func := "certpath/certpathlaw02.TlvPrefix", spec := "tlvPrefix", inPlace := ["internal/abi.NoEscape", "internal/bytealg.MakeNoZero"], apart := false, narrowed := true }
def TlvPrefixUptoSaid : Prop := tlvPrefixUptoRow.holds Try.pinned (OpenSpec.upto tlvPrefixSpec)

/-- 'certpathlaw02.TlvRead', WHERE WHAT IT READS IS OF BULK AT MOST 1048576: true; the input reads as it did. -/
def tlvReadUptoRow : OpenClaim := { program := "ytmmoimemfdbfgaa", sum := "9291fa088a4948bc84aec90740454fb4e402b6a4b85321071bc6fb967befb975", func := "certpath/certpathlaw02.TlvRead", spec := "tlvRead", inPlace := ["internal/abi.NoEscape", "internal/bytealg.MakeNoZero"], recurses := true, apart := false, narrowed := true }
def TlvReadUptoSaid : Prop := tlvReadUptoRow.holds Try.pinned (OpenSpec.upto tlvReadSpec)

/-- 'certpathlaw02.TlvHeads', WHERE WHAT IT READS IS OF BULK AT MOST 1048576: true; the input reads as it did. -/
def tlvHeadsUptoRow : OpenClaim := { program := "ytmmoimemfdbfgaa", sum := "9291fa088a4948bc84aec90740454fb4e402b6a4b85321071bc6fb967befb975", func := "certpath/certpathlaw02.TlvHeads", spec := "tlvHeads", inPlace := ["internal/abi.NoEscape", "internal/bytealg.MakeNoZero"], recurses := true, apart := false, narrowed := true }
def TlvHeadsUptoSaid : Prop := tlvHeadsUptoRow.holds Try.pinned (OpenSpec.upto tlvHeadsSpec)

/-- 'certpathlaw02.TlvNested', WHERE WHAT IT READS IS OF BULK AT MOST 1048576: true; the input reads as it did. -/
def tlvNestedUptoRow : OpenClaim := { program := "ytmmoimemfdbfgaa", sum := "9291fa088a4948bc84aec90740454fb4e402b6a4b85321071bc6fb967befb975", func := "certpath/certpathlaw02.TlvNested", spec := "tlvNested", inPlace := ["internal/abi.NoEscape", "internal/bytealg.MakeNoZero"], recurses := true, apart := false, narrowed := true }
def TlvNestedUptoSaid : Prop := tlvNestedUptoRow.holds Try.pinned (OpenSpec.upto tlvNestedSpec)

/-- 'certpathlaw02.TlvOrder', WHERE WHAT IT READS IS OF BULK AT MOST 1048576: true; the input reads as it did. -/
def tlvOrderUptoRow : OpenClaim := { program := "ytmmoimemfdbfgaa", sum := "9291fa088a4948bc84aec90740454fb4e402b6a4b85321071bc6fb967befb975", func := "certpath/certpathlaw02.TlvOrder", spec := "tlvOrder", inPlace := ["internal/abi.NoEscape", "internal/bytealg.MakeNoZero"], recurses := true, apart := false, narrowed := true }
def TlvOrderUptoSaid : Prop := tlvOrderUptoRow.holds Try.pinned (OpenSpec.upto tlvOrderSpec)

end Rows
end Go.Proofs.Ytmmoimemfdbfgaa
