/-
  No cell of these rows narrows 'for every input' (looked for: loops, veiled, ifaces, maps, wideKeys, modest, calm, conditions, laid).
  DERIVED. THE GIVEN ROWS OF THIS SEAT. 4 by the template 'for every input the law returns true; each argument reads behind the call as it read before'; 0 by the template 'total and deterministic' (their statements: YtkmnlelfofebfaaTotals.lean).
  GIVEN WITH THE SEED: the statements are not yours to turn. If you find one false, say at which input.
  Laid BY PROGRAM, IN A SANDBOX (cutbox-rows.mjs): the forced cells as the released guide's own fill.sh prints them over the translation 2f986ddb4569f921… (all of the seat's roots in one cut). By AI agents, Wed Nov 11 2026. No macro, syntax, notation, axiom, sorry.
-/
import Derived.Test.YtkmnlelfofebfaaChecked
import GoSem.Claim
import GoSem.ClaimJoined
import GoSem.ClaimMapViews
import Derived.JoinedTies
import Derived.KernelRfl
namespace Go.Proofs.Ytkmnlelfofebfaa
/- THE CELL 'sum', in the pinned program and in every row, IS THE sha256 OF THE DUMP (.gsa) THAT YtkmnlelfofebfaaProg.lean LOADS. Nothing in Lean hashes anything: it is a label: what it is worth is what the hold of that sum in a sandbox is worth. -/
noncomputable def Try.pinned : Pinned := { name := "ytkmnlelfofebfaa", sum := "2f986ddb4569f921bd40bd2d87397e129080f69988f98f8c5f1c76bf4f4d842e", checked := Try.checked }
namespace Rows
def none {H : Type} : Left H := { results := [], args := [] }

/-- 'almonrylaw12.SegmentSplits': WHATEVER THE INPUT: true; the input reads as it did. -/
def segmentSplitsSpec : ChangeSpec := { name := "segmentSplits", fn := fun _ => fun
  | [d1, d2] => { results := [.lit (.bool true)], args := [d1, d2] }
  | _ => none }
def segmentSplitsRow : OpenClaim := { program := "ytkmnlelfofebfaa", sum := "2f986ddb4569f921bd40bd2d87397e129080f69988f98f8c5f1c76bf4f4d842e", func := "almonry/almonrylaw12.SegmentSplits", spec := "segmentSplits", apart := false }
def SegmentSplitsSaid : Prop := segmentSplitsRow.holds Try.pinned (OpenSpec.ofChange segmentSplitsSpec)

/-- ITS FALSE NEIGHBOUR: 'it returns false'. Refute it at one input. -/
def segmentSplitsWrong : ChangeSpec := { name := "segmentSplits", fn := fun _ => fun
  | [d1, d2] => { results := [.lit (.bool false)], args := [d1, d2] }
  | _ => none }
def SegmentSplitsWrongFalsely : Prop := segmentSplitsRow.holds Try.pinned (OpenSpec.ofChange segmentSplitsWrong)

/-- 'almonrylaw12.SegmentJoins': WHATEVER THE INPUT: true; the input reads as it did. -/
def segmentJoinsSpec : ChangeSpec := { name := "segmentJoins", fn := fun _ => fun
  | [d1, d2, d3] => { results := [.lit (.bool true)], args := [d1, d2, d3] }
  | _ => none }
def segmentJoinsRow : OpenClaim := { program := "ytkmnlelfofebfaa", sum := "2f986ddb4569f921bd40bd2d87397e129080f69988f98f8c5f1c76bf4f4d842e", func := "almonry/almonrylaw12.SegmentJoins", spec := "segmentJoins", apart := false }
def SegmentJoinsSaid : Prop := segmentJoinsRow.holds Try.pinned (OpenSpec.ofChange segmentJoinsSpec)

/-- ITS FALSE NEIGHBOUR: 'it returns false'. Refute it at one input. -/
def segmentJoinsWrong : ChangeSpec := { name := "segmentJoins", fn := fun _ => fun
  | [d1, d2, d3] => { results := [.lit (.bool false)], args := [d1, d2, d3] }
  | _ => none }
def SegmentJoinsWrongFalsely : Prop := segmentJoinsRow.holds Try.pinned (OpenSpec.ofChange segmentJoinsWrong)

/-- 'almonrylaw12.SegmentBack': WHATEVER THE INPUT: true; the input reads as it did. -/
def segmentBackSpec : ChangeSpec := { name := "segmentBack", fn := fun _ => fun
  | [d1, d2] => { results := [.lit (.bool true)], args := [d1, d2] }
  | _ => none }
def segmentBackRow : OpenClaim := { program := "ytkmnlelfofebfaa", sum := "2f986ddb4569f921bd40bd2d87397e129080f69988f98f8c5f1c76bf4f4d842e", func := "almonry/almonrylaw12.SegmentBack", spec := "segmentBack", apart := false }
def SegmentBackSaid : Prop := segmentBackRow.holds Try.pinned (OpenSpec.ofChange segmentBackSpec)

/-- ITS FALSE NEIGHBOUR: 'it returns false'. Refute it at one input. -/
def segmentBackWrong : ChangeSpec := { name := "segmentBack", fn := fun _ => fun
  | [d1, d2] => { results := [.lit (.bool false)], args := [d1, d2] }
  | _ => none }
def SegmentBackWrongFalsely : Prop := segmentBackRow.holds Try.pinned (OpenSpec.ofChange segmentBackWrong)

/-- 'almonrylaw12.SegmentPads': WHATEVER THE INPUT: true; the input reads as it did. -/
def segmentPadsSpec : ChangeSpec := { name := "segmentPads", fn := fun _ => fun
  | [d1, d2, d3] => { results := [.lit (.bool true)], args := [d1, d2, d3] }
  | _ => none }
def segmentPadsRow : OpenClaim := { program := "ytkmnlelfofebfaa", sum := "2f986ddb4569f921bd40bd2d87397e129080f69988f98f8c5f1c76bf4f4d842e", func := "almonry/almonrylaw12.SegmentPads", spec := "segmentPads", apart := false }
def SegmentPadsSaid : Prop := segmentPadsRow.holds Try.pinned (OpenSpec.ofChange segmentPadsSpec)

/-- ITS FALSE NEIGHBOUR: 'it returns false'. Refute it at one input. -/
def segmentPadsWrong : ChangeSpec := { name := "segmentPads", fn := fun _ => fun
  | [d1, d2, d3] => { results := [.lit (.bool false)], args := [d1, d2, d3] }
  | _ => none }
def SegmentPadsWrongFalsely : Prop := segmentPadsRow.holds Try.pinned (OpenSpec.ofChange segmentPadsWrong)

/- THE SECOND FORM. 'bulk': how many values and letters a reading holds, each counted each time it is reached (what is shared counts as often as it is met; a slice's spare places count too). A statement '..UptoSaid' is the law's where the arguments, and the package variables that the reading takes, are together of bulk at most 1048576: NARROWER than '..Said'. Prove '..Said' where nothing that the law and all that it calls make is longer than what came in: it says more and counts as full. Else prove '..UptoSaid'. A law counts once. -/
mutual
def uptoBulk {H : Type} : DataW H → Nat
  | .lit (.string bytes) => bytes.length + 1
  | .lit _ => 1
  | .nil => 1
  | .ptr d => uptoBulk d + 1
  | .slice elems spare => uptoBulkAll elems + uptoBulkAll spare + 1
  | .agg parts => uptoBulkAll parts + 1
  | .iface _ d => uptoBulk d + 1
  | .map entries => uptoBulkEntries entries + 1
  | .held _ => 1
def uptoBulkAll {H : Type} : List (DataW H) → Nat
  | [] => 0
  | d :: r => uptoBulk d + uptoBulkAll r
def uptoBulkEntries {H : Type} : List (Lit × DataW H) → Nat
  | [] => 0
  | x :: r => uptoBulkEntry x + uptoBulkEntries r
def uptoBulkEntry {H : Type} : Lit × DataW H → Nat
  | (.string bytes, d) => bytes.length + uptoBulk d + 1
  | (_, d) => uptoBulk d + 1
 end
def uptoSmall : (H : Type) → List (DataW H) → Bool := fun _ ds => decide (uptoBulkAll ds ≤ 1048576)
def OpenSpec.upto (s : _root_.Go.ChangeSpec) : _root_.Go.OpenSpec := { _root_.Go.OpenSpec.ofChange s with cond := some uptoSmall }

/-- 'almonrylaw12.SegmentSplits', WHERE WHAT IT READS IS OF BULK AT MOST 1048576: true; the input reads as it did. -/
def segmentSplitsUptoRow : OpenClaim := { program := "ytkmnlelfofebfaa", sum := "2f986ddb4569f921bd40bd2d87397e129080f69988f98f8c5f1c76bf4f4d842e", func := "almonry/almonrylaw12.SegmentSplits", spec := "segmentSplits", apart := false, narrowed := true }
def SegmentSplitsUptoSaid : Prop := segmentSplitsUptoRow.holds Try.pinned (OpenSpec.upto segmentSplitsSpec)

/-- 'almonrylaw12.SegmentJoins', WHERE WHAT IT READS IS OF BULK AT MOST 1048576: true; the input reads as it did. -/
def segmentJoinsUptoRow : OpenClaim := { program := "ytkmnlelfofebfaa", sum := "2f986ddb4569f921bd40bd2d87397e129080f69988f98f8c5f1c76bf4f4d842e", func := "almonry/almonrylaw12.SegmentJoins", spec := "segmentJoins", apart := false, narrowed := true }
def SegmentJoinsUptoSaid : Prop := segmentJoinsUptoRow.holds Try.pinned (OpenSpec.upto segmentJoinsSpec)

/-- 'almonrylaw12.SegmentBack', WHERE WHAT IT READS IS OF BULK AT MOST 1048576: true; the input reads as it did. -/
def segmentBackUptoRow : OpenClaim := { program := "ytkmnlelfofebfaa", sum := "2f986ddb4569f921bd40bd2d87397e129080f69988f98f8c5f1c76bf4f4d842e", func := "almonry/almonrylaw12.SegmentBack", spec := "segmentBack", apart := false, narrowed := true }
def SegmentBackUptoSaid : Prop := segmentBackUptoRow.holds Try.pinned (OpenSpec.upto segmentBackSpec)

/-- 'almonrylaw12.SegmentPads', WHERE WHAT IT READS IS OF BULK AT MOST 1048576: true; the input reads as it did. -/
def segmentPadsUptoRow : OpenClaim := { program := "ytkmnlelfofebfaa", sum := "2f986ddb4569f921bd40bd2d87397e129080f69988f98f8c5f1c76bf4f4d842e", func := "almonry/almonrylaw12.SegmentPads", spec := "segmentPads", apart := false, narrowed := true }
def SegmentPadsUptoSaid : Prop := segmentPadsUptoRow.holds Try.pinned (OpenSpec.upto segmentPadsSpec)

end Rows
end Go.Proofs.Ytkmnlelfofebfaa
