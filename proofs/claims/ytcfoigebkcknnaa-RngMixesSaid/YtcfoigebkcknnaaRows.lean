/-
  No cell of these rows narrows 'for every input' (looked for: loops, veiled, ifaces, maps, wideKeys, modest, calm, conditions, laid).
  DERIVED. THE GIVEN ROWS OF THIS SEAT. 8 by the template 'for every input the law returns true; each argument reads behind the call as it read before'; 0 by the template 'total and deterministic' (their statements: YtcfoigebkcknnaaTotals.lean).
  GIVEN WITH THE SEED: the statements are not yours to turn. If you find one false, say at which input.
  Laid BY PROGRAM, IN A SANDBOX (cutbox-rows.mjs): the forced cells as the released guide's own fill.sh prints them over the translation 82f22642811533e3… (all of the seat's roots in one cut). By AI agents, Wed Nov 11 2026. No macro, syntax, notation, axiom, sorry.
-/
import Derived.Test.YtcfoigebkcknnaaChecked
import GoSem.Claim
import GoSem.ClaimJoined
import GoSem.ClaimMapViews
import Derived.JoinedTies
import Derived.KernelRfl
namespace Go.Proofs.Ytcfoigebkcknnaa
/- THE CELL 'sum', in the pinned program and in every row, IS THE sha256 OF THE DUMP (.gsa) THAT YtcfoigebkcknnaaProg.lean LOADS. Nothing in Lean hashes anything: it is a label: what it is worth is what the hold of that sum in a sandbox is worth. -/
noncomputable def Try.pinned : Pinned := { name := "ytcfoigebkcknnaa", sum := "82f22642811533e31f514e23c1effa87aac108e4bac3b8ac67d620ab27aa3319", checked := Try.checked }
namespace Rows
def none {H : Type} : Left H := { results := [], args := [] }

/-- 'almonrylaw05.ParamsChecks': WHATEVER THE INPUT: true; the input reads as it did. -/
def paramsChecksSpec : ChangeSpec := { name := "paramsChecks", fn := fun _ => fun
  | [d] => { results := [.lit (.bool true)], args := [d] }
  | _ => none }
def paramsChecksRow : OpenClaim := { program := "ytcfoigebkcknnaa", sum := "82f22642811533e31f514e23c1effa87aac108e4bac3b8ac67d620ab27aa3319", func := "almonry/almonrylaw05.ParamsChecks", spec := "paramsChecks", apart := false }
def ParamsChecksSaid : Prop := paramsChecksRow.holds Try.pinned (OpenSpec.ofChange paramsChecksSpec)

/-- ITS FALSE NEIGHBOUR: 'it returns false'. Refute it at one input. -/
def paramsChecksWrong : ChangeSpec := { name := "paramsChecks", fn := fun _ => fun
  | [d] => { results := [.lit (.bool false)], args := [d] }
  | _ => none }
def ParamsChecksWrongFalsely : Prop := paramsChecksRow.holds Try.pinned (OpenSpec.ofChange paramsChecksWrong)

/-- 'almonrylaw05.ParamsGrow': WHATEVER THE INPUT: true; the input reads as it did. -/
def paramsGrowSpec : ChangeSpec := { name := "paramsGrow", fn := fun _ => fun
  | [d1, d2] => { results := [.lit (.bool true)], args := [d1, d2] }
  | _ => none }
def paramsGrowRow : OpenClaim := { program := "ytcfoigebkcknnaa", sum := "82f22642811533e31f514e23c1effa87aac108e4bac3b8ac67d620ab27aa3319", func := "almonry/almonrylaw05.ParamsGrow", spec := "paramsGrow", apart := false }
def ParamsGrowSaid : Prop := paramsGrowRow.holds Try.pinned (OpenSpec.ofChange paramsGrowSpec)

/-- ITS FALSE NEIGHBOUR: 'it returns false'. Refute it at one input. -/
def paramsGrowWrong : ChangeSpec := { name := "paramsGrow", fn := fun _ => fun
  | [d1, d2] => { results := [.lit (.bool false)], args := [d1, d2] }
  | _ => none }
def ParamsGrowWrongFalsely : Prop := paramsGrowRow.holds Try.pinned (OpenSpec.ofChange paramsGrowWrong)

/-- 'almonrylaw05.ParamsCounts': WHATEVER THE INPUT: true; the input reads as it did. -/
def paramsCountsSpec : ChangeSpec := { name := "paramsCounts", fn := fun _ => fun
  | [d1, d2, d3] => { results := [.lit (.bool true)], args := [d1, d2, d3] }
  | _ => none }
def paramsCountsRow : OpenClaim := { program := "ytcfoigebkcknnaa", sum := "82f22642811533e31f514e23c1effa87aac108e4bac3b8ac67d620ab27aa3319", func := "almonry/almonrylaw05.ParamsCounts", spec := "paramsCounts", apart := false }
def ParamsCountsSaid : Prop := paramsCountsRow.holds Try.pinned (OpenSpec.ofChange paramsCountsSpec)

/-- ITS FALSE NEIGHBOUR: 'it returns false'. Refute it at one input. -/
def paramsCountsWrong : ChangeSpec := { name := "paramsCounts", fn := fun _ => fun
  | [d1, d2, d3] => { results := [.lit (.bool false)], args := [d1, d2, d3] }
  | _ => none }
def ParamsCountsWrongFalsely : Prop := paramsCountsRow.holds Try.pinned (OpenSpec.ofChange paramsCountsWrong)

/-- 'almonrylaw05.ParamsBounds': WHATEVER THE INPUT: true; the input reads as it did. -/
def paramsBoundsSpec : ChangeSpec := { name := "paramsBounds", fn := fun _ => fun
  | [d1, d2, d3] => { results := [.lit (.bool true)], args := [d1, d2, d3] }
  | _ => none }
def paramsBoundsRow : OpenClaim := { program := "ytcfoigebkcknnaa", sum := "82f22642811533e31f514e23c1effa87aac108e4bac3b8ac67d620ab27aa3319", func := "almonry/almonrylaw05.ParamsBounds", spec := "paramsBounds", apart := false }
def ParamsBoundsSaid : Prop := paramsBoundsRow.holds Try.pinned (OpenSpec.ofChange paramsBoundsSpec)

/-- ITS FALSE NEIGHBOUR: 'it returns false'. Refute it at one input. -/
def paramsBoundsWrong : ChangeSpec := { name := "paramsBounds", fn := fun _ => fun
  | [d1, d2, d3] => { results := [.lit (.bool false)], args := [d1, d2, d3] }
  | _ => none }
def ParamsBoundsWrongFalsely : Prop := paramsBoundsRow.holds Try.pinned (OpenSpec.ofChange paramsBoundsWrong)

/-- 'almonrylaw07.RngMixes': WHATEVER THE INPUT: true; the input reads as it did. -/
def rngMixesSpec : ChangeSpec := { name := "rngMixes", fn := fun _ => fun
  | [d] => { results := [.lit (.bool true)], args := [d] }
  | _ => none }
def rngMixesRow : OpenClaim := { program := "ytcfoigebkcknnaa", sum := "82f22642811533e31f514e23c1effa87aac108e4bac3b8ac67d620ab27aa3319", func := "almonry/almonrylaw07.RngMixes", spec := "rngMixes", apart := false }
def RngMixesSaid : Prop := rngMixesRow.holds Try.pinned (OpenSpec.ofChange rngMixesSpec)

/-- ITS FALSE NEIGHBOUR: 'it returns false'. Refute it at one input. -/
def rngMixesWrong : ChangeSpec := { name := "rngMixes", fn := fun _ => fun
  | [d] => { results := [.lit (.bool false)], args := [d] }
  | _ => none }
def RngMixesWrongFalsely : Prop := rngMixesRow.holds Try.pinned (OpenSpec.ofChange rngMixesWrong)

/-- 'almonrylaw07.RngDraws': WHATEVER THE INPUT: true; the input reads as it did. -/
def rngDrawsSpec : ChangeSpec := { name := "rngDraws", fn := fun _ => fun
  | [d1, d2] => { results := [.lit (.bool true)], args := [d1, d2] }
  | _ => none }
def rngDrawsRow : OpenClaim := { program := "ytcfoigebkcknnaa", sum := "82f22642811533e31f514e23c1effa87aac108e4bac3b8ac67d620ab27aa3319", func := "almonry/almonrylaw07.RngDraws", spec := "rngDraws", apart := false }
def RngDrawsSaid : Prop := rngDrawsRow.holds Try.pinned (OpenSpec.ofChange rngDrawsSpec)

/-- ITS FALSE NEIGHBOUR: 'it returns false'. Refute it at one input. -/
def rngDrawsWrong : ChangeSpec := { name := "rngDraws", fn := fun _ => fun
  | [d1, d2] => { results := [.lit (.bool false)], args := [d1, d2] }
  | _ => none }
def RngDrawsWrongFalsely : Prop := rngDrawsRow.holds Try.pinned (OpenSpec.ofChange rngDrawsWrong)

/-- 'almonrylaw07.RngBelow': WHATEVER THE INPUT: true; the input reads as it did. -/
def rngBelowSpec : ChangeSpec := { name := "rngBelow", fn := fun _ => fun
  | [d1, d2, d3] => { results := [.lit (.bool true)], args := [d1, d2, d3] }
  | _ => none }
def rngBelowRow : OpenClaim := { program := "ytcfoigebkcknnaa", sum := "82f22642811533e31f514e23c1effa87aac108e4bac3b8ac67d620ab27aa3319", func := "almonry/almonrylaw07.RngBelow", spec := "rngBelow", apart := false }
def RngBelowSaid : Prop := rngBelowRow.holds Try.pinned (OpenSpec.ofChange rngBelowSpec)

/-- ITS FALSE NEIGHBOUR: 'it returns false'. Refute it at one input. -/
def rngBelowWrong : ChangeSpec := { name := "rngBelow", fn := fun _ => fun
  | [d1, d2, d3] => { results := [.lit (.bool false)], args := [d1, d2, d3] }
  | _ => none }
def RngBelowWrongFalsely : Prop := rngBelowRow.holds Try.pinned (OpenSpec.ofChange rngBelowWrong)

/-- 'almonrylaw07.RngApart': WHATEVER THE INPUT: true; the input reads as it did. -/
def rngApartSpec : ChangeSpec := { name := "rngApart", fn := fun _ => fun
  | [d1, d2] => { results := [.lit (.bool true)], args := [d1, d2] }
  | _ => none }
def rngApartRow : OpenClaim := { program := "ytcfoigebkcknnaa", sum := "82f22642811533e31f514e23c1effa87aac108e4bac3b8ac67d620ab27aa3319", func := "almonry/almonrylaw07.RngApart", spec := "rngApart", apart := false }
def RngApartSaid : Prop := rngApartRow.holds Try.pinned (OpenSpec.ofChange rngApartSpec)

/-- ITS FALSE NEIGHBOUR: 'it returns false'. Refute it at one input. -/
def rngApartWrong : ChangeSpec := { name := "rngApart", fn := fun _ => fun
  | [d1, d2] => { results := [.lit (.bool false)], args := [d1, d2] }
  | _ => none }
def RngApartWrongFalsely : Prop := rngApartRow.holds Try.pinned (OpenSpec.ofChange rngApartWrong)

/- THE SECOND FORM. 'bulk': how many values and letters a reading holds, each counted each time it is reached (what is shared counts as often as it is met; a slice's spare places count too). A statement '..UptoSaid' is the law's where the arguments, and the package variables that the reading takes, are together of bulk at most 1048576: NARROWER than '..Said'. Prove '..Said' where nothing that the law and all that it calls make is longer than what came in: it says more and counts as full. Else prove '..UptoSaid'. A law counts once. -/
mutual
def uptoBulk {H : Type} : DataW H → Nat
  | .lit (.string bytes) => bytes.length + 1
  | .lit _ => 1
  | .nil => 1
  | .ptr d => uptoBulk d + 1
  | .slice elems spare => uptoBulkAll elems + uptoBulkAll spare + 1
  | .agg parts => uptoBulkAll parts + 1
  | .iface _ d => uptoBulk d + 1
  | .map entries => uptoBulkEntries entries + 1
  | .held _ => 1
def uptoBulkAll {H : Type} : List (DataW H) → Nat
  | [] => 0
  | d :: r => uptoBulk d + uptoBulkAll r
def uptoBulkEntries {H : Type} : List (Lit × DataW H) → Nat
  | [] => 0
  | x :: r => uptoBulkEntry x + uptoBulkEntries r
def uptoBulkEntry {H : Type} : Lit × DataW H → Nat
  | (.string bytes, d) => bytes.length + uptoBulk d + 1
  | (_, d) => uptoBulk d + 1
 end
def uptoSmall : (H : Type) → List (DataW H) → Bool := fun _ ds => decide (uptoBulkAll ds ≤ 1048576)
def OpenSpec.upto (s : _root_.Go.ChangeSpec) : _root_.Go.OpenSpec := { _root_.Go.OpenSpec.ofChange s with cond := some uptoSmall }

/-- 'almonrylaw05.ParamsChecks', WHERE WHAT IT READS IS OF BULK AT MOST 1048576: true; the input reads as it did. -/
def paramsChecksUptoRow : OpenClaim := { program := "ytcfoigebkcknnaa", sum := "82f22642811533e31f514e23c1effa87aac108e4bac3b8ac67d620ab27aa3319", func := "almonry/almonrylaw05.ParamsChecks", spec := "paramsChecks", apart := false, narrowed := true }
def ParamsChecksUptoSaid : Prop := paramsChecksUptoRow.holds Try.pinned (OpenSpec.upto paramsChecksSpec)

/-- 'almonrylaw05.ParamsGrow', WHERE WHAT IT READS IS OF BULK AT MOST 1048576: true; the input reads as it did. -/
def paramsGrowUptoRow : OpenClaim := { program := "ytcfoigebkcknnaa", sum := "82f22642811533e31f514e23c1effa87aac108e4bac3b8ac67d620ab27aa3319", func := "almonry/almonrylaw05.ParamsGrow", spec := "paramsGrow", apart := false, narrowed := true }
def ParamsGrowUptoSaid : Prop := paramsGrowUptoRow.holds Try.pinned (OpenSpec.upto paramsGrowSpec)

/-- 'almonrylaw05.ParamsCounts', WHERE WHAT IT READS IS OF BULK AT MOST 1048576: true; the input reads as it did. -/
def paramsCountsUptoRow : OpenClaim := { program := "ytcfoigebkcknnaa", sum := "82f22642811533e31f514e23c1effa87aac108e4bac3b8ac67d620ab27aa3319", func := "almonry/almonrylaw05.ParamsCounts", spec := "paramsCounts", apart := false, narrowed := true }
def ParamsCountsUptoSaid : Prop := paramsCountsUptoRow.holds Try.pinned (OpenSpec.upto paramsCountsSpec)

/-- 'almonrylaw05.ParamsBounds', WHERE WHAT IT READS IS OF BULK AT MOST 1048576: true; the input reads as it did. -/
def paramsBoundsUptoRow : OpenClaim := { program := "ytcfoigebkcknnaa", sum := "82f22642811533e31f514e23c1effa87aac108e4bac3b8ac67d620ab27aa3319", func := "almonry/almonrylaw05.ParamsBounds", spec := "paramsBounds", apart := false, narrowed := true }
def ParamsBoundsUptoSaid : Prop := paramsBoundsUptoRow.holds Try.pinned (OpenSpec.upto paramsBoundsSpec)

/-- 'almonrylaw07.RngMixes', WHERE WHAT IT READS IS OF BULK AT MOST 1048576: true; the input reads as it did. -/
def rngMixesUptoRow : OpenClaim := { program := "ytcfoigebkcknnaa", sum := "82f22642811533e31f514e23c1effa87aac108e4bac3b8ac67d620ab27aa3319", func := "almonry/almonrylaw07.RngMixes", spec := "rngMixes", apart := false, narrowed := true }
def RngMixesUptoSaid : Prop := rngMixesUptoRow.holds Try.pinned (OpenSpec.upto rngMixesSpec)

/-- 'almonrylaw07.RngDraws', WHERE WHAT IT READS IS OF BULK AT MOST 1048576: true; the input reads as it did. -/
def rngDrawsUptoRow : OpenClaim := { program := "ytcfoigebkcknnaa", sum := "82f22642811533e31f514e23c1effa87aac108e4bac3b8ac67d620ab27aa3319", func := "almonry/almonrylaw07.RngDraws", spec := "rngDraws", apart := false, narrowed := true }
def RngDrawsUptoSaid : Prop := rngDrawsUptoRow.holds Try.pinned (OpenSpec.upto rngDrawsSpec)

/-- 'almonrylaw07.RngBelow', WHERE WHAT IT READS IS OF BULK AT MOST 1048576: true; the input reads as it did. -/
def rngBelowUptoRow : OpenClaim := { program := "ytcfoigebkcknnaa", sum := "82f22642811533e31f514e23c1effa87aac108e4bac3b8ac67d620ab27aa3319", func := "almonry/almonrylaw07.RngBelow", spec := "rngBelow", apart := false, narrowed := true }
def RngBelowUptoSaid : Prop := rngBelowUptoRow.holds Try.pinned (OpenSpec.upto rngBelowSpec)

/-- 'almonrylaw07.RngApart', WHERE WHAT IT READS IS OF BULK AT MOST 1048576: true; the input reads as it did. -/
def rngApartUptoRow : OpenClaim := { program := "ytcfoigebkcknnaa", sum := "82f22642811533e31f514e23c1effa87aac108e4bac3b8ac67d620ab27aa3319", func := "almonry/almonrylaw07.RngApart", spec := "rngApart", apart := false, narrowed := true }
def RngApartUptoSaid : Prop := rngApartUptoRow.holds Try.pinned (OpenSpec.upto rngApartSpec)

end Rows
end Go.Proofs.Ytcfoigebkcknnaa
