/-
  No cell of these rows narrows 'for every input' (looked for: loops, veiled, ifaces, maps, wideKeys, modest, calm, conditions, laid).
  DERIVED. THE GIVEN ROWS OF THIS SEAT. 11 by the template 'for every input the law returns true; each argument reads behind the call as it read before'; 0 by the template 'total and deterministic' (their statements: YtoiojkjmldlhcaaTotals.lean).
  GIVEN WITH THE SEED: the statements are not yours to turn. If you find one false, say at which input.
  Laid BY PROGRAM, IN A SANDBOX (cutbox-rows.mjs): the forced cells as the released guide's own fill.sh prints them over the translation f462a6d3b3563dc1… (all of the seat's roots in one cut). By AI agents, Wed Nov 11 2026. No macro, syntax, notation, axiom, sorry.
-/
import Derived.Test.YtoiojkjmldlhcaaChecked
import GoSem.Claim
import GoSem.ClaimJoined
import GoSem.ClaimMapViews
import Derived.JoinedTies
import Derived.KernelRfl
namespace Go.Proofs.Ytoiojkjmldlhcaa
/- THE CELL 'sum', in the pinned program and in every row, IS THE sha256 OF THE DUMP (.gsa) THAT YtoiojkjmldlhcaaProg.lean LOADS. Nothing in Lean hashes anything: it is a label: what it is worth is what the hold of that sum in a sandbox is worth. -/
noncomputable def Try.pinned : Pinned := { name := "ytoiojkjmldlhcaa", sum := "f462a6d3b3563dc1cfaf835b02a14467e845efe53d2b9f99563f9700350f8f85", checked := Try.checked }
namespace Rows
def none {H : Type} : Left H := { results := [], args := [] }

/-- 'almonrylaw02.WireBack': WHATEVER THE INPUT: true; the input reads as it did. -/
def wireBackSpec : ChangeSpec := { name := "wireBack", fn := fun _ => fun
  | [d] => { results := [.lit (.bool true)], args := [d] }
  | _ => none }
def wireBackRow : OpenClaim := { program := "ytoiojkjmldlhcaa", sum := "f462a6d3b3563dc1cfaf835b02a14467e845efe53d2b9f99563f9700350f8f85", func := "almonry/almonrylaw02.WireBack", spec := "wireBack", apart := false }
def WireBackSaid : Prop := wireBackRow.holds Try.pinned (OpenSpec.ofChange wireBackSpec)

/-- ITS FALSE NEIGHBOUR: 'it returns false'. Refute it at one input. -/
def wireBackWrong : ChangeSpec := { name := "wireBack", fn := fun _ => fun
  | [d] => { results := [.lit (.bool false)], args := [d] }
  | _ => none }
def WireBackWrongFalsely : Prop := wireBackRow.holds Try.pinned (OpenSpec.ofChange wireBackWrong)

/-- 'almonrylaw02.WireWrites': WHATEVER THE INPUT: true; the input reads as it did. -/
def wireWritesSpec : ChangeSpec := { name := "wireWrites", fn := fun _ => fun
  | [d] => { results := [.lit (.bool true)], args := [d] }
  | _ => none }
def wireWritesRow : OpenClaim := { program := "ytoiojkjmldlhcaa", sum := "f462a6d3b3563dc1cfaf835b02a14467e845efe53d2b9f99563f9700350f8f85", func := "almonry/almonrylaw02.WireWrites", spec := "wireWrites", apart := false }
def WireWritesSaid : Prop := wireWritesRow.holds Try.pinned (OpenSpec.ofChange wireWritesSpec)

/-- ITS FALSE NEIGHBOUR: 'it returns false'. Refute it at one input. -/
def wireWritesWrong : ChangeSpec := { name := "wireWrites", fn := fun _ => fun
  | [d] => { results := [.lit (.bool false)], args := [d] }
  | _ => none }
def WireWritesWrongFalsely : Prop := wireWritesRow.holds Try.pinned (OpenSpec.ofChange wireWritesWrong)

/-- 'almonrylaw02.WireReads': WHATEVER THE INPUT: true; the input reads as it did. -/
def wireReadsSpec : ChangeSpec := { name := "wireReads", fn := fun _ => fun
  | [d1, d2] => { results := [.lit (.bool true)], args := [d1, d2] }
  | _ => none }
def wireReadsRow : OpenClaim := { program := "ytoiojkjmldlhcaa", sum := "f462a6d3b3563dc1cfaf835b02a14467e845efe53d2b9f99563f9700350f8f85", func := "almonry/almonrylaw02.WireReads", spec := "wireReads", apart := false }
def WireReadsSaid : Prop := wireReadsRow.holds Try.pinned (OpenSpec.ofChange wireReadsSpec)

/-- ITS FALSE NEIGHBOUR: 'it returns false'. Refute it at one input. -/
def wireReadsWrong : ChangeSpec := { name := "wireReads", fn := fun _ => fun
  | [d1, d2] => { results := [.lit (.bool false)], args := [d1, d2] }
  | _ => none }
def WireReadsWrongFalsely : Prop := wireReadsRow.holds Try.pinned (OpenSpec.ofChange wireReadsWrong)

/-- 'almonrylaw02.WireParts': WHATEVER THE INPUT: true; the input reads as it did. -/
def wirePartsSpec : ChangeSpec := { name := "wireParts", fn := fun _ => fun
  | [d1, d2] => { results := [.lit (.bool true)], args := [d1, d2] }
  | _ => none }
def wirePartsRow : OpenClaim := { program := "ytoiojkjmldlhcaa", sum := "f462a6d3b3563dc1cfaf835b02a14467e845efe53d2b9f99563f9700350f8f85", func := "almonry/almonrylaw02.WireParts", spec := "wireParts", apart := false }
def WirePartsSaid : Prop := wirePartsRow.holds Try.pinned (OpenSpec.ofChange wirePartsSpec)

/-- ITS FALSE NEIGHBOUR: 'it returns false'. Refute it at one input. -/
def wirePartsWrong : ChangeSpec := { name := "wireParts", fn := fun _ => fun
  | [d1, d2] => { results := [.lit (.bool false)], args := [d1, d2] }
  | _ => none }
def WirePartsWrongFalsely : Prop := wirePartsRow.holds Try.pinned (OpenSpec.ofChange wirePartsWrong)

/-- 'almonrylaw01.CrcSums': WHATEVER THE INPUT: true; the input reads as it did. -/
def crcSumsSpec : ChangeSpec := { name := "crcSums", fn := fun _ => fun
  | [d] => { results := [.lit (.bool true)], args := [d] }
  | _ => none }
def crcSumsRow : OpenClaim := { program := "ytoiojkjmldlhcaa", sum := "f462a6d3b3563dc1cfaf835b02a14467e845efe53d2b9f99563f9700350f8f85", func := "almonry/almonrylaw01.CrcSums", spec := "crcSums", apart := false }
def CrcSumsSaid : Prop := crcSumsRow.holds Try.pinned (OpenSpec.ofChange crcSumsSpec)

/-- ITS FALSE NEIGHBOUR: 'it returns false'. Refute it at one input. -/
def crcSumsWrong : ChangeSpec := { name := "crcSums", fn := fun _ => fun
  | [d] => { results := [.lit (.bool false)], args := [d] }
  | _ => none }
def CrcSumsWrongFalsely : Prop := crcSumsRow.holds Try.pinned (OpenSpec.ofChange crcSumsWrong)

/-- 'almonrylaw01.CrcParts': WHATEVER THE INPUT: true; the input reads as it did. -/
def crcPartsSpec : ChangeSpec := { name := "crcParts", fn := fun _ => fun
  | [d] => { results := [.lit (.bool true)], args := [d] }
  | _ => none }
def crcPartsRow : OpenClaim := { program := "ytoiojkjmldlhcaa", sum := "f462a6d3b3563dc1cfaf835b02a14467e845efe53d2b9f99563f9700350f8f85", func := "almonry/almonrylaw01.CrcParts", spec := "crcParts", apart := false }
def CrcPartsSaid : Prop := crcPartsRow.holds Try.pinned (OpenSpec.ofChange crcPartsSpec)

/-- ITS FALSE NEIGHBOUR: 'it returns false'. Refute it at one input. -/
def crcPartsWrong : ChangeSpec := { name := "crcParts", fn := fun _ => fun
  | [d] => { results := [.lit (.bool false)], args := [d] }
  | _ => none }
def CrcPartsWrongFalsely : Prop := crcPartsRow.holds Try.pinned (OpenSpec.ofChange crcPartsWrong)

/-- 'almonrylaw01.CrcBursts': WHATEVER THE INPUT: true; the input reads as it did. -/
def crcBurstsSpec : ChangeSpec := { name := "crcBursts", fn := fun _ => fun
  | [d1, d2, d3] => { results := [.lit (.bool true)], args := [d1, d2, d3] }
  | _ => none }
def crcBurstsRow : OpenClaim := { program := "ytoiojkjmldlhcaa", sum := "f462a6d3b3563dc1cfaf835b02a14467e845efe53d2b9f99563f9700350f8f85", func := "almonry/almonrylaw01.CrcBursts", spec := "crcBursts", apart := false }
def CrcBurstsSaid : Prop := crcBurstsRow.holds Try.pinned (OpenSpec.ofChange crcBurstsSpec)

/-- ITS FALSE NEIGHBOUR: 'it returns false'. Refute it at one input. -/
def crcBurstsWrong : ChangeSpec := { name := "crcBursts", fn := fun _ => fun
  | [d1, d2, d3] => { results := [.lit (.bool false)], args := [d1, d2, d3] }
  | _ => none }
def CrcBurstsWrongFalsely : Prop := crcBurstsRow.holds Try.pinned (OpenSpec.ofChange crcBurstsWrong)

/-- 'almonrylaw01.CrcLinear': WHATEVER THE INPUT: true; the input reads as it did. -/
def crcLinearSpec : ChangeSpec := { name := "crcLinear", fn := fun _ => fun
  | [d1, d2, d3] => { results := [.lit (.bool true)], args := [d1, d2, d3] }
  | _ => none }
def crcLinearRow : OpenClaim := { program := "ytoiojkjmldlhcaa", sum := "f462a6d3b3563dc1cfaf835b02a14467e845efe53d2b9f99563f9700350f8f85", func := "almonry/almonrylaw01.CrcLinear", spec := "crcLinear", apart := false }
def CrcLinearSaid : Prop := crcLinearRow.holds Try.pinned (OpenSpec.ofChange crcLinearSpec)

/-- ITS FALSE NEIGHBOUR: 'it returns false'. Refute it at one input. -/
def crcLinearWrong : ChangeSpec := { name := "crcLinear", fn := fun _ => fun
  | [d1, d2, d3] => { results := [.lit (.bool false)], args := [d1, d2, d3] }
  | _ => none }
def CrcLinearWrongFalsely : Prop := crcLinearRow.holds Try.pinned (OpenSpec.ofChange crcLinearWrong)

/-- 'almonrylaw01.CrcConstant': WHATEVER THE INPUT: true; the input reads as it did. -/
def crcConstantSpec : ChangeSpec := { name := "crcConstant", fn := fun _ => fun
  | [d1, d2] => { results := [.lit (.bool true)], args := [d1, d2] }
  | _ => none }
def crcConstantRow : OpenClaim := { program := "ytoiojkjmldlhcaa", sum := "f462a6d3b3563dc1cfaf835b02a14467e845efe53d2b9f99563f9700350f8f85", func := "almonry/almonrylaw01.CrcConstant", spec := "crcConstant", apart := false }
def CrcConstantSaid : Prop := crcConstantRow.holds Try.pinned (OpenSpec.ofChange crcConstantSpec)

/-- ITS FALSE NEIGHBOUR: 'it returns false'. Refute it at one input. -/
def crcConstantWrong : ChangeSpec := { name := "crcConstant", fn := fun _ => fun
  | [d1, d2] => { results := [.lit (.bool false)], args := [d1, d2] }
  | _ => none }
def CrcConstantWrongFalsely : Prop := crcConstantRow.holds Try.pinned (OpenSpec.ofChange crcConstantWrong)

/-- 'almonrylaw01.CrcOne': WHATEVER THE INPUT: true; the input reads as it did. -/
def crcOneSpec : ChangeSpec := { name := "crcOne", fn := fun _ => fun
  | [d1, d2, d3] => { results := [.lit (.bool true)], args := [d1, d2, d3] }
  | _ => none }
def crcOneRow : OpenClaim := { program := "ytoiojkjmldlhcaa", sum := "f462a6d3b3563dc1cfaf835b02a14467e845efe53d2b9f99563f9700350f8f85", func := "almonry/almonrylaw01.CrcOne", spec := "crcOne", apart := false }
def CrcOneSaid : Prop := crcOneRow.holds Try.pinned (OpenSpec.ofChange crcOneSpec)

/-- ITS FALSE NEIGHBOUR: 'it returns false'. Refute it at one input. -/
def crcOneWrong : ChangeSpec := { name := "crcOne", fn := fun _ => fun
  | [d1, d2, d3] => { results := [.lit (.bool false)], args := [d1, d2, d3] }
  | _ => none }
def CrcOneWrongFalsely : Prop := crcOneRow.holds Try.pinned (OpenSpec.ofChange crcOneWrong)

/-- 'almonrytop.WholeSealed': WHATEVER THE INPUT: true; the input reads as it did. -/
def wholeSealedSpec : ChangeSpec := { name := "wholeSealed", fn := fun _ => fun
  | [d1, d2, d3] => { results := [.lit (.bool true)], args := [d1, d2, d3] }
  | _ => none }
def wholeSealedRow : OpenClaim := { program := "ytoiojkjmldlhcaa", sum := "f462a6d3b3563dc1cfaf835b02a14467e845efe53d2b9f99563f9700350f8f85", func := "almonry/almonrytop.WholeSealed", spec := "wholeSealed", apart := false }
def WholeSealedSaid : Prop := wholeSealedRow.holds Try.pinned (OpenSpec.ofChange wholeSealedSpec)

/-- ITS FALSE NEIGHBOUR: 'it returns false'. Refute it at one input. -/
def wholeSealedWrong : ChangeSpec := { name := "wholeSealed", fn := fun _ => fun
  | [d1, d2, d3] => { results := [.lit (.bool false)], args := [d1, d2, d3] }
  | _ => none }
def WholeSealedWrongFalsely : Prop := wholeSealedRow.holds Try.pinned (OpenSpec.ofChange wholeSealedWrong)

/- THE SECOND FORM. 'bulk': how many values and letters a reading holds, each counted each time it is reached (what is shared counts as often as it is met; a slice's spare places count too). A statement '..UptoSaid' is the law's where the arguments, and the package variables that the reading takes, are together of bulk at most 1048576: NARROWER than '..Said'. Prove '..Said' where nothing that the law and all that it calls make is longer than what came in: it says more and counts as full. Else prove '..UptoSaid'. A law counts once. -/
mutual
def uptoBulk {H : Type} : DataW H → Nat
  | .lit (.string bytes) => bytes.length + 1
  | .lit _ => 1
  | .nil => 1
  | .ptr d => uptoBulk d + 1
  | .slice elems spare => uptoBulkAll elems + uptoBulkAll spare + 1
  | .agg parts => uptoBulkAll parts + 1
  | .iface _ d => uptoBulk d + 1
  | .map entries => uptoBulkEntries entries + 1
  | .held _ => 1
def uptoBulkAll {H : Type} : List (DataW H) → Nat
  | [] => 0
  | d :: r => uptoBulk d + uptoBulkAll r
def uptoBulkEntries {H : Type} : List (Lit × DataW H) → Nat
  | [] => 0
  | x :: r => uptoBulkEntry x + uptoBulkEntries r
def uptoBulkEntry {H : Type} : Lit × DataW H → Nat
  | (.string bytes, d) => bytes.length + uptoBulk d + 1
  | (_, d) => uptoBulk d + 1
 end
def uptoSmall : (H : Type) → List (DataW H) → Bool := fun _ ds => decide (uptoBulkAll ds ≤ 1048576)
def OpenSpec.upto (s : _root_.Go.ChangeSpec) : _root_.Go.OpenSpec := { _root_.Go.OpenSpec.ofChange s with cond := some uptoSmall }

/-- 'almonrylaw02.WireBack', WHERE WHAT IT READS IS OF BULK AT MOST 1048576: true; the input reads as it did. -/
def wireBackUptoRow : OpenClaim := { program := "ytoiojkjmldlhcaa", sum := "f462a6d3b3563dc1cfaf835b02a14467e845efe53d2b9f99563f9700350f8f85", func := "almonry/almonrylaw02.WireBack", spec := "wireBack", apart := false, narrowed := true }
def WireBackUptoSaid : Prop := wireBackUptoRow.holds Try.pinned (OpenSpec.upto wireBackSpec)

/-- 'almonrylaw02.WireWrites', WHERE WHAT IT READS IS OF BULK AT MOST 1048576: true; the input reads as it did. -/
def wireWritesUptoRow : OpenClaim := { program := "ytoiojkjmldlhcaa", sum := "f462a6d3b3563dc1cfaf835b02a14467e845efe53d2b9f99563f9700350f8f85", func := "almonry/almonrylaw02.WireWrites", spec := "wireWrites", apart := false, narrowed := true }
def WireWritesUptoSaid : Prop := wireWritesUptoRow.holds Try.pinned (OpenSpec.upto wireWritesSpec)

/-- 'almonrylaw02.WireReads', WHERE WHAT IT READS IS OF BULK AT MOST 1048576: true; the input reads as it did. -/
def wireReadsUptoRow : OpenClaim := { program := "ytoiojkjmldlhcaa", sum := "f462a6d3b3563dc1cfaf835b02a14467e845efe53d2b9f99563f9700350f8f85", func := "almonry/almonrylaw02.WireReads", spec := "wireReads", apart := false, narrowed := true }
def WireReadsUptoSaid : Prop := wireReadsUptoRow.holds Try.pinned (OpenSpec.upto wireReadsSpec)

/-- 'almonrylaw02.WireParts', WHERE WHAT IT READS IS OF BULK AT MOST 1048576: true; the input reads as it did. -/
def wirePartsUptoRow : OpenClaim := { program := "ytoiojkjmldlhcaa", sum := "f462a6d3b3563dc1cfaf835b02a14467e845efe53d2b9f99563f9700350f8f85", func := "almonry/almonrylaw02.WireParts", spec := "wireParts", apart := false, narrowed := true }
def WirePartsUptoSaid : Prop := wirePartsUptoRow.holds Try.pinned (OpenSpec.upto wirePartsSpec)

/-- 'almonrylaw01.CrcSums', WHERE WHAT IT READS IS OF BULK AT MOST 1048576: true; the input reads as it did. -/
def crcSumsUptoRow : OpenClaim := { program := "ytoiojkjmldlhcaa", sum := "f462a6d3b3563dc1cfaf835b02a14467e845efe53d2b9f99563f9700350f8f85", func := "almonry/almonrylaw01.CrcSums", spec := "crcSums", apart := false, narrowed := true }
def CrcSumsUptoSaid : Prop := crcSumsUptoRow.holds Try.pinned (OpenSpec.upto crcSumsSpec)

/-- 'almonrylaw01.CrcParts', WHERE WHAT IT READS IS OF BULK AT MOST 1048576: true; the input reads as it did. -/
def crcPartsUptoRow : OpenClaim := { program := "ytoiojkjmldlhcaa", sum := "f462a6d3b3563dc1cfaf835b02a14467e845efe53d2b9f99563f9700350f8f85", func := "almonry/almonrylaw01.CrcParts", spec := "crcParts", apart := false, narrowed := true }
def CrcPartsUptoSaid : Prop := crcPartsUptoRow.holds Try.pinned (OpenSpec.upto crcPartsSpec)

/-- 'almonrylaw01.CrcBursts', WHERE WHAT IT READS IS OF BULK AT MOST 1048576: true; the input reads as it did. -/
def crcBurstsUptoRow : OpenClaim := { program := "ytoiojkjmldlhcaa", sum := "f462a6d3b3563dc1cfaf835b02a14467e845efe53d2b9f99563f9700350f8f85", func := "almonry/almonrylaw01.CrcBursts", spec := "crcBursts", apart := false, narrowed := true }
def CrcBurstsUptoSaid : Prop := crcBurstsUptoRow.holds Try.pinned (OpenSpec.upto crcBurstsSpec)

/-- 'almonrylaw01.CrcLinear', WHERE WHAT IT READS IS OF BULK AT MOST 1048576: true; the input reads as it did. -/
def crcLinearUptoRow : OpenClaim := { program := "ytoiojkjmldlhcaa", sum := "f462a6d3b3563dc1cfaf835b02a14467e845efe53d2b9f99563f9700350f8f85", func := "almonry/almonrylaw01.CrcLinear", spec := "crcLinear", apart := false, narrowed := true }
def CrcLinearUptoSaid : Prop := crcLinearUptoRow.holds Try.pinned (OpenSpec.upto crcLinearSpec)

/-- 'almonrylaw01.CrcConstant', WHERE WHAT IT READS IS OF BULK AT MOST 1048576: true; the input reads as it did. -/
def crcConstantUptoRow : OpenClaim := { program := "ytoiojkjmldlhcaa", sum := "f462a6d3b3563dc1cfaf835b02a14467e845efe53d2b9f99563f9700350f8f85", func := "almonry/almonrylaw01.CrcConstant", spec := "crcConstant", apart := false, narrowed := true }
def CrcConstantUptoSaid : Prop := crcConstantUptoRow.holds Try.pinned (OpenSpec.upto crcConstantSpec)

/-- 'almonrylaw01.CrcOne', WHERE WHAT IT READS IS OF BULK AT MOST 1048576: true; the input reads as it did. -/
def crcOneUptoRow : OpenClaim := { program := "ytoiojkjmldlhcaa", sum := "f462a6d3b3563dc1cfaf835b02a14467e845efe53d2b9f99563f9700350f8f85", func := "almonry/almonrylaw01.CrcOne", spec := "crcOne", apart := false, narrowed := true }
def CrcOneUptoSaid : Prop := crcOneUptoRow.holds Try.pinned (OpenSpec.upto crcOneSpec)

/-- 'almonrytop.WholeSealed', WHERE WHAT IT READS IS OF BULK AT MOST 1048576: true; the input reads as it did. -/
def wholeSealedUptoRow : OpenClaim := { program := "ytoiojkjmldlhcaa", sum := "f462a6d3b3563dc1cfaf835b02a14467e845efe53d2b9f99563f9700350f8f85", func := "almonry/almonrytop.WholeSealed", spec := "wholeSealed", apart := false, narrowed := true }
def WholeSealedUptoSaid : Prop := wholeSealedUptoRow.holds Try.pinned (OpenSpec.upto wholeSealedSpec)

end Rows
end Go.Proofs.Ytoiojkjmldlhcaa
