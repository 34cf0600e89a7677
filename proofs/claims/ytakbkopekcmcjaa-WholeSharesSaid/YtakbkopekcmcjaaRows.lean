/-
  No cell of these rows narrows 'for every input' (looked for: loops, veiled, ifaces, maps, wideKeys, modest, calm, conditions, laid).
  DERIVED. THE GIVEN ROWS OF THIS SEAT. 6 by the template 'for every input the law returns true; each argument reads behind the call as it read before'; 0 by the template 'total and deterministic' (their statements: YtakbkopekcmcjaaTotals.lean).
  GIVEN WITH THE SEED: the statements are not yours to turn. If you find one false, say at which input.
  Laid BY PROGRAM, IN A SANDBOX (cutbox-rows.mjs): the forced cells as the released guide's own fill.sh prints them over the translation ccd3af0abda2e0b7… (all of the seat's roots in one cut). By AI agents, Wed Nov 11 2026. No macro, syntax, notation, axiom, sorry.
-/
import Derived.Test.YtakbkopekcmcjaaChecked
import GoSem.Claim
import GoSem.ClaimJoined
import GoSem.ClaimMapViews
import Derived.JoinedTies
import Derived.KernelRfl
namespace Go.Proofs.Ytakbkopekcmcjaa
/- THE CELL 'sum', in the pinned program and in every row, IS THE sha256 OF THE DUMP (.gsa) THAT YtakbkopekcmcjaaProg.lean LOADS. Nothing in Lean hashes anything: it is a label: what it is worth is what the hold of that sum in a sandbox is worth. -/
noncomputable def Try.pinned : Pinned := { name := "ytakbkopekcmcjaa", sum := "ccd3af0abda2e0b73c81517b76dca53a62d0844c2c4b929cb49baf62f57fa613", checked := Try.checked }
namespace Rows
def none {H : Type} : Left H := { results := [], args := [] }

/-- 'almonrylaw08.DegreeTables': WHATEVER THE INPUT: true; the input reads as it did. -/
def degreeTablesSpec : ChangeSpec := { name := "degreeTables", fn := fun _ => fun
  | [d1, d2] => { results := [.lit (.bool true)], args := [d1, d2] }
  | _ => none }
def degreeTablesRow : OpenClaim := { program := "ytakbkopekcmcjaa", sum := "ccd3af0abda2e0b73c81517b76dca53a62d0844c2c4b929cb49baf62f57fa613", func := "almonry/almonrylaw08.DegreeTables", spec := "degreeTables", unfollowed := true, recurses := true, named := ["math/bits.divideError", "math/bits.overflowError"], apart := false }
def DegreeTablesSaid : Prop := degreeTablesRow.holds Try.pinned (OpenSpec.ofChange degreeTablesSpec)

/-- ITS FALSE NEIGHBOUR: 'it returns false'. Refute it at one input. -/
def degreeTablesWrong : ChangeSpec := { name := "degreeTables", fn := fun _ => fun
  | [d1, d2] => { results := [.lit (.bool false)], args := [d1, d2] }
  | _ => none }
def DegreeTablesWrongFalsely : Prop := degreeTablesRow.holds Try.pinned (OpenSpec.ofChange degreeTablesWrong)

/-- 'almonrylaw08.DegreeDraws': WHATEVER THE INPUT: true; the input reads as it did. -/
def degreeDrawsSpec : ChangeSpec := { name := "degreeDraws", fn := fun _ => fun
  | [d1, d2] => { results := [.lit (.bool true)], args := [d1, d2] }
  | _ => none }
def degreeDrawsRow : OpenClaim := { program := "ytakbkopekcmcjaa", sum := "ccd3af0abda2e0b73c81517b76dca53a62d0844c2c4b929cb49baf62f57fa613", func := "almonry/almonrylaw08.DegreeDraws", spec := "degreeDraws", unfollowed := true, recurses := true, named := ["math/bits.divideError", "math/bits.overflowError"], apart := false }
def DegreeDrawsSaid : Prop := degreeDrawsRow.holds Try.pinned (OpenSpec.ofChange degreeDrawsSpec)

/-- ITS FALSE NEIGHBOUR: 'it returns false'. Refute it at one input. -/
def degreeDrawsWrong : ChangeSpec := { name := "degreeDraws", fn := fun _ => fun
  | [d1, d2] => { results := [.lit (.bool false)], args := [d1, d2] }
  | _ => none }
def DegreeDrawsWrongFalsely : Prop := degreeDrawsRow.holds Try.pinned (OpenSpec.ofChange degreeDrawsWrong)

/-- 'almonrylaw08.DegreeRises': WHATEVER THE INPUT: true; the input reads as it did. -/
def degreeRisesSpec : ChangeSpec := { name := "degreeRises", fn := fun _ => fun
  | [d] => { results := [.lit (.bool true)], args := [d] }
  | _ => none }
def degreeRisesRow : OpenClaim := { program := "ytakbkopekcmcjaa", sum := "ccd3af0abda2e0b73c81517b76dca53a62d0844c2c4b929cb49baf62f57fa613", func := "almonry/almonrylaw08.DegreeRises", spec := "degreeRises", unfollowed := true, recurses := true, named := ["math/bits.divideError", "math/bits.overflowError"], apart := false }
def DegreeRisesSaid : Prop := degreeRisesRow.holds Try.pinned (OpenSpec.ofChange degreeRisesSpec)

/-- ITS FALSE NEIGHBOUR: 'it returns false'. Refute it at one input. -/
def degreeRisesWrong : ChangeSpec := { name := "degreeRises", fn := fun _ => fun
  | [d] => { results := [.lit (.bool false)], args := [d] }
  | _ => none }
def DegreeRisesWrongFalsely : Prop := degreeRisesRow.holds Try.pinned (OpenSpec.ofChange degreeRisesWrong)

/-- 'almonrylaw08.DegreeMore': WHATEVER THE INPUT: true; the input reads as it did. -/
def degreeMoreSpec : ChangeSpec := { name := "degreeMore", fn := fun _ => fun
  | [d1, d2, d3] => { results := [.lit (.bool true)], args := [d1, d2, d3] }
  | _ => none }
def degreeMoreRow : OpenClaim := { program := "ytakbkopekcmcjaa", sum := "ccd3af0abda2e0b73c81517b76dca53a62d0844c2c4b929cb49baf62f57fa613", func := "almonry/almonrylaw08.DegreeMore", spec := "degreeMore", unfollowed := true, recurses := true, named := ["math/bits.divideError", "math/bits.overflowError"], apart := false }
def DegreeMoreSaid : Prop := degreeMoreRow.holds Try.pinned (OpenSpec.ofChange degreeMoreSpec)

/-- ITS FALSE NEIGHBOUR: 'it returns false'. Refute it at one input. -/
def degreeMoreWrong : ChangeSpec := { name := "degreeMore", fn := fun _ => fun
  | [d1, d2, d3] => { results := [.lit (.bool false)], args := [d1, d2, d3] }
  | _ => none }
def DegreeMoreWrongFalsely : Prop := degreeMoreRow.holds Try.pinned (OpenSpec.ofChange degreeMoreWrong)

/-- 'almonrytop.WholeSeeds': WHATEVER THE INPUT: true; the input reads as it did. -/
def wholeSeedsSpec : ChangeSpec := { name := "wholeSeeds", fn := fun _ => fun
  | [d1, d2, d3] => { results := [.lit (.bool true)], args := [d1, d2, d3] }
  | _ => none }
def wholeSeedsRow : OpenClaim := { program := "ytakbkopekcmcjaa", sum := "ccd3af0abda2e0b73c81517b76dca53a62d0844c2c4b929cb49baf62f57fa613", func := "almonry/almonrytop.WholeSeeds", spec := "wholeSeeds", unfollowed := true, recurses := true, named := ["math/bits.divideError", "math/bits.overflowError"], apart := false }
def WholeSeedsSaid : Prop := wholeSeedsRow.holds Try.pinned (OpenSpec.ofChange wholeSeedsSpec)

/-- ITS FALSE NEIGHBOUR: 'it returns false'. Refute it at one input. -/
def wholeSeedsWrong : ChangeSpec := { name := "wholeSeeds", fn := fun _ => fun
  | [d1, d2, d3] => { results := [.lit (.bool false)], args := [d1, d2, d3] }
  | _ => none }
def WholeSeedsWrongFalsely : Prop := wholeSeedsRow.holds Try.pinned (OpenSpec.ofChange wholeSeedsWrong)

/-- 'almonrytop.WholeShares': WHATEVER THE INPUT: true; the input reads as it did. -/
def wholeSharesSpec : ChangeSpec := { name := "wholeShares", fn := fun _ => fun
  | [d] => { results := [.lit (.bool true)], args := [d] }
  | _ => none }
def wholeSharesRow : OpenClaim := { program := "ytakbkopekcmcjaa", sum := "ccd3af0abda2e0b73c81517b76dca53a62d0844c2c4b929cb49baf62f57fa613", func := "almonry/almonrytop.WholeShares", spec := "wholeShares", unfollowed := true, recurses := true, named := ["math/bits.divideError", "math/bits.overflowError"], apart := false }
def WholeSharesSaid : Prop := wholeSharesRow.holds Try.pinned (OpenSpec.ofChange wholeSharesSpec)

/-- ITS FALSE NEIGHBOUR: 'it returns false'. Refute it at one input. -/
def wholeSharesWrong : ChangeSpec := { name := "wholeShares", fn := fun _ => fun
  | [d] => { results := [.lit (.bool false)], args := [d] }
  | _ => none }
def WholeSharesWrongFalsely : Prop := wholeSharesRow.holds Try.pinned (OpenSpec.ofChange wholeSharesWrong)

/- THE SECOND FORM. 'bulk': how many values and letters a reading holds, each counted each time it is reached (what is shared counts as often as it is met; a slice's spare places count too). A statement '..UptoSaid' is the law's where the arguments, and the package variables that the reading takes, are together of bulk at most 1048576: NARROWER than '..Said'. Prove '..Said' where nothing that the law and all that it calls make is longer than what came in: it says more and counts as full. Else prove '..UptoSaid'. A law counts once. -/
mutual
def uptoBulk {H : Type} : DataW H → Nat
  | .lit (.string bytes) => bytes.length + 1
  | .lit _ => 1
  | .nil => 1
  | .ptr d => uptoBulk d + 1
  | .slice elems spare => uptoBulkAll elems + uptoBulkAll spare + 1
  | .agg parts => uptoBulkAll parts + 1
  | .iface _ d => uptoBulk d + 1
  | .map entries => uptoBulkEntries entries + 1
  | .held _ => 1
def uptoBulkAll {H : Type} : List (DataW H) → Nat
  | [] => 0
  | d :: r => uptoBulk d + uptoBulkAll r
def uptoBulkEntries {H : Type} : List (Lit × DataW H) → Nat
  | [] => 0
  | x :: r => uptoBulkEntry x + uptoBulkEntries r
def uptoBulkEntry {H : Type} : Lit × DataW H → Nat
  | (.string bytes, d) => bytes.length + uptoBulk d + 1
  | (_, d) => uptoBulk d + 1
 end
def uptoSmall : (H : Type) → List (DataW H) → Bool := fun _ ds => decide (uptoBulkAll ds ≤ 1048576)
def OpenSpec.upto (s : _root_.Go.ChangeSpec) : _root_.Go.OpenSpec := { _root_.Go.OpenSpec.ofChange s with cond := some uptoSmall }

/-- 'almonrylaw08.DegreeTables', WHERE WHAT IT READS IS OF BULK AT MOST 1048576: true; the input reads as it did. -/
def degreeTablesUptoRow : OpenClaim := { program := "ytakbkopekcmcjaa", sum := "ccd3af0abda2e0b73c81517b76dca53a62d0844c2c4b929cb49baf62f57fa613", func := "almonry/almonrylaw08.DegreeTables", spec := "degreeTables", unfollowed := true, recurses := true, named := ["math/bits.divideError", "math/bits.overflowError"], apart := false, narrowed := true }
def DegreeTablesUptoSaid : Prop := degreeTablesUptoRow.holds Try.pinned (OpenSpec.upto degreeTablesSpec)

/-- 'almonrylaw08.DegreeDraws', WHERE WHAT IT READS IS OF BULK AT MOST 1048576: true; the input reads as it did. -/
def degreeDrawsUptoRow : OpenClaim := { program := "ytakbkopekcmcjaa", sum := "ccd3af0abda2e0b73c81517b76dca53a62d0844c2c4b929cb49baf62f57fa613", func := "almonry/almonrylaw08.DegreeDraws", spec := "degreeDraws", unfollowed := true, recurses := true, named := ["math/bits.divideError", "math/bits.overflowError"], apart := false, narrowed := true }
def DegreeDrawsUptoSaid : Prop := degreeDrawsUptoRow.holds Try.pinned (OpenSpec.upto degreeDrawsSpec)

/-- 'almonrylaw08.DegreeRises', WHERE WHAT IT READS IS OF BULK AT MOST 1048576: true; the input reads as it did. -/
def degreeRisesUptoRow : OpenClaim := { program := "ytakbkopekcmcjaa", sum := "ccd3af0abda2e0b73c81517b76dca53a62d0844c2c4b929cb49baf62f57fa613", func := "almonry/almonrylaw08.DegreeRises", spec := "degreeRises", unfollowed := true, recurses := true, named := ["math/bits.divideError", "math/bits.overflowError"], apart := false, narrowed := true }
def DegreeRisesUptoSaid : Prop := degreeRisesUptoRow.holds Try.pinned (OpenSpec.upto degreeRisesSpec)

/-- 'almonrylaw08.DegreeMore', WHERE WHAT IT READS IS OF BULK AT MOST 1048576: true; the input reads as it did. -/
def degreeMoreUptoRow : OpenClaim := { program := "ytakbkopekcmcjaa", sum := "ccd3af0abda2e0b73c81517b76dca53a62d0844c2c4b929cb49baf62f57fa613", func := "almonry/almonrylaw08.DegreeMore", spec := "degreeMore", unfollowed := true, recurses := true, named := ["math/bits.divideError", "math/bits.overflowError"], apart := false, narrowed := true }
def DegreeMoreUptoSaid : Prop := degreeMoreUptoRow.holds Try.pinned (OpenSpec.upto degreeMoreSpec)

/-- 'almonrytop.WholeSeeds', WHERE WHAT IT READS IS OF BULK AT MOST 1048576: true; the input reads as it did. -/
def wholeSeedsUptoRow : OpenClaim := { program := "ytakbkopekcmcjaa", sum := "ccd3af0abda2e0b73c81517b76dca53a62d0844c2c4b929cb49baf62f57fa613", func := "almonry/almonrytop.WholeSeeds", spec := "wholeSeeds", unfollowed := true, recurses := true, named := ["math/bits.divideError", "math/bits.overflowError"], apart := false, narrowed := true }
def WholeSeedsUptoSaid : Prop := wholeSeedsUptoRow.holds Try.pinned (OpenSpec.upto wholeSeedsSpec)

/-- 'almonrytop.WholeShares', WHERE WHAT IT READS IS OF BULK AT MOST 1048576: true; the input reads as it did. -/
def wholeSharesUptoRow : OpenClaim := { program := "ytakbkopekcmcjaa", sum := "ccd3af0abda2e0b73c81517b76dca53a62d0844c2c4b929cb49baf62f57fa613", func := "almonry/almonrytop.WholeShares", spec := "wholeShares", unfollowed := true, recurses := true, named := ["math/bits.divideError", "math/bits.overflowError"], apart := false, narrowed := true }
def WholeSharesUptoSaid : Prop := wholeSharesUptoRow.holds Try.pinned (OpenSpec.upto wholeSharesSpec)

end Rows
end Go.Proofs.Ytakbkopekcmcjaa
