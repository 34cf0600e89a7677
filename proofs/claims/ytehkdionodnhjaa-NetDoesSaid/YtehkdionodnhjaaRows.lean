/-
  No cell of these rows narrows 'for every input' (looked for: loops, veiled, ifaces, maps, wideKeys, modest, calm, conditions, laid).
  DERIVED. THE GIVEN ROWS OF THIS SEAT. 7 by the template 'for every input the law returns true; each argument reads behind the call as it read before'; 0 by the template 'total and deterministic' (their statements: YtehkdionodnhjaaTotals.lean).
  GIVEN WITH THE SEED: the statements are not yours to turn. If you find one false, say at which input.
  Laid BY PROGRAM, IN A SANDBOX (cutbox-rows.mjs): the forced cells as the released guide's own fill.sh prints them over the translation 50e92b3e4a0cd80d… (all of the seat's roots in one cut). By AI agents, Wed Nov 11 2026. No macro, syntax, notation, axiom, sorry.
-/
import Derived.Test.YtehkdionodnhjaaChecked
import GoSem.Claim
import GoSem.ClaimJoined
import GoSem.ClaimMapViews
import Derived.JoinedTies
import Derived.KernelRfl
namespace Go.Proofs.Ytehkdionodnhjaa
/- THE CELL 'sum', in the pinned program and in every row, IS THE sha256 OF THE DUMP (.gsa) THAT YtehkdionodnhjaaProg.lean LOADS. Nothing in Lean hashes anything: it is a label: what it is worth is what the hold of that sum in a sandbox is worth. -/
noncomputable def Try.pinned : Pinned := { name := "ytehkdionodnhjaa", sum := "50e92b3e4a0cd80da4f8f6a49a2fb12f79720c9df2a355df74bb4b05b9bdd8f7", checked := Try.checked }
namespace Rows
def none {H : Type} : Left H := { results := [], args := [] }

/-- 'almonrylaw18.RippleDoes': WHATEVER THE INPUT: true; the input reads as it did. -/
def rippleDoesSpec : ChangeSpec := { name := "rippleDoes", fn := fun _ => fun
  | [d1, d2] => { results := [.lit (.bool true)], args := [d1, d2] }
  | _ => none }
def rippleDoesRow : OpenClaim := { program := "ytehkdionodnhjaa", sum := "50e92b3e4a0cd80da4f8f6a49a2fb12f79720c9df2a355df74bb4b05b9bdd8f7", func := "almonry/almonrylaw18.RippleDoes", spec := "rippleDoes", apart := false }
def RippleDoesSaid : Prop := rippleDoesRow.holds Try.pinned (OpenSpec.ofChange rippleDoesSpec)

/-- ITS FALSE NEIGHBOUR: 'it returns false'. Refute it at one input. -/
def rippleDoesWrong : ChangeSpec := { name := "rippleDoes", fn := fun _ => fun
  | [d1, d2] => { results := [.lit (.bool false)], args := [d1, d2] }
  | _ => none }
def RippleDoesWrongFalsely : Prop := rippleDoesRow.holds Try.pinned (OpenSpec.ofChange rippleDoesWrong)

/-- 'almonrylaw18.RippleOnce': WHATEVER THE INPUT: true; the input reads as it did. -/
def rippleOnceSpec : ChangeSpec := { name := "rippleOnce", fn := fun _ => fun
  | [d1, d2] => { results := [.lit (.bool true)], args := [d1, d2] }
  | _ => none }
def rippleOnceRow : OpenClaim := { program := "ytehkdionodnhjaa", sum := "50e92b3e4a0cd80da4f8f6a49a2fb12f79720c9df2a355df74bb4b05b9bdd8f7", func := "almonry/almonrylaw18.RippleOnce", spec := "rippleOnce", apart := false }
def RippleOnceSaid : Prop := rippleOnceRow.holds Try.pinned (OpenSpec.ofChange rippleOnceSpec)

/-- ITS FALSE NEIGHBOUR: 'it returns false'. Refute it at one input. -/
def rippleOnceWrong : ChangeSpec := { name := "rippleOnce", fn := fun _ => fun
  | [d1, d2] => { results := [.lit (.bool false)], args := [d1, d2] }
  | _ => none }
def RippleOnceWrongFalsely : Prop := rippleOnceRow.holds Try.pinned (OpenSpec.ofChange rippleOnceWrong)

/-- 'almonrylaw21.VerdictNames': WHATEVER THE INPUT: true; the input reads as it did. -/
def verdictNamesSpec : ChangeSpec := { name := "verdictNames", fn := fun _ => fun
  | [d1, d2] => { results := [.lit (.bool true)], args := [d1, d2] }
  | _ => none }
def verdictNamesRow : OpenClaim := { program := "ytehkdionodnhjaa", sum := "50e92b3e4a0cd80da4f8f6a49a2fb12f79720c9df2a355df74bb4b05b9bdd8f7", func := "almonry/almonrylaw21.VerdictNames", spec := "verdictNames", apart := false }
def VerdictNamesSaid : Prop := verdictNamesRow.holds Try.pinned (OpenSpec.ofChange verdictNamesSpec)

/-- ITS FALSE NEIGHBOUR: 'it returns false'. Refute it at one input. -/
def verdictNamesWrong : ChangeSpec := { name := "verdictNames", fn := fun _ => fun
  | [d1, d2] => { results := [.lit (.bool false)], args := [d1, d2] }
  | _ => none }
def VerdictNamesWrongFalsely : Prop := verdictNamesRow.holds Try.pinned (OpenSpec.ofChange verdictNamesWrong)

/-- 'almonrylaw21.VerdictCounts': WHATEVER THE INPUT: true; the input reads as it did. -/
def verdictCountsSpec : ChangeSpec := { name := "verdictCounts", fn := fun _ => fun
  | [d1, d2, d3] => { results := [.lit (.bool true)], args := [d1, d2, d3] }
  | _ => none }
def verdictCountsRow : OpenClaim := { program := "ytehkdionodnhjaa", sum := "50e92b3e4a0cd80da4f8f6a49a2fb12f79720c9df2a355df74bb4b05b9bdd8f7", func := "almonry/almonrylaw21.VerdictCounts", spec := "verdictCounts", apart := false }
def VerdictCountsSaid : Prop := verdictCountsRow.holds Try.pinned (OpenSpec.ofChange verdictCountsSpec)

/-- ITS FALSE NEIGHBOUR: 'it returns false'. Refute it at one input. -/
def verdictCountsWrong : ChangeSpec := { name := "verdictCounts", fn := fun _ => fun
  | [d1, d2, d3] => { results := [.lit (.bool false)], args := [d1, d2, d3] }
  | _ => none }
def VerdictCountsWrongFalsely : Prop := verdictCountsRow.holds Try.pinned (OpenSpec.ofChange verdictCountsWrong)

/-- 'almonrylaw24.NetFlips': WHATEVER THE INPUT: true; the input reads as it did. -/
def netFlipsSpec : ChangeSpec := { name := "netFlips", fn := fun _ => fun
  | [d1, d2] => { results := [.lit (.bool true)], args := [d1, d2] }
  | _ => none }
def netFlipsRow : OpenClaim := { program := "ytehkdionodnhjaa", sum := "50e92b3e4a0cd80da4f8f6a49a2fb12f79720c9df2a355df74bb4b05b9bdd8f7", func := "almonry/almonrylaw24.NetFlips", spec := "netFlips", apart := false }
def NetFlipsSaid : Prop := netFlipsRow.holds Try.pinned (OpenSpec.ofChange netFlipsSpec)

/-- ITS FALSE NEIGHBOUR: 'it returns false'. Refute it at one input. -/
def netFlipsWrong : ChangeSpec := { name := "netFlips", fn := fun _ => fun
  | [d1, d2] => { results := [.lit (.bool false)], args := [d1, d2] }
  | _ => none }
def NetFlipsWrongFalsely : Prop := netFlipsRow.holds Try.pinned (OpenSpec.ofChange netFlipsWrong)

/-- 'almonrylaw24.NetDoes': WHATEVER THE INPUT: true; the input reads as it did. -/
def netDoesSpec : ChangeSpec := { name := "netDoes", fn := fun _ => fun
  | [d1, d2] => { results := [.lit (.bool true)], args := [d1, d2] }
  | _ => none }
def netDoesRow : OpenClaim := { program := "ytehkdionodnhjaa", sum := "50e92b3e4a0cd80da4f8f6a49a2fb12f79720c9df2a355df74bb4b05b9bdd8f7", func := "almonry/almonrylaw24.NetDoes", spec := "netDoes", apart := false }
def NetDoesSaid : Prop := netDoesRow.holds Try.pinned (OpenSpec.ofChange netDoesSpec)

/-- ITS FALSE NEIGHBOUR: 'it returns false'. Refute it at one input. -/
def netDoesWrong : ChangeSpec := { name := "netDoes", fn := fun _ => fun
  | [d1, d2] => { results := [.lit (.bool false)], args := [d1, d2] }
  | _ => none }
def NetDoesWrongFalsely : Prop := netDoesRow.holds Try.pinned (OpenSpec.ofChange netDoesWrong)

/-- 'almonrylaw24.NetKeeps': WHATEVER THE INPUT: true; the input reads as it did. -/
def netKeepsSpec : ChangeSpec := { name := "netKeeps", fn := fun _ => fun
  | [d1, d2] => { results := [.lit (.bool true)], args := [d1, d2] }
  | _ => none }
def netKeepsRow : OpenClaim := { program := "ytehkdionodnhjaa", sum := "50e92b3e4a0cd80da4f8f6a49a2fb12f79720c9df2a355df74bb4b05b9bdd8f7", func := "almonry/almonrylaw24.NetKeeps", spec := "netKeeps", apart := false }
def NetKeepsSaid : Prop := netKeepsRow.holds Try.pinned (OpenSpec.ofChange netKeepsSpec)

/-- ITS FALSE NEIGHBOUR: 'it returns false'. Refute it at one input. -/
def netKeepsWrong : ChangeSpec := { name := "netKeeps", fn := fun _ => fun
  | [d1, d2] => { results := [.lit (.bool false)], args := [d1, d2] }
  | _ => none }
def NetKeepsWrongFalsely : Prop := netKeepsRow.holds Try.pinned (OpenSpec.ofChange netKeepsWrong)

/- THE SECOND FORM. 'bulk': how many values and letters a reading holds, each counted each time it is reached (what is shared counts as often as it is met; a slice's spare places count too). A statement '..UptoSaid' is the law's where the arguments, and the package variables that the reading takes, are together of bulk at most 1048576: NARROWER than '..Said'. Prove '..Said' where nothing that the law and all that it calls make is longer than what came in: it says more and counts as full. Else prove '..UptoSaid'. A law counts once. -/
mutual
def uptoBulk {H : Type} : DataW H → Nat
  | .lit (.string bytes) => bytes.length + 1
  | .lit _ => 1
  | .nil => 1
  | .ptr d => uptoBulk d + 1
  | .slice elems spare => uptoBulkAll elems + uptoBulkAll spare + 1
  | .agg parts => uptoBulkAll parts + 1
  | .iface _ d => uptoBulk d + 1
  | .map entries => uptoBulkEntries entries + 1
  | .held _ => 1
def uptoBulkAll {H : Type} : List (DataW H) → Nat
  | [] => 0
  | d :: r => uptoBulk d + uptoBulkAll r
def uptoBulkEntries {H : Type} : List (Lit × DataW H) → Nat
  | [] => 0
  | x :: r => uptoBulkEntry x + uptoBulkEntries r
def uptoBulkEntry {H : Type} : Lit × DataW H → Nat
  | (.string bytes, d) => bytes.length + uptoBulk d + 1
  | (_, d) => uptoBulk d + 1
 end
def uptoSmall : (H : Type) → List (DataW H) → Bool := fun _ ds => decide (uptoBulkAll ds ≤ 1048576)
def OpenSpec.upto (s : _root_.Go.ChangeSpec) : _root_.Go.OpenSpec := { _root_.Go.OpenSpec.ofChange s with cond := some uptoSmall }

/-- 'almonrylaw18.RippleDoes', WHERE WHAT IT READS IS OF BULK AT MOST 1048576: true; the input reads as it did. -/
def rippleDoesUptoRow : OpenClaim := { program := "ytehkdionodnhjaa", sum := "50e92b3e4a0cd80da4f8f6a49a2fb12f79720c9df2a355df74bb4b05b9bdd8f7", func := "almonry/almonrylaw18.RippleDoes", spec := "rippleDoes", apart := false, narrowed := true }
def RippleDoesUptoSaid : Prop := rippleDoesUptoRow.holds Try.pinned (OpenSpec.upto rippleDoesSpec)

/-- 'almonrylaw18.RippleOnce', WHERE WHAT IT READS IS OF BULK AT MOST 1048576: true; the input reads as it did. -/
def rippleOnceUptoRow : OpenClaim := { program := "ytehkdionodnhjaa", sum := "50e92b3e4a0cd80da4f8f6a49a2fb12f79720c9df2a355df74bb4b05b9bdd8f7", func := "almonry/almonrylaw18.RippleOnce", spec := "rippleOnce", apart := false, narrowed := true }
def RippleOnceUptoSaid : Prop := rippleOnceUptoRow.holds Try.pinned (OpenSpec.upto rippleOnceSpec)

/-- 'almonrylaw21.VerdictNames', WHERE WHAT IT READS IS OF BULK AT MOST 1048576: true; the input reads as it did. -/
def verdictNamesUptoRow : OpenClaim := { program := "ytehkdionodnhjaa", sum := "50e92b3e4a0cd80da4f8f6a49a2fb12f79720c9df2a355df74bb4b05b9bdd8f7", func := "almonry/almonrylaw21.VerdictNames", spec := "verdictNames", apart := false, narrowed := true }
def VerdictNamesUptoSaid : Prop := verdictNamesUptoRow.holds Try.pinned (OpenSpec.upto verdictNamesSpec)

/-- 'almonrylaw21.VerdictCounts', WHERE WHAT IT READS IS OF BULK AT MOST 1048576: true; the input reads as it did. -/
def verdictCountsUptoRow : OpenClaim := { program := "ytehkdionodnhjaa", sum := "50e92b3e4a0cd80da4f8f6a49a2fb12f79720c9df2a355df74bb4b05b9bdd8f7", func := "almonry/almonrylaw21.VerdictCounts", spec := "verdictCounts", apart := false, narrowed := true }
def VerdictCountsUptoSaid : Prop := verdictCountsUptoRow.holds Try.pinned (OpenSpec.upto verdictCountsSpec)

/-- 'almonrylaw24.NetFlips', WHERE WHAT IT READS IS OF BULK AT MOST 1048576: true; the input reads as it did. -/
def netFlipsUptoRow : OpenClaim := { program := "ytehkdionodnhjaa", sum := "50e92b3e4a0cd80da4f8f6a49a2fb12f79720c9df2a355df74bb4b05b9bdd8f7", func := "almonry/almonrylaw24.NetFlips", spec := "netFlips", apart := false, narrowed := true }
def NetFlipsUptoSaid : Prop := netFlipsUptoRow.holds Try.pinned (OpenSpec.upto netFlipsSpec)

/-- 'almonrylaw24.NetDoes', WHERE WHAT IT READS IS OF BULK AT MOST 1048576: true; the input reads as it did. -/
def netDoesUptoRow : OpenClaim := { program := "ytehkdionodnhjaa", sum := "50e92b3e4a0cd80da4f8f6a49a2fb12f79720c9df2a355df74bb4b05b9bdd8f7", func := "almonry/almonrylaw24.NetDoes", spec := "netDoes", apart := false, narrowed := true }
def NetDoesUptoSaid : Prop := netDoesUptoRow.holds Try.pinned (OpenSpec.upto netDoesSpec)

/-- 'almonrylaw24.NetKeeps', WHERE WHAT IT READS IS OF BULK AT MOST 1048576: true; the input reads as it did. -/
def netKeepsUptoRow : OpenClaim := { program := "ytehkdionodnhjaa", sum := "50e92b3e4a0cd80da4f8f6a49a2fb12f79720c9df2a355df74bb4b05b9bdd8f7", func := "almonry/almonrylaw24.NetKeeps", spec := "netKeeps", apart := false, narrowed := true }
def NetKeepsUptoSaid : Prop := netKeepsUptoRow.holds Try.pinned (OpenSpec.upto netKeepsSpec)

end Rows
end Go.Proofs.Ytehkdionodnhjaa
