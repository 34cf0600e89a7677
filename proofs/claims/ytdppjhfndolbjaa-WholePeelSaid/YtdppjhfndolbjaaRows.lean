/-
  No cell of these rows narrows 'for every input' (looked for: loops, veiled, ifaces, maps, wideKeys, modest, calm, conditions, laid).
  DERIVED. THE GIVEN ROWS OF THIS SEAT. 5 by the template 'for every input the law returns true; each argument reads behind the call as it read before'; 0 by the template 'total and deterministic' (their statements: YtdppjhfndolbjaaTotals.lean).
  GIVEN WITH THE SEED: the statements are not yours to turn. If you find one false, say at which input.
  Laid BY PROGRAM, IN A SANDBOX (cutbox-rows.mjs): the forced cells as the released guide's own fill.sh prints them over the translation fb7f657ec195893b… (all of the seat's roots in one cut). By AI agents, Wed Nov 11 2026. No macro, syntax, notation, axiom, sorry.
-/
import Derived.Test.YtdppjhfndolbjaaChecked
import GoSem.Claim
import GoSem.ClaimJoined
import GoSem.ClaimMapViews
import Derived.JoinedTies
import Derived.KernelRfl
namespace Go.Proofs.Ytdppjhfndolbjaa
/- THE CELL 'sum', in the pinned program and in every row, IS THE sha256 OF THE DUMP (.gsa) THAT YtdppjhfndolbjaaProg.lean LOADS. Nothing in Lean hashes anything: it is a label: what it is worth is what the hold of that sum in a sandbox is worth. -/
noncomputable def Try.pinned : Pinned := { name := "ytdppjhfndolbjaa", sum := "fb7f657ec195893b16390e61858f7612a87597e284d7d5e0b7fbf6c8a215d601", checked := Try.checked }
namespace Rows
def none {H : Type} : Left H := { results := [], args := [] }

/-- 'almonrylaw17.BatchSolves': WHATEVER THE INPUT: true; the input reads as it did. -/
def batchSolvesSpec : ChangeSpec := { name := "batchSolves", fn := fun _ => fun
  | [d] => { results := [.lit (.bool true)], args := [d] }
  | _ => none }
def batchSolvesRow : OpenClaim := { program := "ytdppjhfndolbjaa", sum := "fb7f657ec195893b16390e61858f7612a87597e284d7d5e0b7fbf6c8a215d601", func := "almonry/almonrylaw17.BatchSolves", spec := "batchSolves", unfollowed := true, recurses := true, apart := false }
def BatchSolvesSaid : Prop := batchSolvesRow.holds Try.pinned (OpenSpec.ofChange batchSolvesSpec)

/-- ITS FALSE NEIGHBOUR: 'it returns false'. Refute it at one input. -/
def batchSolvesWrong : ChangeSpec := { name := "batchSolves", fn := fun _ => fun
  | [d] => { results := [.lit (.bool false)], args := [d] }
  | _ => none }
def BatchSolvesWrongFalsely : Prop := batchSolvesRow.holds Try.pinned (OpenSpec.ofChange batchSolvesWrong)

/-- 'almonrylaw17.BatchOdd': WHATEVER THE INPUT: true; the input reads as it did. -/
def batchOddSpec : ChangeSpec := { name := "batchOdd", fn := fun _ => fun
  | [d1, d2, d3] => { results := [.lit (.bool true)], args := [d1, d2, d3] }
  | _ => none }
def batchOddRow : OpenClaim := { program := "ytdppjhfndolbjaa", sum := "fb7f657ec195893b16390e61858f7612a87597e284d7d5e0b7fbf6c8a215d601", func := "almonry/almonrylaw17.BatchOdd", spec := "batchOdd", unfollowed := true, recurses := true, apart := false }
def BatchOddSaid : Prop := batchOddRow.holds Try.pinned (OpenSpec.ofChange batchOddSpec)

/-- ITS FALSE NEIGHBOUR: 'it returns false'. Refute it at one input. -/
def batchOddWrong : ChangeSpec := { name := "batchOdd", fn := fun _ => fun
  | [d1, d2, d3] => { results := [.lit (.bool false)], args := [d1, d2, d3] }
  | _ => none }
def BatchOddWrongFalsely : Prop := batchOddRow.holds Try.pinned (OpenSpec.ofChange batchOddWrong)

/-- 'almonrylaw17.BatchOrder': WHATEVER THE INPUT: true; the input reads as it did. -/
def batchOrderSpec : ChangeSpec := { name := "batchOrder", fn := fun _ => fun
  | [d1, d2] => { results := [.lit (.bool true)], args := [d1, d2] }
  | _ => none }
def batchOrderRow : OpenClaim := { program := "ytdppjhfndolbjaa", sum := "fb7f657ec195893b16390e61858f7612a87597e284d7d5e0b7fbf6c8a215d601", func := "almonry/almonrylaw17.BatchOrder", spec := "batchOrder", unfollowed := true, recurses := true, apart := false }
def BatchOrderSaid : Prop := batchOrderRow.holds Try.pinned (OpenSpec.ofChange batchOrderSpec)

/-- ITS FALSE NEIGHBOUR: 'it returns false'. Refute it at one input. -/
def batchOrderWrong : ChangeSpec := { name := "batchOrder", fn := fun _ => fun
  | [d1, d2] => { results := [.lit (.bool false)], args := [d1, d2] }
  | _ => none }
def BatchOrderWrongFalsely : Prop := batchOrderRow.holds Try.pinned (OpenSpec.ofChange batchOrderWrong)

/-- 'almonrylaw17.BatchTwice': WHATEVER THE INPUT: true; the input reads as it did. -/
def batchTwiceSpec : ChangeSpec := { name := "batchTwice", fn := fun _ => fun
  | [d] => { results := [.lit (.bool true)], args := [d] }
  | _ => none }
def batchTwiceRow : OpenClaim := { program := "ytdppjhfndolbjaa", sum := "fb7f657ec195893b16390e61858f7612a87597e284d7d5e0b7fbf6c8a215d601", func := "almonry/almonrylaw17.BatchTwice", spec := "batchTwice", unfollowed := true, recurses := true, apart := false }
def BatchTwiceSaid : Prop := batchTwiceRow.holds Try.pinned (OpenSpec.ofChange batchTwiceSpec)

/-- ITS FALSE NEIGHBOUR: 'it returns false'. Refute it at one input. -/
def batchTwiceWrong : ChangeSpec := { name := "batchTwice", fn := fun _ => fun
  | [d] => { results := [.lit (.bool false)], args := [d] }
  | _ => none }
def BatchTwiceWrongFalsely : Prop := batchTwiceRow.holds Try.pinned (OpenSpec.ofChange batchTwiceWrong)

/-- 'almonrytop.WholePeel': WHATEVER THE INPUT: true; the input reads as it did. -/
def wholePeelSpec : ChangeSpec := { name := "wholePeel", fn := fun _ => fun
  | [d] => { results := [.lit (.bool true)], args := [d] }
  | _ => none }
def wholePeelRow : OpenClaim := { program := "ytdppjhfndolbjaa", sum := "fb7f657ec195893b16390e61858f7612a87597e284d7d5e0b7fbf6c8a215d601", func := "almonry/almonrytop.WholePeel", spec := "wholePeel", unfollowed := true, recurses := true, apart := false }
def WholePeelSaid : Prop := wholePeelRow.holds Try.pinned (OpenSpec.ofChange wholePeelSpec)

/-- ITS FALSE NEIGHBOUR: 'it returns false'. Refute it at one input. -/
def wholePeelWrong : ChangeSpec := { name := "wholePeel", fn := fun _ => fun
  | [d] => { results := [.lit (.bool false)], args := [d] }
  | _ => none }
def WholePeelWrongFalsely : Prop := wholePeelRow.holds Try.pinned (OpenSpec.ofChange wholePeelWrong)

/- THE SECOND FORM. 'bulk': how many values and letters a reading holds, each counted each time it is reached (what is shared counts as often as it is met; a slice's spare places count too). A statement '..UptoSaid' is the law's where the arguments, and the package variables that the reading takes, are together of bulk at most 1048576: NARROWER than '..Said'. Prove '..Said' where nothing that the law and all that it calls make is longer than what came in: it says more and counts as full. Else prove '..UptoSaid'. A law counts once. -/
mutual
def uptoBulk {H : Type} : DataW H → Nat
  | .lit (.string bytes) => bytes.length + 1
  | .lit _ => 1
  | .nil => 1
  | .ptr d => uptoBulk d + 1
  | .slice elems spare => uptoBulkAll elems + uptoBulkAll spare + 1
  | .agg parts => uptoBulkAll parts + 1
  | .iface _ d => uptoBulk d + 1
  | .map entries => uptoBulkEntries entries + 1
  | .held _ => 1
def uptoBulkAll {H : Type} : List (DataW H) → Nat
  | [] => 0
  | d :: r => uptoBulk d + uptoBulkAll r
def uptoBulkEntries {H : Type} : List (Lit × DataW H) → Nat
  | [] => 0
  | x :: r => uptoBulkEntry x + uptoBulkEntries r
def uptoBulkEntry {H : Type} : Lit × DataW H → Nat
  | (.string bytes, d) => bytes.length + uptoBulk d + 1
  | (_, d) => uptoBulk d + 1
 end
def uptoSmall : (H : Type) → List (DataW H) → Bool := fun _ ds => decide (uptoBulkAll ds ≤ 1048576)
def OpenSpec.upto (s : _root_.Go.ChangeSpec) : _root_.Go.OpenSpec := { _root_.Go.OpenSpec.ofChange s with cond := some uptoSmall }

/-- 'almonrylaw17.BatchSolves', WHERE WHAT IT READS IS OF BULK AT MOST 1048576: true; the input reads as it did. -/
def batchSolvesUptoRow : OpenClaim := { program := "ytdppjhfndolbjaa", sum := "fb7f657ec195893b16390e61858f7612a87597e284d7d5e0b7fbf6c8a215d601", func := "almonry/almonrylaw17.BatchSolves", spec := "batchSolves", unfollowed := true, recurses := true, apart := false, narrowed := true }
def BatchSolvesUptoSaid : Prop := batchSolvesUptoRow.holds Try.pinned (OpenSpec.upto batchSolvesSpec)

/-- 'almonrylaw17.BatchOdd', WHERE WHAT IT READS IS OF BULK AT MOST 1048576: true; the input reads as it did. -/
def batchOddUptoRow : OpenClaim := { program := "ytdppjhfndolbjaa", sum := "fb7f657ec195893b16390e61858f7612a87597e284d7d5e0b7fbf6c8a215d601", func := "almonry/almonrylaw17.BatchOdd", spec := "batchOdd", unfollowed := true, recurses := true, apart := false, narrowed := true }
def BatchOddUptoSaid : Prop := batchOddUptoRow.holds Try.pinned (OpenSpec.upto batchOddSpec)

/-- 'almonrylaw17.BatchOrder', WHERE WHAT IT READS IS OF BULK AT MOST 1048576: true; the input reads as it did. -/
def batchOrderUptoRow : OpenClaim := { program := "ytdppjhfndolbjaa", sum := "fb7f657ec195893b16390e61858f7612a87597e284d7d5e0b7fbf6c8a215d601", func := "almonry/almonrylaw17.BatchOrder", spec := "batchOrder", unfollowed := true, recurses := true, apart := false, narrowed := true }
def BatchOrderUptoSaid : Prop := batchOrderUptoRow.holds Try.pinned (OpenSpec.upto batchOrderSpec)

/-- 'almonrylaw17.BatchTwice', WHERE WHAT IT READS IS OF BULK AT MOST 1048576: true; the input reads as it did. -/
def batchTwiceUptoRow : OpenClaim := { program := "ytdppjhfndolbjaa", sum := "fb7f657ec195893b16390e61858f7612a87597e284d7d5e0b7fbf6c8a215d601", func := "almonry/almonrylaw17.BatchTwice", spec := "batchTwice", unfollowed := true, recurses := true, apart := false, narrowed := true }
def BatchTwiceUptoSaid : Prop := batchTwiceUptoRow.holds Try.pinned (OpenSpec.upto batchTwiceSpec)

/-- 'almonrytop.WholePeel', WHERE WHAT IT READS IS OF BULK AT MOST 1048576: true; the input reads as it did. -/
def wholePeelUptoRow : OpenClaim := { program := "ytdppjhfndolbjaa", sum := "fb7f657ec195893b16390e61858f7612a87597e284d7d5e0b7fbf6c8a215d601", func := "almonry/almonrytop.WholePeel", spec := "wholePeel", unfollowed := true, recurses := true, apart := false, narrowed := true }
def WholePeelUptoSaid : Prop := wholePeelUptoRow.holds Try.pinned (OpenSpec.upto wholePeelSpec)

end Rows
end Go.Proofs.Ytdppjhfndolbjaa
