/-
  No cell of these rows narrows 'for every input' (looked for: loops, veiled, ifaces, maps, wideKeys, modest, calm, conditions, laid).
  DERIVED. THE GIVEN ROWS OF THIS SEAT. 9 by the template 'for every input the law returns true; each argument reads behind the call as it read before'; 0 by the template 'total and deterministic' (their statements: YthcbjhmckbfkmaaTotals.lean).
  GIVEN WITH THE SEED: the statements are not yours to turn. If you find one false, say at which input.
  Laid BY PROGRAM, IN A SANDBOX (cutbox-rows.mjs): the forced cells as the released guide's own fill.sh prints them over the translation 508f84eed29159e1… (all of the seat's roots in one cut). By AI agents, Wed Nov 11 2026. No macro, syntax, notation, axiom, sorry.
-/
import Derived.Test.YthcbjhmckbfkmaaChecked
import GoSem.Claim
import GoSem.ClaimJoined
import GoSem.ClaimMapViews
import Derived.JoinedTies
import Derived.KernelRfl
namespace Go.Proofs.Ythcbjhmckbfkmaa
/- THE CELL 'sum', in the pinned program and in every row, IS THE sha256 OF THE DUMP (.gsa) THAT YthcbjhmckbfkmaaProg.lean LOADS. Nothing in Lean hashes anything: it is a label: what it is worth is what the hold of that sum in a sandbox is worth. -/
noncomputable def Try.pinned : Pinned := { name := "ythcbjhmckbfkmaa", sum := "508f84eed29159e1f1ba122ba605ceae8a35a16c7a795d0396519579fb9a8155", checked := Try.checked }
namespace Rows
def none {H : Type} : Left H := { results := [], args := [] }

/-- 'almonrylaw03.BlockXors': WHATEVER THE INPUT: true; the input reads as it did. -/
def blockXorsSpec : ChangeSpec := { name := "blockXors", fn := fun _ => fun
  | [d1, d2, d3] => { results := [.lit (.bool true)], args := [d1, d2, d3] }
  | _ => none }
def blockXorsRow : OpenClaim := { program := "ythcbjhmckbfkmaa", sum := "508f84eed29159e1f1ba122ba605ceae8a35a16c7a795d0396519579fb9a8155", func := "almonry/almonrylaw03.BlockXors", spec := "blockXors", apart := false }
def BlockXorsSaid : Prop := blockXorsRow.holds Try.pinned (OpenSpec.ofChange blockXorsSpec)

/-- ITS FALSE NEIGHBOUR: 'it returns false'. Refute it at one input. -/
def blockXorsWrong : ChangeSpec := { name := "blockXors", fn := fun _ => fun
  | [d1, d2, d3] => { results := [.lit (.bool false)], args := [d1, d2, d3] }
  | _ => none }
def BlockXorsWrongFalsely : Prop := blockXorsRow.holds Try.pinned (OpenSpec.ofChange blockXorsWrong)

/-- 'almonrylaw03.BlockPieces': WHATEVER THE INPUT: true; the input reads as it did. -/
def blockPiecesSpec : ChangeSpec := { name := "blockPieces", fn := fun _ => fun
  | [d1, d2, d3] => { results := [.lit (.bool true)], args := [d1, d2, d3] }
  | _ => none }
def blockPiecesRow : OpenClaim := { program := "ythcbjhmckbfkmaa", sum := "508f84eed29159e1f1ba122ba605ceae8a35a16c7a795d0396519579fb9a8155", func := "almonry/almonrylaw03.BlockPieces", spec := "blockPieces", apart := false }
def BlockPiecesSaid : Prop := blockPiecesRow.holds Try.pinned (OpenSpec.ofChange blockPiecesSpec)

/-- ITS FALSE NEIGHBOUR: 'it returns false'. Refute it at one input. -/
def blockPiecesWrong : ChangeSpec := { name := "blockPieces", fn := fun _ => fun
  | [d1, d2, d3] => { results := [.lit (.bool false)], args := [d1, d2, d3] }
  | _ => none }
def BlockPiecesWrongFalsely : Prop := blockPiecesRow.holds Try.pinned (OpenSpec.ofChange blockPiecesWrong)

/-- 'almonrylaw03.BlockSums': WHATEVER THE INPUT: true; the input reads as it did. -/
def blockSumsSpec : ChangeSpec := { name := "blockSums", fn := fun _ => fun
  | [d1, d2] => { results := [.lit (.bool true)], args := [d1, d2] }
  | _ => none }
def blockSumsRow : OpenClaim := { program := "ythcbjhmckbfkmaa", sum := "508f84eed29159e1f1ba122ba605ceae8a35a16c7a795d0396519579fb9a8155", func := "almonry/almonrylaw03.BlockSums", spec := "blockSums", apart := false }
def BlockSumsSaid : Prop := blockSumsRow.holds Try.pinned (OpenSpec.ofChange blockSumsSpec)

/-- ITS FALSE NEIGHBOUR: 'it returns false'. Refute it at one input. -/
def blockSumsWrong : ChangeSpec := { name := "blockSums", fn := fun _ => fun
  | [d1, d2] => { results := [.lit (.bool false)], args := [d1, d2] }
  | _ => none }
def BlockSumsWrongFalsely : Prop := blockSumsRow.holds Try.pinned (OpenSpec.ofChange blockSumsWrong)

/-- 'almonrylaw03.BlockTwice': WHATEVER THE INPUT: true; the input reads as it did. -/
def blockTwiceSpec : ChangeSpec := { name := "blockTwice", fn := fun _ => fun
  | [d1, d2, d3] => { results := [.lit (.bool true)], args := [d1, d2, d3] }
  | _ => none }
def blockTwiceRow : OpenClaim := { program := "ythcbjhmckbfkmaa", sum := "508f84eed29159e1f1ba122ba605ceae8a35a16c7a795d0396519579fb9a8155", func := "almonry/almonrylaw03.BlockTwice", spec := "blockTwice", apart := false }
def BlockTwiceSaid : Prop := blockTwiceRow.holds Try.pinned (OpenSpec.ofChange blockTwiceSpec)

/-- ITS FALSE NEIGHBOUR: 'it returns false'. Refute it at one input. -/
def blockTwiceWrong : ChangeSpec := { name := "blockTwice", fn := fun _ => fun
  | [d1, d2, d3] => { results := [.lit (.bool false)], args := [d1, d2, d3] }
  | _ => none }
def BlockTwiceWrongFalsely : Prop := blockTwiceRow.holds Try.pinned (OpenSpec.ofChange blockTwiceWrong)

/-- 'almonrylaw04.ArenaRoom': WHATEVER THE INPUT: true; the input reads as it did. -/
def arenaRoomSpec : ChangeSpec := { name := "arenaRoom", fn := fun _ => fun
  | [d1, d2, d3] => { results := [.lit (.bool true)], args := [d1, d2, d3] }
  | _ => none }
def arenaRoomRow : OpenClaim := { program := "ythcbjhmckbfkmaa", sum := "508f84eed29159e1f1ba122ba605ceae8a35a16c7a795d0396519579fb9a8155", func := "almonry/almonrylaw04.ArenaRoom", spec := "arenaRoom", apart := false }
def ArenaRoomSaid : Prop := arenaRoomRow.holds Try.pinned (OpenSpec.ofChange arenaRoomSpec)

/-- ITS FALSE NEIGHBOUR: 'it returns false'. Refute it at one input. -/
def arenaRoomWrong : ChangeSpec := { name := "arenaRoom", fn := fun _ => fun
  | [d1, d2, d3] => { results := [.lit (.bool false)], args := [d1, d2, d3] }
  | _ => none }
def ArenaRoomWrongFalsely : Prop := arenaRoomRow.holds Try.pinned (OpenSpec.ofChange arenaRoomWrong)

/-- 'almonrylaw04.ArenaOwn': WHATEVER THE INPUT: true; the input reads as it did. -/
def arenaOwnSpec : ChangeSpec := { name := "arenaOwn", fn := fun _ => fun
  | [d] => { results := [.lit (.bool true)], args := [d] }
  | _ => none }
def arenaOwnRow : OpenClaim := { program := "ythcbjhmckbfkmaa", sum := "508f84eed29159e1f1ba122ba605ceae8a35a16c7a795d0396519579fb9a8155", func := "almonry/almonrylaw04.ArenaOwn", spec := "arenaOwn", apart := false }
def ArenaOwnSaid : Prop := arenaOwnRow.holds Try.pinned (OpenSpec.ofChange arenaOwnSpec)

/-- ITS FALSE NEIGHBOUR: 'it returns false'. Refute it at one input. -/
def arenaOwnWrong : ChangeSpec := { name := "arenaOwn", fn := fun _ => fun
  | [d] => { results := [.lit (.bool false)], args := [d] }
  | _ => none }
def ArenaOwnWrongFalsely : Prop := arenaOwnRow.holds Try.pinned (OpenSpec.ofChange arenaOwnWrong)

/-- 'almonrylaw04.ArenaDoes': WHATEVER THE INPUT: true; the input reads as it did. -/
def arenaDoesSpec : ChangeSpec := { name := "arenaDoes", fn := fun _ => fun
  | [d1, d2, d3] => { results := [.lit (.bool true)], args := [d1, d2, d3] }
  | _ => none }
def arenaDoesRow : OpenClaim := { program := "ythcbjhmckbfkmaa", sum := "508f84eed29159e1f1ba122ba605ceae8a35a16c7a795d0396519579fb9a8155", func := "almonry/almonrylaw04.ArenaDoes", spec := "arenaDoes", apart := false }
def ArenaDoesSaid : Prop := arenaDoesRow.holds Try.pinned (OpenSpec.ofChange arenaDoesSpec)

/-- ITS FALSE NEIGHBOUR: 'it returns false'. Refute it at one input. -/
def arenaDoesWrong : ChangeSpec := { name := "arenaDoes", fn := fun _ => fun
  | [d1, d2, d3] => { results := [.lit (.bool false)], args := [d1, d2, d3] }
  | _ => none }
def ArenaDoesWrongFalsely : Prop := arenaDoesRow.holds Try.pinned (OpenSpec.ofChange arenaDoesWrong)

/-- 'almonrylaw04.ArenaOnto': WHATEVER THE INPUT: true; the input reads as it did. -/
def arenaOntoSpec : ChangeSpec := { name := "arenaOnto", fn := fun _ => fun
  | [d1, d2] => { results := [.lit (.bool true)], args := [d1, d2] }
  | _ => none }
def arenaOntoRow : OpenClaim := { program := "ythcbjhmckbfkmaa", sum := "508f84eed29159e1f1ba122ba605ceae8a35a16c7a795d0396519579fb9a8155", func := "almonry/almonrylaw04.ArenaOnto", spec := "arenaOnto", apart := false }
def ArenaOntoSaid : Prop := arenaOntoRow.holds Try.pinned (OpenSpec.ofChange arenaOntoSpec)

/-- ITS FALSE NEIGHBOUR: 'it returns false'. Refute it at one input. -/
def arenaOntoWrong : ChangeSpec := { name := "arenaOnto", fn := fun _ => fun
  | [d1, d2] => { results := [.lit (.bool false)], args := [d1, d2] }
  | _ => none }
def ArenaOntoWrongFalsely : Prop := arenaOntoRow.holds Try.pinned (OpenSpec.ofChange arenaOntoWrong)

/-- 'almonrytop.WholeHeap': WHATEVER THE INPUT: true; the input reads as it did. -/
def wholeHeapSpec : ChangeSpec := { name := "wholeHeap", fn := fun _ => fun
  | [d1, d2] => { results := [.lit (.bool true)], args := [d1, d2] }
  | _ => none }
def wholeHeapRow : OpenClaim := { program := "ythcbjhmckbfkmaa", sum := "508f84eed29159e1f1ba122ba605ceae8a35a16c7a795d0396519579fb9a8155", func := "almonry/almonrytop.WholeHeap", spec := "wholeHeap", apart := false }
def WholeHeapSaid : Prop := wholeHeapRow.holds Try.pinned (OpenSpec.ofChange wholeHeapSpec)

/-- ITS FALSE NEIGHBOUR: 'it returns false'. Refute it at one input. -/
def wholeHeapWrong : ChangeSpec := { name := "wholeHeap", fn := fun _ => fun
  | [d1, d2] => { results := [.lit (.bool false)], args := [d1, d2] }
  | _ => none }
def WholeHeapWrongFalsely : Prop := wholeHeapRow.holds Try.pinned (OpenSpec.ofChange wholeHeapWrong)

/- THE SECOND FORM. 'bulk': how many values and letters a reading holds, each counted each time it is reached (what is shared counts as often as it is met; a slice's spare places count too). A statement '..UptoSaid' is the law's where the arguments, and the package variables that the reading takes, are together of bulk at most 1048576: NARROWER than '..Said'. Prove '..Said' where nothing that the law and all that it calls make is longer than what came in: it says more and counts as full. Else prove '..UptoSaid'. A law counts once. -/
mutual
def uptoBulk {H : Type} : DataW H → Nat
  | .lit (.string bytes) => bytes.length + 1
  | .lit _ => 1
  | .nil => 1
  | .ptr d => uptoBulk d + 1
  | .slice elems spare => uptoBulkAll elems + uptoBulkAll spare + 1
  | .agg parts => uptoBulkAll parts + 1
  | .iface _ d => uptoBulk d + 1
  | .map entries => uptoBulkEntries entries + 1
  | .held _ => 1
def uptoBulkAll {H : Type} : List (DataW H) → Nat
  | [] => 0
  | d :: r => uptoBulk d + uptoBulkAll r
def uptoBulkEntries {H : Type} : List (Lit × DataW H) → Nat
  | [] => 0
  | x :: r => uptoBulkEntry x + uptoBulkEntries r
def uptoBulkEntry {H : Type} : Lit × DataW H → Nat
  | (.string bytes, d) => bytes.length + uptoBulk d + 1
  | (_, d) => uptoBulk d + 1
 end
def uptoSmall : (H : Type) → List (DataW H) → Bool := fun _ ds => decide (uptoBulkAll ds ≤ 1048576)
def OpenSpec.upto (s : _root_.Go.ChangeSpec) : _root_.Go.OpenSpec := { _root_.Go.OpenSpec.ofChange s with cond := some uptoSmall }

/-- 'almonrylaw03.BlockXors', WHERE WHAT IT READS IS OF BULK AT MOST 1048576: true; the input reads as it did. -/
def blockXorsUptoRow : OpenClaim := { program := "ythcbjhmckbfkmaa", sum := "508f84eed29159e1f1ba122ba605ceae8a35a16c7a795d0396519579fb9a8155", func := "almonry/almonrylaw03.BlockXors", spec := "blockXors", apart := false, narrowed := true }
def BlockXorsUptoSaid : Prop := blockXorsUptoRow.holds Try.pinned (OpenSpec.upto blockXorsSpec)

/-- 'almonrylaw03.BlockPieces', WHERE WHAT IT READS IS OF BULK AT MOST 1048576: true; the input reads as it did. -/
def blockPiecesUptoRow : OpenClaim := { program := "ythcbjhmckbfkmaa", sum := "508f84eed29159e1f1ba122ba605ceae8a35a16c7a795d0396519579fb9a8155", func := "almonry/almonrylaw03.BlockPieces", spec := "blockPieces", apart := false, narrowed := true }
def BlockPiecesUptoSaid : Prop := blockPiecesUptoRow.holds Try.pinned (OpenSpec.upto blockPiecesSpec)

/-- 'almonrylaw03.BlockSums', WHERE WHAT IT READS IS OF BULK AT MOST 1048576: true; the input reads as it did. -/
def blockSumsUptoRow : OpenClaim := { program := "ythcbjhmckbfkmaa", sum := "508f84eed29159e1f1ba122ba605ceae8a35a16c7a795d0396519579fb9a8155", func := "almonry/almonrylaw03.BlockSums", spec := "blockSums", apart := false, narrowed := true }
def BlockSumsUptoSaid : Prop := blockSumsUptoRow.holds Try.pinned (OpenSpec.upto blockSumsSpec)

/-- 'almonrylaw03.BlockTwice', WHERE WHAT IT READS IS OF BULK AT MOST 1048576: true; the input reads as it did. -/
def blockTwiceUptoRow : OpenClaim := { program := "ythcbjhmckbfkmaa", sum := "508f84eed29159e1f1ba122ba605ceae8a35a16c7a795d0396519579fb9a8155", func := "almonry/almonrylaw03.BlockTwice", spec := "blockTwice", apart := false, narrowed := true }
def BlockTwiceUptoSaid : Prop := blockTwiceUptoRow.holds Try.pinned (OpenSpec.upto blockTwiceSpec)

/-- 'almonrylaw04.ArenaRoom', WHERE WHAT IT READS IS OF BULK AT MOST 1048576: true; the input reads as it did. -/
def arenaRoomUptoRow : OpenClaim := { program := "ythcbjhmckbfkmaa", sum := "508f84eed29159e1f1ba122ba605ceae8a35a16c7a795d0396519579fb9a8155", func := "almonry/almonrylaw04.ArenaRoom", spec := "arenaRoom", apart := false, narrowed := true }
def ArenaRoomUptoSaid : Prop := arenaRoomUptoRow.holds Try.pinned (OpenSpec.upto arenaRoomSpec)

/-- 'almonrylaw04.ArenaOwn', WHERE WHAT IT READS IS OF BULK AT MOST 1048576: true; the input reads as it did. -/
def arenaOwnUptoRow : OpenClaim := { program := "ythcbjhmckbfkmaa", sum := "508f84eed29159e1f1ba122ba605ceae8a35a16c7a795d0396519579fb9a8155", func := "almonry/almonrylaw04.ArenaOwn", spec := "arenaOwn", apart := false, narrowed := true }
def ArenaOwnUptoSaid : Prop := arenaOwnUptoRow.holds Try.pinned (OpenSpec.upto arenaOwnSpec)

/-- 'almonrylaw04.ArenaDoes', WHERE WHAT IT READS IS OF BULK AT MOST 1048576: true; the input reads as it did. -/
def arenaDoesUptoRow : OpenClaim := { program := "ythcbjhmckbfkmaa", sum := "508f84eed29159e1f1ba122ba605ceae8a35a16c7a795d0396519579fb9a8155", func := "almonry/almonrylaw04.ArenaDoes", spec := "arenaDoes", apart := false, narrowed := true }
def ArenaDoesUptoSaid : Prop := arenaDoesUptoRow.holds Try.pinned (OpenSpec.upto arenaDoesSpec)

/-- 'almonrylaw04.ArenaOnto', WHERE WHAT IT READS IS OF BULK AT MOST 1048576: true; the input reads as it did. -/
def arenaOntoUptoRow : OpenClaim := { program := "ythcbjhmckbfkmaa", sum := "508f84eed29159e1f1ba122ba605ceae8a35a16c7a795d0396519579fb9a8155", func := "almonry/almonrylaw04.ArenaOnto", spec := "arenaOnto", apart := false, narrowed := true }
def ArenaOntoUptoSaid : Prop := arenaOntoUptoRow.holds Try.pinned (OpenSpec.upto arenaOntoSpec)

/-- 'almonrytop.WholeHeap', WHERE WHAT IT READS IS OF BULK AT MOST 1048576: true; the input reads as it did. -/
def wholeHeapUptoRow : OpenClaim := { program := "ythcbjhmckbfkmaa", sum := "508f84eed29159e1f1ba122ba605ceae8a35a16c7a795d0396519579fb9a8155", func := "almonry/almonrytop.WholeHeap", spec := "wholeHeap", apart := false, narrowed := true }
def WholeHeapUptoSaid : Prop := wholeHeapUptoRow.holds Try.pinned (OpenSpec.upto wholeHeapSpec)

end Rows
end Go.Proofs.Ythcbjhmckbfkmaa
