/-
  No cell of these rows narrows 'for every input' (looked for: loops, veiled, ifaces, maps, wideKeys, modest, calm, conditions, laid).
  DERIVED. THE GIVEN ROWS OF THIS SEAT. 6 by the template 'for every input the law returns true; each argument reads behind the call as it read before'; 0 by the template 'total and deterministic' (their statements: YtopfpadfjfmmiaaTotals.lean).
  GIVEN WITH THE SEED: the statements are not yours to turn. If you find one false, say at which input.
  Laid BY PROGRAM, IN A SANDBOX (cutbox-rows.mjs): the forced cells as the released guide's own fill.sh prints them over the translation be1afd00793443b7… (all of the seat's roots in one cut). By AI agents, Wed Nov 11 2026. No macro, syntax, notation, axiom, sorry.
-/
import Derived.Test.YtopfpadfjfmmiaaChecked
import GoSem.Claim
import GoSem.ClaimJoined
import GoSem.ClaimMapViews
import Derived.JoinedTies
import Derived.KernelRfl
namespace Go.Proofs.Ytopfpadfjfmmiaa
/- THE CELL 'sum', in the pinned program and in every row, IS THE sha256 OF THE DUMP (.gsa) THAT YtopfpadfjfmmiaaProg.lean LOADS. Nothing in Lean hashes anything: it is a label: what it is worth is what the hold of that sum in a sandbox is worth. -/
noncomputable def Try.pinned : Pinned := { name := "ytopfpadfjfmmiaa", sum := "be1afd00793443b7c2a41647789dacb0b19846b68220578fe2d264ddbfbdaa6d", checked := Try.checked }
namespace Rows
def none {H : Type} : Left H := { results := [], args := [] }

/-- 'almonrylaw06.FrameParses': WHATEVER THE INPUT: true; the input reads as it did. -/
def frameParsesSpec : ChangeSpec := { name := "frameParses", fn := fun _ => fun
  | [d] => { results := [.lit (.bool true)], args := [d] }
  | _ => none }
def frameParsesRow : OpenClaim := { program := "ytopfpadfjfmmiaa", sum := "be1afd00793443b7c2a41647789dacb0b19846b68220578fe2d264ddbfbdaa6d", func := "almonry/almonrylaw06.FrameParses", spec := "frameParses", unfollowed := true, recurses := true, apart := false }
def FrameParsesSaid : Prop := frameParsesRow.holds Try.pinned (OpenSpec.ofChange frameParsesSpec)

/-- ITS FALSE NEIGHBOUR: 'it returns false'. Refute it at one input. -/
def frameParsesWrong : ChangeSpec := { name := "frameParses", fn := fun _ => fun
  | [d] => { results := [.lit (.bool false)], args := [d] }
  | _ => none }
def FrameParsesWrongFalsely : Prop := frameParsesRow.holds Try.pinned (OpenSpec.ofChange frameParsesWrong)

/-- 'almonrylaw06.FrameEncodes': WHATEVER THE INPUT: true; the input reads as it did. -/
def frameEncodesSpec : ChangeSpec := { name := "frameEncodes", fn := fun _ => fun
  | [d] => { results := [.lit (.bool true)], args := [d] }
  | _ => none }
def frameEncodesRow : OpenClaim := { program := "ytopfpadfjfmmiaa", sum := "be1afd00793443b7c2a41647789dacb0b19846b68220578fe2d264ddbfbdaa6d", func := "almonry/almonrylaw06.FrameEncodes", spec := "frameEncodes", unfollowed := true, recurses := true, apart := false }
def FrameEncodesSaid : Prop := frameEncodesRow.holds Try.pinned (OpenSpec.ofChange frameEncodesSpec)

/-- ITS FALSE NEIGHBOUR: 'it returns false'. Refute it at one input. -/
def frameEncodesWrong : ChangeSpec := { name := "frameEncodes", fn := fun _ => fun
  | [d] => { results := [.lit (.bool false)], args := [d] }
  | _ => none }
def FrameEncodesWrongFalsely : Prop := frameEncodesRow.holds Try.pinned (OpenSpec.ofChange frameEncodesWrong)

/-- 'almonrylaw06.FrameHarms': WHATEVER THE INPUT: true; the input reads as it did. -/
def frameHarmsSpec : ChangeSpec := { name := "frameHarms", fn := fun _ => fun
  | [d1, d2] => { results := [.lit (.bool true)], args := [d1, d2] }
  | _ => none }
def frameHarmsRow : OpenClaim := { program := "ytopfpadfjfmmiaa", sum := "be1afd00793443b7c2a41647789dacb0b19846b68220578fe2d264ddbfbdaa6d", func := "almonry/almonrylaw06.FrameHarms", spec := "frameHarms", unfollowed := true, recurses := true, apart := false }
def FrameHarmsSaid : Prop := frameHarmsRow.holds Try.pinned (OpenSpec.ofChange frameHarmsSpec)

/-- ITS FALSE NEIGHBOUR: 'it returns false'. Refute it at one input. -/
def frameHarmsWrong : ChangeSpec := { name := "frameHarms", fn := fun _ => fun
  | [d1, d2] => { results := [.lit (.bool false)], args := [d1, d2] }
  | _ => none }
def FrameHarmsWrongFalsely : Prop := frameHarmsRow.holds Try.pinned (OpenSpec.ofChange frameHarmsWrong)

/-- 'almonrylaw06.FrameOrder': WHATEVER THE INPUT: true; the input reads as it did. -/
def frameOrderSpec : ChangeSpec := { name := "frameOrder", fn := fun _ => fun
  | [d1, d2, d3] => { results := [.lit (.bool true)], args := [d1, d2, d3] }
  | _ => none }
def frameOrderRow : OpenClaim := { program := "ytopfpadfjfmmiaa", sum := "be1afd00793443b7c2a41647789dacb0b19846b68220578fe2d264ddbfbdaa6d", func := "almonry/almonrylaw06.FrameOrder", spec := "frameOrder", unfollowed := true, recurses := true, apart := false }
def FrameOrderSaid : Prop := frameOrderRow.holds Try.pinned (OpenSpec.ofChange frameOrderSpec)

/-- ITS FALSE NEIGHBOUR: 'it returns false'. Refute it at one input. -/
def frameOrderWrong : ChangeSpec := { name := "frameOrder", fn := fun _ => fun
  | [d1, d2, d3] => { results := [.lit (.bool false)], args := [d1, d2, d3] }
  | _ => none }
def FrameOrderWrongFalsely : Prop := frameOrderRow.holds Try.pinned (OpenSpec.ofChange frameOrderWrong)

/-- 'almonrylaw06.FrameIDs': WHATEVER THE INPUT: true; the input reads as it did. -/
def frameIDsSpec : ChangeSpec := { name := "frameIDs", fn := fun _ => fun
  | [d1, d2] => { results := [.lit (.bool true)], args := [d1, d2] }
  | _ => none }
def frameIDsRow : OpenClaim := { program := "ytopfpadfjfmmiaa", sum := "be1afd00793443b7c2a41647789dacb0b19846b68220578fe2d264ddbfbdaa6d", func := "almonry/almonrylaw06.FrameIDs", spec := "frameIDs", unfollowed := true, recurses := true, apart := false }
def FrameIDsSaid : Prop := frameIDsRow.holds Try.pinned (OpenSpec.ofChange frameIDsSpec)

/-- ITS FALSE NEIGHBOUR: 'it returns false'. Refute it at one input. -/
def frameIDsWrong : ChangeSpec := { name := "frameIDs", fn := fun _ => fun
  | [d1, d2] => { results := [.lit (.bool false)], args := [d1, d2] }
  | _ => none }
def FrameIDsWrongFalsely : Prop := frameIDsRow.holds Try.pinned (OpenSpec.ofChange frameIDsWrong)

/-- 'almonrytop.WholeLimits': WHATEVER THE INPUT: true; the input reads as it did. -/
def wholeLimitsSpec : ChangeSpec := { name := "wholeLimits", fn := fun _ => fun
  | [d1, d2] => { results := [.lit (.bool true)], args := [d1, d2] }
  | _ => none }
def wholeLimitsRow : OpenClaim := { program := "ytopfpadfjfmmiaa", sum := "be1afd00793443b7c2a41647789dacb0b19846b68220578fe2d264ddbfbdaa6d", func := "almonry/almonrytop.WholeLimits", spec := "wholeLimits", unfollowed := true, recurses := true, apart := false }
def WholeLimitsSaid : Prop := wholeLimitsRow.holds Try.pinned (OpenSpec.ofChange wholeLimitsSpec)

/-- ITS FALSE NEIGHBOUR: 'it returns false'. Refute it at one input. -/
def wholeLimitsWrong : ChangeSpec := { name := "wholeLimits", fn := fun _ => fun
  | [d1, d2] => { results := [.lit (.bool false)], args := [d1, d2] }
  | _ => none }
def WholeLimitsWrongFalsely : Prop := wholeLimitsRow.holds Try.pinned (OpenSpec.ofChange wholeLimitsWrong)

/- THE SECOND FORM. 'bulk': how many values and letters a reading holds, each counted each time it is reached (what is shared counts as often as it is met; a slice's spare places count too). A statement '..UptoSaid' is the law's where the arguments, and the package variables that the reading takes, are together of bulk at most 1048576: NARROWER than '..Said'. Prove '..Said' where nothing that the law and all that it calls make is longer than what came in: it says more and counts as full. Else prove '..UptoSaid'. A law counts once. -/
mutual
def uptoBulk {H : Type} : DataW H → Nat
  | .lit (.string bytes) => bytes.length + 1
  | .lit _ => 1
  | .nil => 1
  | .ptr d => uptoBulk d + 1
  | .slice elems spare => uptoBulkAll elems + uptoBulkAll spare + 1
  | .agg parts => uptoBulkAll parts + 1
  | .iface _ d => uptoBulk d + 1
  | .map entries => uptoBulkEntries entries + 1
  | .held _ => 1
def uptoBulkAll {H : Type} : List (DataW H) → Nat
  | [] => 0
  | d :: r => uptoBulk d + uptoBulkAll r
def uptoBulkEntries {H : Type} : List (Lit × DataW H) → Nat
  | [] => 0
  | x :: r => uptoBulkEntry x + uptoBulkEntries r
def uptoBulkEntry {H : Type} : Lit × DataW H → Nat
  | (.string bytes, d) => bytes.length + uptoBulk d + 1
  | (_, d) => uptoBulk d + 1
 end
def uptoSmall : (H : Type) → List (DataW H) → Bool := fun _ ds => decide (uptoBulkAll ds ≤ 1048576)
def OpenSpec.upto (s : _root_.Go.ChangeSpec) : _root_.Go.OpenSpec := { _root_.Go.OpenSpec.ofChange s with cond := some uptoSmall }

/-- 'almonrylaw06.FrameParses', WHERE WHAT IT READS IS OF BULK AT MOST 1048576: true; the input reads as it did. -/
def frameParsesUptoRow : OpenClaim := { program := "ytopfpadfjfmmiaa", sum := "be1afd00793443b7c2a41647789dacb0b19846b68220578fe2d264ddbfbdaa6d", func := "almonry/almonrylaw06.FrameParses", spec := "frameParses", unfollowed := true, recurses := true, apart := false, narrowed := true }
def FrameParsesUptoSaid : Prop := frameParsesUptoRow.holds Try.pinned (OpenSpec.upto frameParsesSpec)

/-- 'almonrylaw06.FrameEncodes', WHERE WHAT IT READS IS OF BULK AT MOST 1048576: true; the input reads as it did. -/
def frameEncodesUptoRow : OpenClaim := { program := "ytopfpadfjfmmiaa", sum := "be1afd00793443b7c2a41647789dacb0b19846b68220578fe2d264ddbfbdaa6d", func := "almonry/almonrylaw06.FrameEncodes", spec := "frameEncodes", unfollowed := true, recurses := true, apart := false, narrowed := true }
def FrameEncodesUptoSaid : Prop := frameEncodesUptoRow.holds Try.pinned (OpenSpec.upto frameEncodesSpec)

/-- 'almonrylaw06.FrameHarms', WHERE WHAT IT READS IS OF BULK AT MOST 1048576: true; the input reads as it did. -/
def frameHarmsUptoRow : OpenClaim := { program := "ytopfpadfjfmmiaa", sum := "be1afd00793443b7c2a41647789dacb0b19846b68220578fe2d264ddbfbdaa6d", func := "almonry/almonrylaw06.FrameHarms", spec := "frameHarms", unfollowed := true, recurses := true, apart := false, narrowed := true }
def FrameHarmsUptoSaid : Prop := frameHarmsUptoRow.holds Try.pinned (OpenSpec.upto frameHarmsSpec)

/-- 'almonrylaw06.FrameOrder', WHERE WHAT IT READS IS OF BULK AT MOST 1048576: true; the input reads as it did. -/
def frameOrderUptoRow : OpenClaim := { program := "ytopfpadfjfmmiaa", sum := "be1afd00793443b7c2a41647789dacb0b19846b68220578fe2d264ddbfbdaa6d", func := "almonry/almonrylaw06.FrameOrder", spec := "frameOrder", unfollowed := true, recurses := true, apart := false, narrowed := true }
def FrameOrderUptoSaid : Prop := frameOrderUptoRow.holds Try.pinned (OpenSpec.upto frameOrderSpec)

/-- 'almonrylaw06.FrameIDs', WHERE WHAT IT READS IS OF BULK AT MOST 1048576: true; the input reads as it did. -/
def frameIDsUptoRow : OpenClaim := { program := "ytopfpadfjfmmiaa", sum := "be1afd00793443b7c2a41647789dacb0b19846b68220578fe2d264ddbfbdaa6d", func := "almonry/almonrylaw06.FrameIDs", spec := "frameIDs", unfollowed := true, recurses := true, apart := false, narrowed := true }
def FrameIDsUptoSaid : Prop := frameIDsUptoRow.holds Try.pinned (OpenSpec.upto frameIDsSpec)

/-- 'almonrytop.WholeLimits', WHERE WHAT IT READS IS OF BULK AT MOST 1048576: true; the input reads as it did. -/
def wholeLimitsUptoRow : OpenClaim := { program := "ytopfpadfjfmmiaa", sum := "be1afd00793443b7c2a41647789dacb0b19846b68220578fe2d264ddbfbdaa6d", func := "almonry/almonrytop.WholeLimits", spec := "wholeLimits", unfollowed := true, recurses := true, apart := false, narrowed := true }
def WholeLimitsUptoSaid : Prop := wholeLimitsUptoRow.holds Try.pinned (OpenSpec.upto wholeLimitsSpec)

end Rows
end Go.Proofs.Ytopfpadfjfmmiaa
