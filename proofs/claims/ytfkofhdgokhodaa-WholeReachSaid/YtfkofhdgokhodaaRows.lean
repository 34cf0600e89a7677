/-
  No cell of these rows narrows 'for every input' (looked for: loops, veiled, ifaces, maps, wideKeys, modest, calm, conditions, laid).
  DERIVED. THE GIVEN ROWS OF THIS SEAT. 4 by the template 'for every input the law returns true; each argument reads behind the call as it read before'; 0 by the template 'total and deterministic' (their statements: YtfkofhdgokhodaaTotals.lean).
  GIVEN WITH THE SEED: the statements are not yours to turn. If you find one false, say at which input.
  Laid BY PROGRAM, IN A SANDBOX (cutbox-rows.mjs): the forced cells as the released guide's own fill.sh prints them over the translation a6439be5b7847b7c… (all of the seat's roots in one cut). By AI agents, Wed Nov 11 2026. No macro, syntax, notation, axiom, sorry.
-/
import Derived.Test.YtfkofhdgokhodaaChecked
import GoSem.Claim
import GoSem.ClaimJoined
import GoSem.ClaimMapViews
import Derived.JoinedTies
import Derived.KernelRfl
namespace Go.Proofs.Ytfkofhdgokhodaa
/- THE CELL 'sum', in the pinned program and in every row, IS THE sha256 OF THE DUMP (.gsa) THAT YtfkofhdgokhodaaProg.lean LOADS. Nothing in Lean hashes anything: it is a label: what it is worth is what the hold of that sum in a sandbox is worth. -/
noncomputable def Try.pinned : Pinned := { name := "ytfkofhdgokhodaa", sum := "a6439be5b7847b7cb742fd936fbb08cb754b4eacd0340cadec777494152e0245", checked := Try.checked }
namespace Rows
def none {H : Type} : Left H := { results := [], args := [] }

/-- 'almonrytop.WholeOuter': WHATEVER THE INPUT: true; the input reads as it did. -/
def wholeOuterSpec : ChangeSpec := { name := "wholeOuter", fn := fun _ => fun
  | [d1, d2] => { results := [.lit (.bool true)], args := [d1, d2] }
  | _ => none }
def wholeOuterRow : OpenClaim := { program := "ytfkofhdgokhodaa", sum := "a6439be5b7847b7cb742fd936fbb08cb754b4eacd0340cadec777494152e0245", func := "almonry/almonrytop.WholeOuter", spec := "wholeOuter", recurses := true, apart := false }
def WholeOuterSaid : Prop := wholeOuterRow.holds Try.pinned (OpenSpec.ofChange wholeOuterSpec)

/-- ITS FALSE NEIGHBOUR: 'it returns false'. Refute it at one input. -/
def wholeOuterWrong : ChangeSpec := { name := "wholeOuter", fn := fun _ => fun
  | [d1, d2] => { results := [.lit (.bool false)], args := [d1, d2] }
  | _ => none }
def WholeOuterWrongFalsely : Prop := wholeOuterRow.holds Try.pinned (OpenSpec.ofChange wholeOuterWrong)

/-- 'almonrytop.WholeReach': WHATEVER THE INPUT: true; the input reads as it did. -/
def wholeReachSpec : ChangeSpec := { name := "wholeReach", fn := fun _ => fun
  | [d1, d2, d3] => { results := [.lit (.bool true)], args := [d1, d2, d3] }
  | _ => none }
def wholeReachRow : OpenClaim := { program := "ytfkofhdgokhodaa", sum := "a6439be5b7847b7cb742fd936fbb08cb754b4eacd0340cadec777494152e0245", func := "almonry/almonrytop.WholeReach", spec := "wholeReach", unfollowed := true, recurses := true, named := ["math/bits.divideError", "math/bits.overflowError"], apart := false }
def WholeReachSaid : Prop := wholeReachRow.holds Try.pinned (OpenSpec.ofChange wholeReachSpec)

/-- ITS FALSE NEIGHBOUR: 'it returns false'. Refute it at one input. -/
def wholeReachWrong : ChangeSpec := { name := "wholeReach", fn := fun _ => fun
  | [d1, d2, d3] => { results := [.lit (.bool false)], args := [d1, d2, d3] }
  | _ => none }
def WholeReachWrongFalsely : Prop := wholeReachRow.holds Try.pinned (OpenSpec.ofChange wholeReachWrong)

/-- 'almonrytop.WholeGrows': WHATEVER THE INPUT: true; the input reads as it did. -/
def wholeGrowsSpec : ChangeSpec := { name := "wholeGrows", fn := fun _ => fun
  | [d] => { results := [.lit (.bool true)], args := [d] }
  | _ => none }
def wholeGrowsRow : OpenClaim := { program := "ytfkofhdgokhodaa", sum := "a6439be5b7847b7cb742fd936fbb08cb754b4eacd0340cadec777494152e0245", func := "almonry/almonrytop.WholeGrows", spec := "wholeGrows", recurses := true, apart := false }
def WholeGrowsSaid : Prop := wholeGrowsRow.holds Try.pinned (OpenSpec.ofChange wholeGrowsSpec)

/-- ITS FALSE NEIGHBOUR: 'it returns false'. Refute it at one input. -/
def wholeGrowsWrong : ChangeSpec := { name := "wholeGrows", fn := fun _ => fun
  | [d] => { results := [.lit (.bool false)], args := [d] }
  | _ => none }
def WholeGrowsWrongFalsely : Prop := wholeGrowsRow.holds Try.pinned (OpenSpec.ofChange wholeGrowsWrong)

/-- 'almonrytop.WholeRipple': WHATEVER THE INPUT: true; the input reads as it did. -/
def wholeRippleSpec : ChangeSpec := { name := "wholeRipple", fn := fun _ => fun
  | [d] => { results := [.lit (.bool true)], args := [d] }
  | _ => none }
def wholeRippleRow : OpenClaim := { program := "ytfkofhdgokhodaa", sum := "a6439be5b7847b7cb742fd936fbb08cb754b4eacd0340cadec777494152e0245", func := "almonry/almonrytop.WholeRipple", spec := "wholeRipple", recurses := true, apart := false }
def WholeRippleSaid : Prop := wholeRippleRow.holds Try.pinned (OpenSpec.ofChange wholeRippleSpec)

/-- ITS FALSE NEIGHBOUR: 'it returns false'. Refute it at one input. -/
def wholeRippleWrong : ChangeSpec := { name := "wholeRipple", fn := fun _ => fun
  | [d] => { results := [.lit (.bool false)], args := [d] }
  | _ => none }
def WholeRippleWrongFalsely : Prop := wholeRippleRow.holds Try.pinned (OpenSpec.ofChange wholeRippleWrong)

/- THE SECOND FORM. 'bulk': how many values and letters a reading holds, each counted each time it is reached (what is shared counts as often as it is met; a slice's spare places count too). A statement '..UptoSaid' is the law's where the arguments, and the package variables that the reading takes, are together of bulk at most 1048576: NARROWER than '..Said'. Prove '..Said' where nothing that the law and all that it calls make is longer than what came in: it says more and counts as full. Else prove '..UptoSaid'. A law counts once. -/
mutual
def uptoBulk {H : Type} : DataW H → Nat
  | .lit (.string bytes) => bytes.length + 1
  | .lit _ => 1
  | .nil => 1
  | .ptr d => uptoBulk d + 1
  | .slice elems spare => uptoBulkAll elems + uptoBulkAll spare + 1
  | .agg parts => uptoBulkAll parts + 1
  | .iface _ d => uptoBulk d + 1
  | .map entries => uptoBulkEntries entries + 1
  | .held _ => 1
def uptoBulkAll {H : Type} : List (DataW H) → Nat
  | [] => 0
  | d :: r => uptoBulk d + uptoBulkAll r
def uptoBulkEntries {H : Type} : List (Lit × DataW H) → Nat
  | [] => 0
  | x :: r => uptoBulkEntry x + uptoBulkEntries r
def uptoBulkEntry {H : Type} : Lit × DataW H → Nat
  | (.string bytes, d) => bytes.length + uptoBulk d + 1
  | (_, d) => uptoBulk d + 1
 end
def uptoSmall : (H : Type) → List (DataW H) → Bool := fun _ ds => decide (uptoBulkAll ds ≤ 1048576)
def OpenSpec.upto (s : _root_.Go.ChangeSpec) : _root_.Go.OpenSpec := { _root_.Go.OpenSpec.ofChange s with cond := some uptoSmall }

/-- 'almonrytop.WholeOuter', WHERE WHAT IT READS IS OF BULK AT MOST 1048576: true; the input reads as it did. -/
def wholeOuterUptoRow : OpenClaim := { program := "ytfkofhdgokhodaa", sum := "a6439be5b7847b7cb742fd936fbb08cb754b4eacd0340cadec777494152e0245", func := "almonry/almonrytop.WholeOuter", spec := "wholeOuter", recurses := true, apart := false, narrowed := true }
def WholeOuterUptoSaid : Prop := wholeOuterUptoRow.holds Try.pinned (OpenSpec.upto wholeOuterSpec)

/-- 'almonrytop.WholeReach', WHERE WHAT IT READS IS OF BULK AT MOST 1048576: true; the input reads as it did. -/
def wholeReachUptoRow : OpenClaim := { program := "ytfkofhdgokhodaa", sum := "a6439be5b7847b7cb742fd936fbb08cb754b4eacd0340cadec777494152e0245", func := "almonry/almonrytop.WholeReach", spec := "wholeReach", unfollowed := true, recurses := true, named := ["math/bits.divideError", "math/bits.overflowError"], apart := false, narrowed := true }
def WholeReachUptoSaid : Prop := wholeReachUptoRow.holds Try.pinned (OpenSpec.upto wholeReachSpec)

/-- 'almonrytop.WholeGrows', WHERE WHAT IT READS IS OF BULK AT MOST 1048576: true; the input reads as it did. -/
def wholeGrowsUptoRow : OpenClaim := { program := "ytfkofhdgokhodaa", sum := "a6439be5b7847b7cb742fd936fbb08cb754b4eacd0340cadec777494152e0245", func := "almonry/almonrytop.WholeGrows", spec := "wholeGrows", recurses := true, apart := false, narrowed := true }
def WholeGrowsUptoSaid : Prop := wholeGrowsUptoRow.holds Try.pinned (OpenSpec.upto wholeGrowsSpec)

/-- 'almonrytop.WholeRipple', WHERE WHAT IT READS IS OF BULK AT MOST 1048576: true; the input reads as it did. -/
def wholeRippleUptoRow : OpenClaim := { program := "ytfkofhdgokhodaa", sum := "a6439be5b7847b7cb742fd936fbb08cb754b4eacd0340cadec777494152e0245", func := "almonry/almonrytop.WholeRipple", spec := "wholeRipple", recurses := true, apart := false, narrowed := true }
def WholeRippleUptoSaid : Prop := wholeRippleUptoRow.holds Try.pinned (OpenSpec.upto wholeRippleSpec)

end Rows
end Go.Proofs.Ytfkofhdgokhodaa
