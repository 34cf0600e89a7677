/- Which ids meet all blocks: the checks that the kernel makes. -/
import Derived.Test.YtfkofhdgokhodaaReach0
set_option linter.unusedVariables false
set_option linter.unusedSimpArgs false
namespace Go.Proofs.Ytfkofhdgokhodaa
open Go.RowKit

def seed3N (s i : Nat) : Nat := mixN (Nat.xor (stepN (mixN (Nat.xor (stepN (mixN (Nat.xor (stepN 0) s))) 2))) i)
def okD (lo hi s : Nat) : List (Nat × Nat × Nat) → Bool
  | [] => true
  | (i, x1, x2) :: t => (Nat.blt i 4000 && (Nat.ble lo (mixN (stepN (seed3N s i))) && (Nat.blt (mixN (stepN (seed3N s i))) hi && (Nat.beq (mixN (stepN (stepN (seed3N s i)))) x1 && (Nat.beq (mixN (stepN (stepN (stepN (seed3N s i))))) x2 && (Nat.blt 100 x1 && Nat.blt 100 x2)))))) && okD lo hi s t
def covD (A : Nat) : List (Nat × Nat × Nat) → Nat → Bool
  | [], m => Nat.beq m (2 ^ A - 1)
  | (_, x1, x2) :: t, m => covD A t (Nat.lor (Nat.lor m (2 ^ (x1 % (A - 1)))) (2 ^ (bif Nat.beq (x2 % A) (x1 % (A - 1)) then A - 1 else x2 % A)))
def allD (l : List (Nat × Nat × Nat)) : Nat → Bool
  | 0 => true
  | k + 1 => covD (k + 2) l 0 && allD l k
def lo0 : Nat := 6917529027641081856
def hi0 : Nat := 9269488897039048704
def lo1 : Nat := 9223372036854775808
def hi1 : Nat := 12543785970122496000
end Go.Proofs.Ytfkofhdgokhodaa
