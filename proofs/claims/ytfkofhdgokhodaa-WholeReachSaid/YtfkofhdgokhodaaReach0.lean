/- The draws as plain numbers, for the kernel. -/
import Derived.Test.YtfkofhdgokhodaaRng
set_option linter.unusedVariables false
set_option linter.unusedSimpArgs false
namespace Go.Proofs.Ytfkofhdgokhodaa
open Go.RowKit

def mixN (z : Nat) : Nat :=
  let a := (Nat.xor z (Nat.shiftRight z 30) * 13787848793156543929) % 18446744073709551616
  let b := (Nat.xor a (Nat.shiftRight a 27) * 10723151780598845931) % 18446744073709551616
  Nat.xor b (Nat.shiftRight b 31)
def stepN (s : Nat) : Nat := (s + 11400714819323198485) % 18446744073709551616
theorem step_nat (s : UInt64) : (s + stepC).toNat = stepN s.toNat := by
  unfold stepN stepC
  rw [UInt64.toNat_add]; rfl
theorem mix_nat (z : UInt64) : (mix64 z).toNat = mixN z.toNat := by
  unfold mix64 mixN
  simp only [UInt64.toNat_xor, UInt64.toNat_mul, UInt64.toNat_shiftRight]
  rfl
end Go.Proofs.Ytfkofhdgokhodaa
