/- What the params functions and the reference's own answer, walked. -/
import Derived.Test.YtfkofhdgokhodaaParK
set_option linter.unusedVariables false
set_option linter.unusedSimpArgs false
namespace Go.Proofs.Ytfkofhdgokhodaa
open Go.RowKit

theorem most_calls0 (N B Q E F : Int) (w : World) (hN1 : 0 ≤ N) (hN2 : N ≤ 1048576) (hB1 : 0 ≤ B) (hB2 : B ≤ 65535) : Calls Try.prog 45 #[pV N B Q E F] w fun e w' =>
    e = .returned (.int .i64 (N * B)) ∧ Below w.heap.size w w' := by
  refine cps fun R hR => ?_
  have h1 : N * B ≤ 1048576 * 65535 := Int.mul_le_mul hN2 hB2 hB1 (by omega)
  have h2 : 0 ≤ N * B := Int.mul_nonneg hN1 hB1
  have e1 : wrap64 (N * B) = N * B := IntWalk.wrap64_in _ ⟨by omega, by omega⟩
  have e := hide e1
  clear e1 h1 h2
  go_enter Try.func45, Try.ntmps45
  go_wp2_with fail
  exact hR.out _ _ ⟨by show Ending.returned (.int .i64 (wrap64 (N * B))) = _; rw [e.out], (Below.refl _ _).alloc (Nat.le_refl _) _⟩
end Go.Proofs.Ytfkofhdgokhodaa
