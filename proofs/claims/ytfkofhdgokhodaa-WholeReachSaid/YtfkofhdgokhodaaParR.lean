/- The reference's own Auxiliary, walked (cut from XParLaws). -/
import Derived.Test.YtfkofhdgokhodaaParA
set_option linter.unusedVariables false
set_option linter.unusedSimpArgs false
namespace Go.Proofs.Ytfkofhdgokhodaa
open Go.RowKit

theorem refaux_calls (N B Q E F : Int) (w : World) (hN1 : 1 ≤ N) (hN2 : N ≤ 1048576) (hQ1 : 1 ≤ Q) (hQ2 : Q ≤ 8) (hE1 : 1 ≤ E) (hE2 : E ≤ 1000) : Calls Try.prog 19 #[pV N B Q E F] w fun e w' =>
    e = .returned (.int .i64 (auxI Q E N)) ∧ Below w.heap.size w w' := by
  refine cps fun R hR => ?_
  obtain ⟨b1, b2, b3, b4⟩ := prod_bd hN1 hN2 hQ1 hQ2 hE1 hE2
  go_enter Try.func19, Try.ntmps19
  go_wp2
  all_goals
    refine hR.out _ _ ⟨ret_int ?_, (Below.refl _ _).alloc (Nat.le_refl _) _⟩
    unfold auxI
    split <;> omega
end Go.Proofs.Ytfkofhdgokhodaa
