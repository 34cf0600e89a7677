/- params.Auxiliary and All, walked (cut from XPar, for texts that import XParK). -/
import Derived.Test.YtfkofhdgokhodaaParK
set_option linter.unusedVariables false
set_option linter.unusedSimpArgs false
namespace Go.Proofs.Ytfkofhdgokhodaa
open Go.RowKit

theorem prod_bd {Q E N : Int} (hN1 : 1 ≤ N) (hN2 : N ≤ 1048576) (hQ1 : 1 ≤ Q) (hQ2 : Q ≤ 8) (hE1 : 1 ≤ E) (hE2 : E ≤ 1000) :
    55 ≤ 55 * Q * E ∧ 55 * Q * E ≤ 440000 ∧ 55 ≤ 55 * Q * E * N ∧ 55 * Q * E * N ≤ 461373440000 := by
  have h1 : 55 * Q * E ≤ 440 * 1000 := Int.mul_le_mul (by omega) hE2 (by omega) (by omega)
  have h2 : 55 * 1 ≤ 55 * Q * E := Int.mul_le_mul (by omega) hE1 (by omega) (by omega)
  have h3 : 55 * Q * E * N ≤ 440000 * 1048576 := Int.mul_le_mul (by omega) hN2 (by omega) (by omega)
  have h4 : 55 * 1 ≤ 55 * Q * E * N := Int.mul_le_mul (by omega) hN1 (by omega) (by omega)
  omega
/-- How many auxiliary blocks. -/
def auxI (Q E N : Int) : Int := if Q ≤ (55 * Q * E * N + 99999) / 100000 then (55 * Q * E * N + 99999) / 100000 else Q

theorem aux_raw {Q E N : Int} (hN1 : 1 ≤ N) (hN2 : N ≤ 1048576) (hQ1 : 1 ≤ Q) (hQ2 : Q ≤ 8) (hE1 : 1 ≤ E) (hE2 : E ≤ 1000) :
    wrap64 (wrap64 (55 * Q * E) * N) = 55 * Q * E * N ∧ wrap64 ((wrap64 (wrap64 (wrap64 (55 * Q * E) * N) + 99999)).tdiv 100000) = (55 * Q * E * N + 99999) / 100000 := by
  obtain ⟨h1, h2, h3, h4⟩ := prod_bd hN1 hN2 hQ1 hQ2 hE1 hE2
  have e1 : wrap64 (55 * Q * E) = 55 * Q * E := IntWalk.wrap64_in _ ⟨by omega, by omega⟩
  rw [e1]
  have e2 : wrap64 (55 * Q * E * N) = 55 * Q * E * N := IntWalk.wrap64_in _ ⟨by omega, by omega⟩
  rw [e2]
  have e3 : wrap64 (55 * Q * E * N + 99999) = 55 * Q * E * N + 99999 := IntWalk.wrap64_in _ ⟨by omega, by omega⟩
  rw [e3, Int.tdiv_eq_ediv_of_nonneg (by omega)]
  exact ⟨rfl, IntWalk.wrap64_in _ ⟨by omega, by omega⟩⟩

theorem aux_bd {Q E N : Int} (hN1 : 1 ≤ N) (hN2 : N ≤ 1048576) (hQ1 : 1 ≤ Q) (hQ2 : Q ≤ 8) (hE1 : 1 ≤ E) (hE2 : E ≤ 1000) : Q ≤ auxI Q E N ∧ auxI Q E N ≤ 4613735 := by
  obtain ⟨h1, h2, h3, h4⟩ := prod_bd hN1 hN2 hQ1 hQ2 hE1 hE2
  unfold auxI
  split <;> omega

theorem aux_calls (N B Q E F : Int) (w : World) (hN1 : 1 ≤ N) (hN2 : N ≤ 1048576) (hQ1 : 1 ≤ Q) (hQ2 : Q ≤ 8) (hE1 : 1 ≤ E) (hE2 : E ≤ 1000) : Calls Try.prog 35 #[pV N B Q E F] w fun e w' =>
    e = .returned (.int .i64 (auxI Q E N)) ∧ Below w.heap.size w w' := by
  refine cps fun R hR => ?_
  go_enter Try.func35, Try.ntmps35
  go_wp2
  · have h : Q < wrap64 ((wrap64 (wrap64 (wrap64 (55 * Q * E) * N) + 99999)).tdiv 100000) := by assumption
    rw [(aux_raw hN1 hN2 hQ1 hQ2 hE1 hE2).2] at h
    rw [(aux_raw hN1 hN2 hQ1 hQ2 hE1 hE2).2]
    refine hR.out _ _ ⟨ret_int ?_, (Below.refl _ _).alloc (Nat.le_refl _) _⟩
    unfold auxI
    split <;> omega
  · have h : wrap64 ((wrap64 (wrap64 (wrap64 (55 * Q * E) * N) + 99999)).tdiv 100000) ≤ Q := by assumption
    rw [(aux_raw hN1 hN2 hQ1 hQ2 hE1 hE2).2] at h
    refine hR.out _ _ ⟨ret_int ?_, (Below.refl _ _).alloc (Nat.le_refl _) _⟩
    unfold auxI
    split <;> omega

theorem all_calls (N B Q E F : Int) (w : World) (hN1 : 1 ≤ N) (hN2 : N ≤ 1048576) (hQ1 : 1 ≤ Q) (hQ2 : Q ≤ 8) (hE1 : 1 ≤ E) (hE2 : E ≤ 1000) : Calls Try.prog 26 #[pV N B Q E F] w fun e w' =>
    e = .returned (.int .i64 (N + auxI Q E N)) ∧ Below w.heap.size w w' := by
  refine cps fun R hR => ?_
  obtain ⟨ha1, ha2⟩ := aux_bd hN1 hN2 hQ1 hQ2 hE1 hE2
  go_enter Try.func26, Try.ntmps26
  go_wp2_with fail
  obtain ⟨W, hW, hb, hs, ⟨c0, c1, c2, c3, c4⟩⟩ := box5 w N B Q E F 23
  rw [← hW]
  have k0 := later_cell c0
  have k1 := later_cell c1
  have k2 := later_cell c2
  have k3 := later_cell c3
  have k4 := later_cell c4
  clear c0 c1 c2 c3 c4 hW
  refine wp_region_later (by kernel_rfl) (by kernel_rfl) ?_
  repeat (go_big_quiet_step ((go_at_call 35; exact later_call (aux_calls N B Q E F _ hN1 hN2 hQ1 hQ2 hE1 hE2))))
  refine wpQuiet_nil ?_
  intro _ hw'
  obtain ⟨⟨w1, hb1⟩, rfl⟩ := hw'
  go_wp2
  exact hR.out _ _ ⟨rfl, hb.trans (hb1.mono hb.size)⟩

end Go.Proofs.Ytfkofhdgokhodaa
