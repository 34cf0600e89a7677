/- The laws of layer 5 walked: what the reference answers, and speaks. -/
import Derived.Test.YtcfoigebkcknnaaPar
set_option linter.unusedVariables false
namespace Go.Proofs.Ytcfoigebkcknnaa
open Go.RowKit

theorem refaux_calls (N B Q E F : Int) (w : World) (hN1 : 1 ≤ N) (hN2 : N ≤ 1048576) (hQ1 : 1 ≤ Q) (hQ2 : Q ≤ 8) (hE1 : 1 ≤ E) (hE2 : E ≤ 1000) : Calls Try.prog 16 #[pV N B Q E F] w fun e w' =>
    e = .returned (.int .i64 (auxI Q E N)) ∧ Below w.heap.size w w' := by
  refine cps fun R hR => ?_
  obtain ⟨b1, b2, b3, b4⟩ := prod_bd hN1 hN2 hQ1 hQ2 hE1 hE2
  go_enter Try.func16, Try.ntmps16
  go_wp2
  all_goals
    refine hR.out _ _ ⟨ret_int ?_, (Below.refl _ _).alloc (Nat.le_refl _) _⟩
    unfold auxI
    split <;> omega

theorem check_at (c : Int) (N B Q E F : Int) (h : (if mayB N B Q E F = true then 0 else 1) = c) (w : World) : Calls Try.prog 13 #[pV N B Q E F] w fun e w' => e = .returned (.int .i64 c) ∧ Below w.heap.size w w' := by
  rw [← h]; exact check_calls N B Q E F w
theorem aux_at (c : Int) (N B Q E F : Int) (h : auxI Q E N = c) (w : World) (hN1 : 1 ≤ N) (hN2 : N ≤ 1048576) (hQ1 : 1 ≤ Q) (hQ2 : Q ≤ 8) (hE1 : 1 ≤ E) (hE2 : E ≤ 1000) : Calls Try.prog 14 #[pV N B Q E F] w fun e w' => e = .returned (.int .i64 c) ∧ Below w.heap.size w w' := by
  rw [← h]; exact aux_calls N B Q E F w hN1 hN2 hQ1 hQ2 hE1 hE2
theorem all_at (c : Int) (N B Q E F : Int) (h : N + auxI Q E N = c) (w : World) (hN1 : 1 ≤ N) (hN2 : N ≤ 1048576) (hQ1 : 1 ≤ Q) (hQ2 : Q ≤ 8) (hE1 : 1 ≤ E) (hE2 : E ≤ 1000) : Calls Try.prog 15 #[pV N B Q E F] w fun e w' => e = .returned (.int .i64 c) ∧ Below w.heap.size w w' := by
  rw [← h]; exact all_calls N B Q E F w hN1 hN2 hQ1 hQ2 hE1 hE2

theorem speaks_calls (w : World) : Calls Try.prog 11 #[] w fun e w' => e = .returned (.bool true) ∧ Below w.heap.size w w' := by
  refine cps fun R hR => ?_
  go_enter Try.func11, Try.ntmps11
  go_wp2_with fail
  obtain ⟨W, hW, hb, hs, ⟨c0, c1, c2, c3, c4⟩⟩ := box5 w 100 8 3 100 200 23
  rw [← hW]
  have k0 := later_cell c0
  have k1 := later_cell c1
  have k2 := later_cell c2
  have k3 := later_cell c3
  have k4 := later_cell c4
  clear c0 c1 c2 c3 c4 hW
  obtain ⟨x0, hx0⟩ := later_start W
  rw [← hx0]
  clear hx0
  refine (later_call (check_at 0 100 8 3 100 200 (by decide) _)).mono ?_
  rintro e w1 ⟨rfl, x1, rfl⟩
  go_wp2_with fail
  refine (later_call (check_at 1 0 0 0 0 0 (by decide) _)).mono ?_
  rintro e w1 ⟨rfl, x2, rfl⟩
  go_wp2_with fail
  refine (later_call (aux_at 17 100 8 3 100 200 (by decide) _ (by omega) (by omega) (by omega) (by omega) (by omega) (by omega))).mono ?_
  rintro e w1 ⟨rfl, x3, rfl⟩
  go_wp2_with fail
  refine (later_call (all_at 117 100 8 3 100 200 (by decide) _ (by omega) (by omega) (by omega) (by omega) (by omega) (by omega))).mono ?_
  rintro e w1 ⟨rfl, x4, rfl⟩
  go_wp2_with fail
  refine (later_call (most_calls 100 8 3 100 200 _ (by omega) (by omega) (by omega) (by omega))).mono ?_
  rintro e w1 ⟨rfl, x5, rfl⟩
  go_wp2_with fail
  exact hR.out _ _ ⟨rfl, hb.trans (x5.below.mono hb.size)⟩

/-- ParamsChecks. -/
theorem checks_calls (N B Q E F : Int) (w : World) : Calls Try.prog 3 #[pV N B Q E F] w fun e w' => e = .returned (.bool true) ∧ Below w.heap.size w w' := by
  refine cps fun R hR => ?_
  go_enter Try.func3, Try.ntmps3
  go_wp2_with fail
  obtain ⟨W, hW, hb, hs, ⟨c0, c1, c2, c3, c4⟩⟩ := box5 w N B Q E F 23
  rw [← hW]
  have k0 := later_cell c0
  have k1 := later_cell c1
  have k2 := later_cell c2
  have k3 := later_cell c3
  have k4 := later_cell c4
  clear c0 c1 c2 c3 c4 hW
  obtain ⟨x0, hx0⟩ := later_start W
  rw [← hx0]
  clear hx0
  refine (later_call (speaks_calls _)).mono ?_
  rintro e w1 ⟨rfl, x1, rfl⟩
  go_wp2_with fail
  refine (later_call (refmay_calls N B Q E F _)).mono ?_
  rintro e w1 ⟨rfl, x2, rfl⟩
  cases hm : mayB N B Q E F
  all_goals
    go_wp2_with fail
    refine (later_call (check_at _ N B Q E F (by rw [hm]) _)).mono ?_
    rintro e w1 ⟨rfl, x3, rfl⟩
    go_wp2_with fail
    exact hR.out _ _ ⟨rfl, hb.trans (x3.below.mono hb.size)⟩

/-- ParamsCounts. -/
theorem counts_calls (N B Q E F h c : Int) (w : World) : Calls Try.prog 5 #[pV N B Q E F, .int .i64 h, .int .i64 c] w fun e w' => e = .returned (.bool true) ∧ Below w.heap.size w w' := by
  refine cps fun R hR => ?_
  go_enter Try.func5, Try.ntmps5
  go_wp2_with fail
  obtain ⟨W, hW, hb, hs, ⟨c0, c1, c2, c3, c4⟩⟩ := box5 w N B Q E F 23
  rw [← hW]
  have k0 := later_cell c0
  have k1 := later_cell c1
  have k2 := later_cell c2
  have k3 := later_cell c3
  have k4 := later_cell c4
  clear c0 c1 c2 c3 c4 hW
  obtain ⟨x0, hx0⟩ := later_start W
  rw [← hx0]
  clear hx0
  refine (later_call (speaks_calls _)).mono ?_
  rintro e w1 ⟨rfl, x1, rfl⟩
  go_wp2_with fail
  refine (later_call (refmay_calls N B Q E F _)).mono ?_
  rintro e w1 ⟨rfl, x2, rfl⟩
  cases hm : mayB N B Q E F
  · go_wp2_with fail
    exact hR.out _ _ ⟨rfl, hb.trans (x2.below.mono hb.size)⟩
  obtain ⟨hN1, hN2, hB1, hB2, hQ1, hQ2, hE1, hE2, hF1, hF2, -⟩ := may_bd hm
  by_cases hc : 0 ≤ h ∧ h ≤ 1048576 ∧ 0 ≤ c ∧ c ≤ 1048576
  · obtain ⟨hh1, hh2, hc1, hc2⟩ := hc
    obtain ⟨ha1, ha2⟩ := aux_bd hN1 hN2 hQ1 hQ2 hE1 hE2
    obtain ⟨m1, m2⟩ := mul_bd (a := 8) (b := 1048576) (by omega) hQ2 (by omega) hN2
    obtain ⟨m3, m4⟩ := mul_bd (a := 1048576) (b := 4096) hh1 hh2 (by omega) hF2
    obtain ⟨m5, m6⟩ := mul_bd (a := 1048576) (b := 4096) hc1 hc2 (by omega) hF2
    obtain ⟨m7, m8⟩ := mul_bd (a := 1048576) (b := 65535) (by omega) hN2 (by omega) hB2
    go_wp2_with fail
    refine (later_call (refaux_calls N B Q E F _ hN1 hN2 hQ1 hQ2 hE1 hE2)).mono ?_
    rintro e w1 ⟨rfl, x3, rfl⟩
    go_wp2_with fail
    obtain ⟨W3, hW3⟩ : ∃ W3, W3 = x3.v := ⟨_, rfl⟩
    have hb3 : Below W.heap.size W W3 := by rw [hW3]; exact x3.below
    rw [← hW3]
    have j0 := later_next k0 hW3
    have j1 := later_next k1 hW3
    have j2 := later_next k2 hW3
    have j3 := later_next k3 hW3
    have j4 := later_next k4 hW3
    clear k0 k1 k2 k3 k4 hW3 x0 x1 x2 x3
    refine wp_region_later (by kernel_rfl) (by kernel_rfl) ?_
    repeat (go_big_quiet_step ((first | (go_at_call 14; exact later_call (aux_calls N B Q E F _ hN1 hN2 hQ1 hQ2 hE1 hE2)) | (go_at_call 15; exact later_call (all_calls N B Q E F _ hN1 hN2 hQ1 hQ2 hE1 hE2)) | (go_at_call 17; exact later_call (most_calls N B Q E F _ hN1 hN2 hB1 hB2)))))
    refine wpQuiet_nil ?_
    intro _ hw'
    obtain ⟨x4, rfl⟩ := hw'
    go_wp2_with fail
    obtain ⟨W4, hW4⟩ : ∃ W4, W4 = x4.v := ⟨_, rfl⟩
    have hb4 : Below W3.heap.size W3 W4 := by rw [hW4]; exact x4.below
    rw [← hW4]
    have k0 := later_next j0 hW4
    have k1 := later_next j1 hW4
    have k2 := later_next j2 hW4
    have k3 := later_next j3 hW4
    have k4 := later_next j4 hW4
    clear j0 j1 j2 j3 j4 hW4 
    refine wp_region_later (by kernel_rfl) (by kernel_rfl) ?_
    repeat (go_big_quiet_step ((first | (go_at_call 18; exact later_call (blocks_calls N B Q E F h _ hN1 hN2 hQ1 hQ2 hE1 hE2 hh1 hh2)) | (go_at_call 19; exact later_call (edges_calls N B Q E F h _ hN1 hN2 hQ1 hQ2 hE1 hE2 hF1 hF2 hh1 hh2)) | (go_at_call 20; exact later_call (work_calls N B Q E F c _ hN1 hN2 hQ1 hQ2 hE1 hE2 hF1 hF2 hc1 hc2)))))
    refine wpQuiet_nil ?_
    intro _ hw'
    obtain ⟨x5, rfl⟩ := hw'
    go_wp2_with fail
    exact hR.out _ _ ⟨rfl, hb.trans ((hb3.trans ((hb4.trans (x5.below.mono hb4.size)).mono hb3.size)).mono hb.size)⟩
  · go_wp2_with fail
    all_goals exact hR.out _ _ ⟨rfl, hb.trans (x2.below.mono hb.size)⟩

/-- ParamsBounds. -/
theorem bounds_calls (N B Q E F h m : Int) (w : World) (hh1 : 0 ≤ h) (hh2 : h ≤ 65535) (hm1 : 0 ≤ m) (hm2 : m ≤ 65535) : Calls Try.prog 6 #[pV N B Q E F, .int .u16 h, .int .u16 m] w fun e w' => e = .returned (.bool true) ∧ Below w.heap.size w w' := by
  refine cps fun R hR => ?_
  go_enter Try.func6, Try.ntmps6
  go_wp2_with fail
  obtain ⟨W, hW, hb, hs, ⟨c0, c1, c2, c3, c4⟩⟩ := box5 w N B Q E F 23
  rw [← hW]
  have k0 := later_cell c0
  have k1 := later_cell c1
  have k2 := later_cell c2
  have k3 := later_cell c3
  have k4 := later_cell c4
  clear c0 c1 c2 c3 c4 hW
  obtain ⟨x0, hx0⟩ := later_start W
  rw [← hx0]
  clear hx0
  refine (later_call (speaks_calls _)).mono ?_
  rintro e w1 ⟨rfl, x1, rfl⟩
  go_wp2_with fail
  refine (later_call (refmay_calls N B Q E F _)).mono ?_
  rintro e w1 ⟨rfl, x2, rfl⟩
  cases hm : mayB N B Q E F
  · go_wp2_with fail
    exact hR.out _ _ ⟨rfl, hb.trans (x2.below.mono hb.size)⟩
  obtain ⟨hN1, hN2, hB1, hB2, hQ1, hQ2, hE1, hE2, hF1, hF2, -⟩ := may_bd hm
  clear hm
  obtain ⟨ha1, ha2⟩ := aux_bd hN1 hN2 hQ1 hQ2 hE1 hE2
  obtain ⟨m1, m2⟩ := mul_bd (a := 8) (b := 1048576) (by omega) hQ2 (by omega) hN2
  obtain ⟨m3, m4⟩ := mul_bd (a := 1048576) (b := 4096) hh1 (by omega) (by omega) hF2
  obtain ⟨m5, m6⟩ := mul_bd (a := 1048576) (b := 4096) hm1 (by omega) (by omega) hF2
  obtain ⟨m7, m8⟩ := mul_bd (a := 1048576) (b := 65535) (by omega) hN2 (by omega) hB2
  have m9 : N ≤ N * B := by
    have := Int.mul_le_mul (Int.le_refl N) hB1 (by omega) (by omega)
    omega
  have hdis := Int.add_mul h m F
  have t1 : (N + 2 * auxI Q E N + (h + m) + 1 - (N + 2 * auxI Q E N + h + 1) == m) = true := by rw [beq_iff_eq]; omega
  have t2 : (Q * N + auxI Q E N + (h * F + m * F) - (Q * N + auxI Q E N + h * F) == m * F) = true := by rw [beq_iff_eq]; omega
  have t3 : decide (N + auxI Q E N < N + 2 * auxI Q E N + h + 1) = true := by rw [decide_eq_true_eq]; omega
  have t4 : decide (auxI Q E N ≤ Q * N + auxI Q E N + h * F) = true := by rw [decide_eq_true_eq]; omega
  have t5 : decide (N ≤ N * B) = true := by rw [decide_eq_true_eq]; omega
  go_wp2_with fail
  obtain ⟨W3, hW3⟩ : ∃ W3, W3 = x2.v := ⟨_, rfl⟩
  have hb3 : Below W.heap.size W W3 := by rw [hW3]; exact x2.below
  rw [← hW3]
  have j0 := later_next k0 hW3
  have j1 := later_next k1 hW3
  have j2 := later_next k2 hW3
  have j3 := later_next k3 hW3
  have j4 := later_next k4 hW3
  clear k0 k1 k2 k3 k4 hW3 x0 x1
  refine wp_region_later (by kernel_rfl) (by kernel_rfl) ?_
  repeat (go_big_quiet_step ((first | (go_at_call 18; exact later_call (blocks_calls N B Q E F _ _ hN1 hN2 hQ1 hQ2 hE1 hE2 (by omega) (by omega))) | (go_at_call 19; exact later_call (edges_calls N B Q E F _ _ hN1 hN2 hQ1 hQ2 hE1 hE2 hF1 hF2 (by omega) (by omega))) | (go_at_call 20; exact later_call (work_calls N B Q E F _ _ hN1 hN2 hQ1 hQ2 hE1 hE2 hF1 hF2 (by omega) (by omega))) | (go_at_call 15; exact later_call (all_calls N B Q E F _ hN1 hN2 hQ1 hQ2 hE1 hE2)) | (go_at_call 14; exact later_call (aux_calls N B Q E F _ hN1 hN2 hQ1 hQ2 hE1 hE2)) | (go_at_call 17; exact later_call (most_calls N B Q E F _ hN1 hN2 hB1 hB2)))))
  refine wpQuiet_nil ?_
  intro _ hw'
  obtain ⟨x5, rfl⟩ := hw'
  go_wp2_with fail
  exact hR.out _ _ ⟨rfl, hb.trans ((hb3.trans (x5.below.mono hb3.size)).mono hb.size)⟩
end Go.Proofs.Ytcfoigebkcknnaa
