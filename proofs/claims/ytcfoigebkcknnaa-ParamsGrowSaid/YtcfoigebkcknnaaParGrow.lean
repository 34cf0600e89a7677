/- ParamsGrow walked. -/
import Derived.Test.YtcfoigebkcknnaaParLaws
set_option linter.unusedVariables false
namespace Go.Proofs.Ytcfoigebkcknnaa
open Go.RowKit

theorem box53 (w : World) (N B Q E F a b c : Int) (t u : TypeId) : ∃ W, W = (w.alloc (.cells #[.int .i64 N, .int .i64 B, .int .i64 Q, .int .i64 E, .int .i64 F] t)).alloc (.cells #[.int .u8 a, .int .u8 b, .int .u8 c] u) ∧ Below w.heap.size w W ∧ w.heap.size + 1 < W.heap.size ∧
    W.cell? ⟨w.heap.size, 0, none⟩ = some (.int .i64 N) ∧ W.cell? ⟨w.heap.size, 1, none⟩ = some (.int .i64 B) ∧ W.cell? ⟨w.heap.size, 2, none⟩ = some (.int .i64 Q) ∧ W.cell? ⟨w.heap.size, 3, none⟩ = some (.int .i64 E) ∧ W.cell? ⟨w.heap.size, 4, none⟩ = some (.int .i64 F) ∧
    W.cell? ⟨w.heap.size + 1, 0, none⟩ = some (.int .u8 a) ∧ W.cell? ⟨w.heap.size + 1, 1, none⟩ = some (.int .u8 b) ∧ W.cell? ⟨w.heap.size + 1, 2, none⟩ = some (.int .u8 c) :=
  ⟨_, rfl, ((Below.refl _ _).alloc (Nat.le_refl _) _).alloc (by simp) _, by simp, by simp [go_sem], by simp [go_sem], by simp [go_sem], by simp [go_sem], by simp [go_sem], by simp [go_sem], by simp [go_sem], by simp [go_sem]⟩

theorem auxI_mono {Q E N Q' E' N' : Int} (hQ : Q ≤ Q') (hE : E ≤ E') (hN : N ≤ N') (h1 : 0 ≤ Q) (h2 : 0 ≤ E) (h3 : 0 ≤ N) : auxI Q E N ≤ auxI Q' E' N' := by
  have p1 : 55 * Q * E ≤ 55 * Q' * E' := Int.mul_le_mul (by omega) hE h2 (by omega)
  have p0 : 0 ≤ 55 * Q * E := Int.mul_nonneg (by omega) h2
  have p2 : 55 * Q * E * N ≤ 55 * Q' * E' * N' := Int.mul_le_mul p1 hN h3 (by omega)
  unfold auxI
  split <;> split <;> omega

theorem grow_calls (N B Q E F a b c : Int) (w : World) (ha1 : 0 ≤ a) (ha2 : a ≤ 255) (hb1 : 0 ≤ b) (hb2 : b ≤ 255) (hc1 : 0 ≤ c) (hc2 : c ≤ 255) : Calls Try.prog 4 #[pV N B Q E F, .agg #[.int .u8 a, .int .u8 b, .int .u8 c]] w fun e w' => e = .returned (.bool true) ∧ Below w.heap.size w w' := by
  refine cps fun R hR => ?_
  go_enter Try.func4, Try.ntmps4
  go_wp2_with fail
  obtain ⟨W, hW, hb, hs, ⟨c0, c1, c2, c3, c4, d0, d1, d2⟩⟩ := box53 w N B Q E F a b c 23 28
  rw [← hW]
  have k0 := later_cell c0
  have k1 := later_cell c1
  have k2 := later_cell c2
  have k3 := later_cell c3
  have k4 := later_cell c4
  have k5 := later_cell d0
  have k6 := later_cell d1
  have k7 := later_cell d2
  clear c0 c1 c2 c3 c4 d0 d1 d2 hW
  obtain ⟨x0, hx0⟩ := later_start W
  rw [← hx0]
  clear hx0
  refine (later_call (speaks_calls _)).mono ?_
  rintro e w1 ⟨rfl, x1, rfl⟩
  have hz0 : w.heap.size < x1.v.heap.size := by have := x1.below.size; omega
  have hz1 : w.heap.size + 1 < x1.v.heap.size := by have := x1.below.size; omega
  cases hm : mayB N B Q E F
  · go_wp2_with fail
    obtain ⟨W2, hW2⟩ : ∃ W2, W2 = x1.v.alloc (.cells #[.int .i64 (wrap64 (N + a)), .int .i64 B, .int .i64 (wrap64 (Q + b % 8)), .int .i64 (wrap64 (E + c)), .int .i64 F] 23) := ⟨_, rfl⟩
    rw [← hW2]
    obtain ⟨x2, rfl⟩ : ∃ x2 : Later W, W2 = x2.v := ⟨⟨W2, by rw [hW2]; exact x1.below.alloc x1.below.size _⟩, rfl⟩
    clear hW2
    refine (later_call (refmay_calls N B Q E F _)).mono ?_
    rintro e w1 ⟨rfl, x3, rfl⟩
    go_wp2_with fail
    exact hR.out _ _ ⟨rfl, hb.trans (x3.below.mono hb.size)⟩
  obtain ⟨hN1, hN2, hB1, hB2, hQ1, hQ2, hE1, hE2, hF1, hF2, -⟩ := may_bd hm
  go_wp2_with fail
  obtain ⟨W2, hW2⟩ : ∃ W2, W2 = x1.v.alloc (.cells #[.int .i64 (N + a), .int .i64 B, .int .i64 (Q + b % 8), .int .i64 (E + c), .int .i64 F] 23) := ⟨_, rfl⟩
  rw [← hW2]
  have q0 : W2.cell? ⟨x1.v.heap.size, 0, none⟩ = some (.int .i64 (N + a)) := by rw [hW2]; simp [go_sem]
  have q1 : W2.cell? ⟨x1.v.heap.size, 1, none⟩ = some (.int .i64 B) := by rw [hW2]; simp [go_sem]
  have q2 : W2.cell? ⟨x1.v.heap.size, 2, none⟩ = some (.int .i64 (Q + b % 8)) := by rw [hW2]; simp [go_sem]
  have q3 : W2.cell? ⟨x1.v.heap.size, 3, none⟩ = some (.int .i64 (E + c)) := by rw [hW2]; simp [go_sem]
  have q4 : W2.cell? ⟨x1.v.heap.size, 4, none⟩ = some (.int .i64 F) := by rw [hW2]; simp [go_sem]
  obtain ⟨x2, hx2⟩ : ∃ x2 : Later W, W2 = x2.v := ⟨⟨W2, by rw [hW2]; exact x1.below.alloc x1.below.size _⟩, rfl⟩
  clear hW2
  have hb2' : Below W.heap.size W W2 := by rw [hx2]; exact x2.below
  have j0 := later_next k0 hx2
  have j1 := later_next k1 hx2
  have j2 := later_next k2 hx2
  have j3 := later_next k3 hx2
  have j4 := later_next k4 hx2
  have l0 := later_cell q0
  have l1 := later_cell q1
  have l2 := later_cell q2
  have l3 := later_cell q3
  have l4 := later_cell q4
  clear k0 k1 k2 k3 k4 k5 k6 k7 q0 q1 q2 q3 q4 hx2 x2 x0 hz1 hz0
  obtain ⟨y0, hy0⟩ := later_start W2
  rw [← hy0]
  clear hy0
  refine (later_call (refmay_calls N B Q E F _)).mono ?_
  rintro e w1 ⟨rfl, y1, rfl⟩
  go_wp2_with fail
  refine (later_call (refmay_calls (N + a) B (Q + b % 8) (E + c) F _)).mono ?_
  rintro e w1 ⟨rfl, y2, rfl⟩
  cases hn : mayB (N + a) B (Q + b % 8) (E + c) F
  · go_wp2_with fail
    exact hR.out _ _ ⟨rfl, hb.trans ((hb2'.trans (y2.below.mono hb2'.size)).mono hb.size)⟩
  obtain ⟨-, gN, -, -, -, gQ, -, gE, -⟩ := may_bd hn
  obtain ⟨ga1, ga2⟩ := aux_bd hN1 hN2 hQ1 hQ2 hE1 hE2
  have hmono : auxI Q E N ≤ auxI (Q + b % 8) (E + c) (N + a) := auxI_mono (by omega) (by omega) (by omega) (by omega) (by omega) (by omega)
  obtain ⟨ga3, ga4⟩ := aux_bd (Q := Q + b % 8) (E := E + c) (N := N + a) (by omega) gN (by omega) gQ (by omega) gE
  have t1 : decide (auxI Q E N ≤ auxI (Q + b % 8) (E + c) (N + a)) = true := by rw [decide_eq_true_eq]; exact hmono
  have t2 : decide (Q ≤ auxI Q E N) = true := by rw [decide_eq_true_eq]; exact ga1
  have t3 : decide (N + auxI Q E N < N + a + auxI (Q + b % 8) (E + c) (N + a) + 1) = true := by rw [decide_eq_true_eq]; omega
  clear hm hn
  go_wp2_with fail
  obtain ⟨W3, hW3⟩ : ∃ W3, W3 = y2.v := ⟨_, rfl⟩
  have hb3 : Below W2.heap.size W2 W3 := by rw [hW3]; exact y2.below
  rw [← hW3]
  have k0 := later_next j0 hW3
  have k1 := later_next j1 hW3
  have k2 := later_next j2 hW3
  have k3 := later_next j3 hW3
  have k4 := later_next j4 hW3
  have m0 := later_next l0 hW3
  have m1 := later_next l1 hW3
  have m2 := later_next l2 hW3
  have m3 := later_next l3 hW3
  have m4 := later_next l4 hW3
  clear j0 j1 j2 j3 j4 l0 l1 l2 l3 l4 hW3 y0 y1
  refine wp_region_later (by kernel_rfl) (by kernel_rfl) ?_
  repeat (go_big_quiet_step ((first | (go_at_call 14; refine later_call (aux_calls _ _ _ _ _ _ ?_ ?_ ?_ ?_ ?_ ?_) <;> omega) | (go_at_call 15; refine later_call (all_calls _ _ _ _ _ _ ?_ ?_ ?_ ?_ ?_ ?_) <;> omega))))
  refine wpQuiet_nil ?_
  intro _ hw'
  obtain ⟨x5, rfl⟩ := hw'
  go_wp2_with fail
  exact hR.out _ _ ⟨rfl, hb.trans ((hb2'.trans ((hb3.trans (x5.below.mono hb3.size)).mono hb2'.size)).mono hb.size)⟩
end Go.Proofs.Ytcfoigebkcknnaa
