/- What the params functions and the reference's own answer, walked. -/
import Derived.Test.YtfkofhdgokhodaaBase
set_option linter.unusedVariables false
set_option linter.unusedSimpArgs false
namespace Go.Proofs.Ytfkofhdgokhodaa
open Go.RowKit

def inB (n a b : Int) : Bool := decide (a ≤ n) && decide (n ≤ b)
theorem in_calls (n a b : Int) (w : World) : Calls Try.prog 61 #[.int .i64 n, .int .i64 a, .int .i64 b] w fun e w' => e = .returned (.bool (inB n a b)) ∧ w = w' := by
  by_cases h1 : a ≤ n
  · by_cases h2 : n ≤ b
    all_goals
      go_enter Try.func61, Try.ntmps61
      go_wp2
      go_ret
      exact ⟨by simp [inB, *], rfl⟩
  · have h1' : decide (a ≤ n) = false := by simpa using h1
    go_enter Try.func61, Try.ntmps61
    go_wp2
    go_ret
    exact ⟨by simp [inB, *], rfl⟩

/-- Which Params may be. -/
def mayB (N B Q E F : Int) : Bool := inB N 1 1048576 && inB B 1 65535 && inB Q 1 8 && inB E 1 1000 && inB F 2 4096 && decide (1000 < F * E)
theorem may_bd {N B Q E F : Int} (h : mayB N B Q E F = true) : 1 ≤ N ∧ N ≤ 1048576 ∧ 1 ≤ B ∧ B ≤ 65535 ∧ 1 ≤ Q ∧ Q ≤ 8 ∧ 1 ≤ E ∧ E ≤ 1000 ∧ 2 ≤ F ∧ F ≤ 4096 ∧ 1000 < F * E := by
  simp only [mayB, inB, Bool.and_eq_true, decide_eq_true_eq] at h
  omega

theorem wrap_FE {F E : Int} (hE1 : 1 ≤ E) (hE2 : E ≤ 1000) (hF1 : 2 ≤ F) (hF2 : F ≤ 4096) : wrap64 (F * E) = F * E := by
  have h1 : F * E ≤ 4096 * 1000 := Int.mul_le_mul hF2 hE2 (by omega) (by omega)
  have h2 : 0 ≤ F * E := Int.mul_nonneg (by omega) (by omega)
  exact IntWalk.wrap64_in _ ⟨by omega, by omega⟩

theorem check_calls (N B Q E F : Int) (w : World) : Calls Try.prog 34 #[pV N B Q E F] w fun e w' =>
    e = .returned (.int .i64 (if mayB N B Q E F = true then 0 else 1)) ∧ Below w.heap.size w w' := by
  refine cps fun R hR => ?_
  go_enter Try.func34, Try.ntmps34
  go_wp2_with ((go_at_call 61; refine (in_calls _ _ _ _).mono ?_; rintro e w' ⟨rfl, rfl⟩))
  all_goals
    refine hR.out _ _ ⟨ret_int ?_, (Below.refl _ _).alloc (Nat.le_refl _) _⟩
    first
    | (have hE : inB E 1 1000 = true := by assumption
       have hF : inB F 2 4096 = true := by assumption
       have hw : wrap64 (F * E) = F * E := by
         simp only [inB, Bool.and_eq_true, decide_eq_true_eq] at hE hF
         exact wrap_FE hE.1 hE.2 hF.1 hF.2
       first
       | (have hl : 1000 < wrap64 (F * E) := by assumption
          rw [hw] at hl
          simp [mayB, *]; done)
       | (have hl : wrap64 (F * E) ≤ 1000 := by assumption
          rw [hw] at hl
          have hl' : ¬ 1000 < F * E := by omega
          simp [mayB, *]; done))
    | (simp [mayB, *]; done)
    | (simp_all [mayB]; done)

theorem refmay_calls (N B Q E F : Int) (w : World) : Calls Try.prog 9 #[pV N B Q E F] w fun e w' =>
    e = .returned (.bool (mayB N B Q E F)) ∧ Below w.heap.size w w' := by
  refine cps fun R hR => ?_
  go_enter Try.func9, Try.ntmps9
  go_wp2
  all_goals
    refine hR.out _ _ ⟨ret_bool ?_, (Below.refl _ _).alloc (Nat.le_refl _) _⟩
    rw [Bool.eq_iff_iff]
    simp only [mayB, inB, Bool.and_eq_true, decide_eq_true_eq, Bool.false_eq_true, false_iff]
    first | omega | (rw [wrap_FE (by omega) (by omega) (by omega) (by omega)]; omega)

theorem below_step {B : Nat} {a b c : World} (h : Below B a b) (hB : B ≤ b.heap.size) (k : Below b.heap.size b c) : Below B a c := h.trans (k.mono hB)

theorem box5 (w : World) (N B Q E F : Int) (t : TypeId) : ∃ W, W = w.alloc (.cells #[.int .i64 N, .int .i64 B, .int .i64 Q, .int .i64 E, .int .i64 F] t) ∧ Below w.heap.size w W ∧ w.heap.size < W.heap.size ∧
    W.cell? ⟨w.heap.size, 0, none⟩ = some (.int .i64 N) ∧ W.cell? ⟨w.heap.size, 1, none⟩ = some (.int .i64 B) ∧ W.cell? ⟨w.heap.size, 2, none⟩ = some (.int .i64 Q) ∧ W.cell? ⟨w.heap.size, 3, none⟩ = some (.int .i64 E) ∧ W.cell? ⟨w.heap.size, 4, none⟩ = some (.int .i64 F) :=
  ⟨_, rfl, (Below.refl _ _).alloc (Nat.le_refl _) _, by simp, by simp [go_sem], by simp [go_sem], by simp [go_sem], by simp [go_sem], by simp [go_sem]⟩
end Go.Proofs.Ytfkofhdgokhodaa
