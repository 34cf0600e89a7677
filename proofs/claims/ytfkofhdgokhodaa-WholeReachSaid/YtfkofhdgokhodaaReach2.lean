/- What the kernel's checks say. -/
import Derived.Test.YtfkofhdgokhodaaReach1
set_option linter.unusedVariables false
set_option linter.unusedSimpArgs false
namespace Go.Proofs.Ytfkofhdgokhodaa
open Go.RowKit

/-- The two numbers of an id, below A. -/
def pickD (A : Nat) (d : Nat × Nat × Nat) (j : Nat) : Prop := j = d.2.1 % (A - 1) ∨ j = bif Nat.beq (d.2.2 % A) (d.2.1 % (A - 1)) then A - 1 else d.2.2 % A
theorem covD_sound {A : Nat} : ∀ {l : List (Nat × Nat × Nat)} {m : Nat}, covD A l m = true → ∀ j, j < A → m.testBit j = true ∨ ∃ d ∈ l, pickD A d j
  | [], m, h, j, hj => by
    rw [covD] at h
    rw [Nat.eq_of_beq_eq_true h, Nat.testBit_two_pow_sub_one]
    exact .inl (decide_eq_true hj)
  | (i, x1, x2) :: t, m, h, j, hj => by
    rw [covD] at h
    rcases covD_sound h j hj with h1 | ⟨d, hd, h1⟩
    · rw [show ∀ a b : Nat, Nat.lor a b = a ||| b from fun _ _ => rfl, show ∀ a b : Nat, Nat.lor a b = a ||| b from fun _ _ => rfl, Nat.testBit_or, Nat.testBit_or, Nat.testBit_two_pow, Nat.testBit_two_pow, Bool.or_eq_true, Bool.or_eq_true] at h1
      rcases h1 with (h1 | h1) | h1
      · exact .inl h1
      · exact .inr ⟨_, List.mem_cons_self, .inl (of_decide_eq_true h1).symm⟩
      · exact .inr ⟨_, List.mem_cons_self, .inr (of_decide_eq_true h1).symm⟩
    · exact .inr ⟨d, List.mem_cons_of_mem _ hd, h1⟩
theorem allD_sound {l : List (Nat × Nat × Nat)} : ∀ {k : Nat}, allD l k = true → ∀ A, 2 ≤ A → A < k + 2 → covD A l 0 = true
  | 0, _, A, h1, h2 => by omega
  | k + 1, h, A, h1, h2 => by
    rw [allD, Bool.and_eq_true] at h
    by_cases e : A = k + 2
    · rw [e]; exact h.1
    · exact allD_sound h.2 A h1 (by omega)
theorem reach_all {l : List (Nat × Nat × Nat)} (h : allD l 52 = true) {A : Nat} (h1 : 2 ≤ A) (h2 : A ≤ 53) {j : Nat} (hj : j < A) : ∃ d ∈ l, pickD A d j := by
  rcases covD_sound (allD_sound h A h1 (by omega)) j hj with h | h
  · simp at h
  · exact h
theorem okD_sound {lo hi s : Nat} : ∀ {l : List (Nat × Nat × Nat)}, okD lo hi s l = true → ∀ d ∈ l, d.1 < 4000 ∧ lo ≤ mixN (stepN (seed3N s d.1)) ∧ mixN (stepN (seed3N s d.1)) < hi ∧ mixN (stepN (stepN (seed3N s d.1))) = d.2.1 ∧ mixN (stepN (stepN (stepN (seed3N s d.1)))) = d.2.2 ∧ 100 < d.2.1 ∧ 100 < d.2.2
  | [], _, d, hd => by cases hd
  | (i, x1, x2) :: t, h, d, hd => by
    rw [okD, Bool.and_eq_true] at h
    rcases List.mem_cons.1 hd with rfl | hd
    · obtain ⟨h, -⟩ := h
      simp only [Bool.and_eq_true] at h
      obtain ⟨a1, a2, a3, a4, a5, a6, a7⟩ := h
      exact ⟨Nat.le_of_ble_eq_true a1, Nat.le_of_ble_eq_true a2, Nat.le_of_ble_eq_true a3, Nat.eq_of_beq_eq_true a4, Nat.eq_of_beq_eq_true a5, Nat.le_of_ble_eq_true a6, Nat.le_of_ble_eq_true a7⟩
    · exact okD_sound h.2 d hd
end Go.Proofs.Ytfkofhdgokhodaa
