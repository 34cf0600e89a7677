/- A division of two digits by one, as math/bits.Div64 does it: the plain law. -/
import Derived.Test.YtfkofhdgokhodaaBase
import Derived.Test.YtfkofhdgokhodaaLead
set_option linter.unusedVariables false
namespace Go.Proofs.Ytfkofhdgokhodaa

theorem bitLen_bd : ∀ (f x : Nat), x < 2 ^ f → f ≤ 64 → 0 < x → 2 ^ (Lib.bitLen x - 1) ≤ x ∧ x < 2 ^ Lib.bitLen x ∧ 1 ≤ Lib.bitLen x ∧ Lib.bitLen x ≤ f
  | 0, x, h, _, h0 => by simp at h; omega
  | f + 1, x, h, hf, h0 => by
    have h64 : x < 2 ^ 64 := Nat.lt_of_lt_of_le h (Nat.pow_le_pow_right (by omega) hf)
    rw [Lib.bitLen_half x (by omega) h64]
    by_cases h2 : x / 2 = 0
    · have hx : x = 1 := by omega
      subst hx
      rw [show Lib.bitLen (1 / 2) = 0 by decide]
      exact ⟨by decide, by decide, by omega, by omega⟩
    · obtain ⟨a, b, c, d⟩ := bitLen_bd f (x / 2) (by rw [Nat.pow_succ] at h; omega) (by omega) (by omega)
      have e : 1 + Lib.bitLen (x / 2) - 1 = (Lib.bitLen (x / 2) - 1) + 1 := by omega
      rw [e, Nat.add_comm 1, Nat.pow_succ, Nat.pow_succ]
      exact ⟨by omega, by omega, by omega, by omega⟩
/-- An estimate of a digit, and what is left. -/
structure Est (u y a q r : Nat) : Prop where
  eq : q * a + r = u
  hi : u * 4294967296 < (q + 1) * y
section
variable {u y a b q r : Nat}
theorem est_first (hy : y = a * 4294967296 + b) (ha : 2147483648 ≤ a) (hb : b < 4294967296) (hu : u < y) : Est u y a (u / a) (u % a) ∧ u / a ≤ 4294967297 := by
  have hd : u / a * a + u % a = u := by rw [Nat.mul_comm]; exact Nat.div_add_mod u a
  have hm : u % a < a := Nat.mod_lt _ (by omega)
  generalize u / a = q at *
  generalize u % a = r at *
  refine ⟨⟨hd, ?_⟩, ?_⟩
  · have e : (q + 1) * y = q * a * 4294967296 + a * 4294967296 + (q + 1) * b := by
      rw [hy, Nat.mul_add, Nat.add_mul, Nat.add_mul, Nat.one_mul, Nat.mul_assoc]
    have e2 : 0 ≤ (q + 1) * b := Nat.zero_le _
    rw [e]
    generalize q * a = qa at *
    generalize (q + 1) * b = z at *
    omega
  · rcases Nat.lt_or_ge q 4294967298 with h | h
    · omega
    · exfalso
      have h2 : 4294967298 * a ≤ q * a := Nat.mul_le_mul_right a h
      generalize q * a = qa at *
      omega
/-- Too great by one at least: one less. -/
theorem est_next (h : Est u y a q r) (hy : y = a * 4294967296 + b) (hu : u < y) (hc : 4294967296 ≤ q ∨ 4294967296 * r < q * b) : 1 ≤ q ∧ Est u y a (q - 1) (r + a) := by
  have hq : 1 ≤ q := by
    rcases hc with h | h
    · omega
    · rcases Nat.eq_zero_or_pos q with h0 | h0
      · subst h0; simp at h
      · exact h0
  obtain ⟨k, rfl⟩ : ∃ k, q = k + 1 := ⟨q - 1, by omega⟩
  have h1 := h.eq
  refine ⟨hq, ⟨by rw [Nat.add_sub_cancel, ← h1, Nat.add_mul]; omega, ?_⟩⟩
  rw [Nat.add_sub_cancel]
  rcases hc with hc | hc
  · have := Nat.mul_le_mul_right y hc
    rw [Nat.mul_comm 4294967296 y] at this
    generalize (k + 1) * y = z at *
    omega
  · have e : (k + 1) * y = (k + 1) * a * 4294967296 + (k + 1) * b := by rw [hy, Nat.mul_add, Nat.mul_assoc]
    rw [e]
    generalize (k + 1) * a = ka at *
    generalize (k + 1) * b = z at *
    omega
/-- Not too great. -/
theorem est_done (h : Est u y a q r) (hy : y = a * 4294967296 + b) (hy0 : 0 < y) (hc : q * b ≤ 4294967296 * r) : q = u * 4294967296 / y := by
  have e : q * y ≤ u * 4294967296 := by
    have e : q * y = q * a * 4294967296 + q * b := by rw [hy, Nat.mul_add, Nat.mul_assoc]
    have h1 := h.eq
    rw [e]
    generalize q * a = qa at *
    generalize q * b = z at *
    omega
  exact (Nat.div_eq_of_lt_le e h.hi).symm
/-- What is left has outgrown a digit. -/
theorem est_far (h : Est u y a q r) (hy : y = a * 4294967296 + b) (hy0 : 0 < y) (hb : b < 4294967296) (hq : q ≤ 4294967296) (hr : 4294967296 ≤ r) : q = u * 4294967296 / y := by
  refine est_done h hy hy0 ?_
  have h1 : q * b ≤ 4294967296 * b := Nat.mul_le_mul_right b hq
  omega
theorem dig_lt (hy0 : 0 < y) (hu : u < y) : u * 4294967296 / y < 4294967296 := by
  rw [Nat.div_lt_iff_lt_mul hy0, Nat.mul_comm 4294967296]
  exact Nat.mul_lt_mul_of_pos_right hu (by omega)
/-- Both digits. -/
theorem two_digits' (u y T : Nat) (hy0 : 0 < y) : u * (T * T) / y = (u * T / y) * T + (u * T % y) * T / y := by
  have h := Nat.div_add_mod (u * T) y
  rw [← Nat.mul_assoc]
  generalize u * T = U at *
  have e : U * T = (U % y) * T + (U / y * T) * y := by
    generalize U / y = q at *
    generalize U % y = r at *
    rw [← h, Nat.add_mul, Nat.mul_comm y q, Nat.mul_right_comm q T y, Nat.add_comm]
  conv => lhs; rw [e]
  rw [Nat.add_mul_div_right _ _ hy0, Nat.add_comm]
theorem two_digits (u y : Nat) (hy0 : 0 < y) : u * 18446744073709551616 / y = (u * 4294967296 / y) * 4294967296 + (u * 4294967296 % y) * 4294967296 / y := two_digits' u y 4294967296 hy0
end
theorem shift_out (h y k : Nat) : h * 2 ^ k * 18446744073709551616 / (y * 2 ^ k) = h * 18446744073709551616 / y := by
  rw [Nat.mul_right_comm, Nat.mul_div_mul_right _ _ (Nat.two_pow_pos k)]
end Go.Proofs.Ytfkofhdgokhodaa
