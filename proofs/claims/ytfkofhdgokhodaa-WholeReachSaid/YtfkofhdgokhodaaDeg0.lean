/- The shares of the degrees: plain law. -/
import Derived.Test.YtfkofhdgokhodaaDiv
set_option linter.unusedVariables false
namespace Go.Proofs.Ytfkofhdgokhodaa

def loN (F E i : Nat) : Nat := F * (1000 + E) * (F - 1) * i
def hiN (F E i : Nat) : Nat := (F * E - 1000) * (F - 1) * i + 1000 * (F + 1) * F * (i - 1)
def bel (F E i : Nat) : Nat := shareN (hiN F E i) (loN F E i)
def dN (F i : Nat) : Nat := 1000 * (F + 1) * (F - i)

theorem hi_lo0 (f z : Nat) : (f + 1) * 1000 + (z + 1000) = z + 1000 * (f + 1 + 1) := by omega
theorem hi_lo1 (K a b c d : Nat) : c + K * a * b + K * d = c + K * (a * b + d) := by rw [Nat.mul_assoc K, Nat.mul_add K (a * b) d, Nat.add_assoc]
theorem hi_lo {F E i : Nat} (hFE : 1000 < F * E) (h1 : 1 ≤ i) (hi : i ≤ F) : hiN F E i + dN F i = loN F E i := by
  obtain ⟨j, rfl⟩ : ∃ j, i = j + 1 := ⟨i - 1, by omega⟩
  obtain ⟨d, rfl⟩ : ∃ d, F = j + 1 + d := ⟨F - (j + 1), by omega⟩
  obtain ⟨f, hf⟩ : ∃ f, f = j + d := ⟨_, rfl⟩
  rw [show j + 1 + d = f + 1 by omega] at *
  obtain ⟨z, hz⟩ : ∃ z, z + 1000 = (f + 1) * E := ⟨(f + 1) * E - 1000, by omega⟩
  unfold hiN dN loN
  rw [← hz, Nat.add_sub_cancel, Nat.add_sub_cancel, Nat.add_sub_cancel, show f + 1 - (j + 1) = d by omega, Nat.mul_add (f + 1) 1000 E, ← hz]
  have e : (f + 1) * j + d = f * (j + 1) := by rw [Nat.add_mul, Nat.mul_add]; omega
  have e1 : ((f + 1) * 1000 + (z + 1000)) * f * (j + 1) = z * f * (j + 1) + 1000 * (f + 1 + 1) * (f * (j + 1)) := by
    rw [Nat.mul_assoc _ f, Nat.mul_assoc z f]
    generalize f * (j + 1) = x
    rw [hi_lo0, Nat.add_mul]
  rw [e1, ← e]
  exact hi_lo1 _ _ _ _ _

theorem share_le {h l h' l' : Nat} (hl : 0 < l) (hl' : 0 < l') (hc : h * l' ≤ h' * l) : shareN h l ≤ shareN h' l' := by
  unfold shareN
  generalize 18446744073709551616 = T
  rw [Nat.le_div_iff_mul_le hl']
  refine Nat.le_of_mul_le_mul_right ?_ hl
  have h1 : h * T / l * l ≤ h * T := Nat.div_mul_le_self _ _
  calc h * T / l * l' * l = (h * T / l * l) * l' := Nat.mul_right_comm _ _ _
    _ ≤ h * T * l' := Nat.mul_le_mul_right _ h1
    _ = h * l' * T := Nat.mul_right_comm _ _ _
    _ ≤ h' * l * T := Nat.mul_le_mul_right _ hc
    _ = h' * T * l := Nat.mul_right_comm _ _ _
theorem share_lt {h l h' l' : Nat} (hl : 0 < l) (hl' : 0 < l') (hc : h * l' * 18446744073709551616 + l * l' ≤ h' * l * 18446744073709551616) : shareN h l < shareN h' l' := by
  unfold shareN
  generalize 18446744073709551616 = T at *
  rw [Nat.lt_iff_add_one_le, Nat.le_div_iff_mul_le hl']
  refine Nat.le_of_mul_le_mul_right ?_ hl
  have h1 : h * T / l * l ≤ h * T := Nat.div_mul_le_self _ _
  calc (h * T / l + 1) * l' * l = (h * T / l * l) * l' + l * l' := by rw [Nat.add_mul, Nat.add_mul, Nat.one_mul, Nat.mul_right_comm, Nat.mul_comm l' l]
    _ ≤ h * T * l' + l * l' := Nat.add_le_add_right (Nat.mul_le_mul_right _ h1) _
    _ = h * l' * T + l * l' := by rw [Nat.mul_right_comm]
    _ ≤ h' * l * T := hc
    _ = h' * T * l := Nat.mul_right_comm _ _ _
theorem share_bd {h l : Nat} (hl : h < l) : shareN h l < 18446744073709551616 := by
  unfold shareN
  rw [Nat.div_lt_iff_lt_mul (by omega), Nat.mul_comm 18446744073709551616]
  exact Nat.mul_lt_mul_of_pos_right hl (by omega)

structure May (F E : Nat) : Prop where
  f2 : 2 ≤ F
  f4 : F ≤ 4096
  e1 : 1 ≤ E
  e2 : E ≤ 1000
  fe : 1000 < F * E
section
variable {F E E' i : Nat} (m : May F E)
include m
theorem lo_bd (hi : i ≤ 4096) : loN F E i ≤ 137438953472000 := by
  have := m.f4
  have := m.e2
  unfold loN
  calc F * (1000 + E) * (F - 1) * i ≤ 4096 * 2000 * 4096 * 4096 := Nat.mul_le_mul (Nat.mul_le_mul (Nat.mul_le_mul (by omega) (by omega)) (by omega)) hi
    _ ≤ 137438953472000 := by decide
theorem lo_pos (h1 : 1 ≤ i) : 0 < loN F E i := by
  have := m.f2
  exact Nat.mul_pos (Nat.mul_pos (Nat.mul_pos (by omega) (by omega)) (by omega)) h1
theorem hi_lt (h1 : 1 ≤ i) (hi : i < F) : hiN F E i < loN F E i := by
  have h := hi_lo m.fe h1 (Nat.le_of_lt hi)
  have : 0 < dN F i := Nat.mul_pos (Nat.mul_pos (by omega) (by omega)) (by omega)
  omega
theorem hi_pos (h1 : 1 ≤ i) : 0 < hiN F E i := by
  have := m.f2
  have := m.fe
  exact Nat.lt_of_lt_of_le (Nat.mul_pos (Nat.mul_pos (by omega) (by omega)) h1) (Nat.le_add_right _ _)
theorem bel_bd (h1 : 1 ≤ i) (hi : i < F) : bel F E i < 18446744073709551616 := share_bd (hi_lt m h1 hi)
theorem bel_lt (h1 : 1 ≤ i) (hi : i + 1 < F) : bel F E i < bel F E (i + 1) := by
  refine share_lt (lo_pos m h1) (lo_pos m (by omega)) ?_
  have e1 := hi_lo m.fe h1 (show i ≤ F by omega)
  have e2 := hi_lo m.fe (show 1 ≤ i + 1 by omega) (show i + 1 ≤ F by omega)
  obtain ⟨M, hM⟩ : ∃ M, M = F * (1000 + E) * (F - 1) := ⟨_, rfl⟩
  have l1 : loN F E i = M * i := by rw [hM]; rfl
  have l2 : loN F E (i + 1) = M * (i + 1) := by rw [hM]; rfl
  obtain ⟨K, hK⟩ : ∃ K, K = 1000 * (F + 1) := ⟨_, rfl⟩
  obtain ⟨e, he⟩ : ∃ e, F = e + 1 + i := ⟨F - i - 1, by omega⟩
  have d1 : dN F i = K * (e + 1) := by rw [dN, ← hK, show F - i = e + 1 by omega]
  have d2 : dN F (i + 1) = K * e := by rw [dN, ← hK, show F - (i + 1) = e by omega]
  rw [l1, d1] at e1
  rw [l2, d2] at e2
  rw [l1, l2]
  generalize hiN F E i = a at *
  generalize hiN F E (i + 1) = b at *
  have key : b * (M * i) = a * (M * (i + 1)) + K * M * F := by
    have x1 : (b + K * e) * (M * i) = M * (i + 1) * (M * i) := by rw [e2]
    have x2 : (a + K * (e + 1)) * (M * (i + 1)) = M * i * (M * (i + 1)) := by rw [e1]
    rw [Nat.add_mul] at x1 x2
    have x3 : K * (e + 1) * (M * (i + 1)) = K * e * (M * i) + K * M * F := by
      rw [he]
      simp only [Nat.mul_add, Nat.add_mul, Nat.mul_one, Nat.mul_comm, Nat.mul_left_comm, Nat.mul_assoc]
      omega
    have x4 : M * (i + 1) * (M * i) = M * i * (M * (i + 1)) := Nat.mul_comm _ _
    omega
  rw [key, Nat.add_mul]
  refine Nat.add_le_add_left ?_ _
  have hMb : M * (i * (i + 1)) ≤ 18446744073709551616 := by
    have := m.f4
    have := m.e2
    rw [hM]
    calc F * (1000 + E) * (F - 1) * (i * (i + 1)) ≤ 4096 * 2000 * 4096 * (4096 * 4096) := Nat.mul_le_mul (Nat.mul_le_mul (Nat.mul_le_mul (by omega) (by omega)) (by omega)) (Nat.mul_le_mul (by omega) (by omega))
      _ ≤ 18446744073709551616 := by decide
  have hKF : 1 ≤ K * F := by
    have := m.f2
    exact Nat.mul_pos (by omega) (by omega)
  generalize 18446744073709551616 = T at *
  calc M * i * (M * (i + 1)) = M * (M * (i * (i + 1))) := by simp only [Nat.mul_comm, Nat.mul_left_comm, Nat.mul_assoc]
    _ ≤ M * T := Nat.mul_le_mul_left _ hMb
    _ = 1 * (M * T) := (Nat.one_mul _).symm
    _ ≤ K * F * (M * T) := Nat.mul_le_mul_right _ hKF
    _ = K * M * F * T := by simp only [Nat.mul_comm, Nat.mul_left_comm, Nat.mul_assoc]
theorem bel_mono {j : Nat} (h1 : 1 ≤ i) (hij : i ≤ j) (hj : j < F) : bel F E i ≤ bel F E j := by
  induction j with
  | zero => omega
  | succ j ih =>
    rcases Nat.lt_or_ge i (j + 1) with h | h
    · exact Nat.le_trans (ih (by omega) (by omega)) (Nat.le_of_lt (bel_lt m (by omega) (by omega)))
    · rw [show i = j + 1 by omega]; exact Nat.le_refl _
theorem bel_pos (h1 : 1 ≤ i) (hi : i < F) : 0 < bel F E i := by
  have hb : bel F E 1 ≤ bel F E i := bel_mono m (Nat.le_refl 1) h1 hi
  refine Nat.lt_of_lt_of_le ?_ hb
  unfold bel shareN
  have := m.f2
  rw [Nat.div_pos_iff]
  refine ⟨lo_pos m (Nat.le_refl 1), ?_⟩
  have h2 := lo_bd (i := 1) m (by omega)
  have h3 := hi_pos (i := 1) m (Nat.le_refl 1)
  omega
theorem bel_more (m' : May F E') (hE : E ≤ E') (h1 : 1 ≤ i) (hi : i < F) : bel F E i ≤ bel F E' i := by
  refine share_le (lo_pos m h1) (lo_pos m' h1) ?_
  have e1 := hi_lo m.fe h1 (show i ≤ F by omega)
  have e2 := hi_lo m'.fe h1 (show i ≤ F by omega)
  have hle : loN F E i ≤ loN F E' i := Nat.mul_le_mul_right _ (Nat.mul_le_mul_right _ (Nat.mul_le_mul_left _ (by omega)))
  generalize hiN F E i = a at *
  generalize hiN F E' i = b at *
  generalize loN F E i = l at *
  generalize loN F E' i = l' at *
  generalize dN F i = d at *
  have x1 : a * l' + d * l' = l * l' := by rw [← Nat.add_mul, e1]
  have x2 : b * l + d * l = l * l' := by rw [← Nat.add_mul, e2, Nat.mul_comm]
  have x3 : d * l ≤ d * l' := Nat.mul_le_mul_left _ hle
  omega
end
/-- A share, a digit at a time. -/
theorem share_step (n y i : Nat) (hy : 0 < y) :
    n * 2 ^ (i + 1) / y = (if y ≤ n * 2 ^ i % y * 2 then n * 2 ^ i / y * 2 + 1 else n * 2 ^ i / y * 2) ∧ n * 2 ^ (i + 1) % y = (if y ≤ n * 2 ^ i % y * 2 then n * 2 ^ i % y * 2 - y else n * 2 ^ i % y * 2) := by
  rw [Nat.pow_succ, ← Nat.mul_assoc]
  generalize n * 2 ^ i = x
  have h := Nat.div_add_mod x y
  have hm := Nat.mod_lt x hy
  generalize x / y = q at *
  generalize x % y = r at *
  have e : x * 2 = y * (q * 2) + r * 2 := by rw [← h, Nat.add_mul, Nat.mul_assoc]
  split
  · have e2 : x * 2 = y * (q * 2 + 1) + (r * 2 - y) := by rw [e, Nat.mul_add]; omega
    rw [e2, Nat.mul_add_div hy, Nat.mul_add_mod, Nat.div_eq_of_lt (show r * 2 - y < y by omega), Nat.mod_eq_of_lt (show r * 2 - y < y by omega)]
    exact ⟨rfl, rfl⟩
  · rw [e, Nat.mul_add_div hy, Nat.mul_add_mod, Nat.div_eq_of_lt (show r * 2 < y by omega), Nat.mod_eq_of_lt (show r * 2 < y by omega)]
    exact ⟨rfl, rfl⟩
end Go.Proofs.Ytfkofhdgokhodaa
