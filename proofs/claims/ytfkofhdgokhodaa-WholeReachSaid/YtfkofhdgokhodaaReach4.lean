/- In which window the degree is two, and that each block is met. -/
import Derived.Test.YtfkofhdgokhodaaReach3
import Derived.Test.YtfkofhdgokhodaaReachD0
import Derived.Test.YtfkofhdgokhodaaReachD1
import Derived.Test.YtfkofhdgokhodaaReachD2
import Derived.Test.YtfkofhdgokhodaaReachD3
import Derived.Test.YtfkofhdgokhodaaDeg5
set_option linter.unusedVariables false
set_option linter.unusedSimpArgs false
namespace Go.Proofs.Ytfkofhdgokhodaa
open Go.RowKit

section
variable {F E : Nat} (m : May F E)
include m
/-- The first share, below a fraction. -/
theorem bel1_le {a b : Nat} (hb : 0 < b) (h : (F * E - 1000) * b ≤ a * (F * (1000 + E))) : bel F E 1 ≤ shareN a b := by
  refine share_le (lo_pos m (Nat.le_refl 1)) hb ?_
  unfold hiN loN
  simp only [Nat.mul_one, Nat.sub_self, Nat.mul_zero, Nat.add_zero]
  calc (F * E - 1000) * (F - 1) * b = (F * E - 1000) * b * (F - 1) := Nat.mul_right_comm _ _ _
    _ ≤ a * (F * (1000 + E)) * (F - 1) := Nat.mul_le_mul_right _ h
    _ = a * (F * (1000 + E) * (F - 1)) := Nat.mul_assoc _ _ _
/-- The second share, from a fraction on: one less a part. -/
theorem bel2_ge {a b c : Nat} (hb : b = a + c) (hb0 : 0 < b) (hF : 2 < F) (h : 1000 * b ≤ c * (2 * (1000 + E))) : shareN a b ≤ bel F E 2 := by
  refine share_le hb0 (lo_pos m (by omega)) ?_
  have e := hi_lo (F := F) (E := E) (i := 2) m.fe (by omega) (by omega)
  generalize hiN F E 2 = hi at *
  have k : dN F 2 * b ≤ c * loN F E 2 := by
    unfold dN loN
    have k1 : (F + 1) * (F - 2) ≤ F * (F - 1) := by
      obtain ⟨f, rfl⟩ : ∃ f, F = f + 2 := ⟨F - 2, by omega⟩
      rw [Nat.add_sub_cancel, show f + 2 - 1 = f + 1 by omega]
      have e1 : (f + 2 + 1) * f = f * f + 3 * f := by rw [show f + 2 + 1 = f + 3 by omega, Nat.add_mul]
      have e2 : (f + 2) * (f + 1) = f * f + 3 * f + 2 := by rw [Nat.add_mul, Nat.mul_add, Nat.mul_add]; omega
      omega
    calc 1000 * (F + 1) * (F - 2) * b = (F + 1) * (F - 2) * (1000 * b) := by simp only [Nat.mul_comm, Nat.mul_left_comm, Nat.mul_assoc]
      _ ≤ F * (F - 1) * (c * (2 * (1000 + E))) := Nat.mul_le_mul k1 h
      _ = c * (F * (1000 + E) * (F - 1) * 2) := by simp only [Nat.mul_comm, Nat.mul_left_comm, Nat.mul_assoc]
  generalize loN F E 2 = lo at *
  generalize dN F 2 = d at *
  have x1 : hi * b + d * b = a * lo + c * lo := by rw [← Nat.add_mul, e, hb, Nat.mul_comm lo, Nat.add_mul]
  omega
theorem win_low (hE : E ≤ 600) (hF : F ≤ 200) : bel F E 1 ≤ lo0 ∧ (2 < F → hi0 ≤ bel F E 2) := by
  have fe := m.fe
  have hE6 : 6 ≤ E := by
    rcases Nat.lt_or_ge E 6 with h | h
    · have := Nat.mul_le_mul hF (show E ≤ 5 by omega); omega
    · exact h
  refine ⟨Nat.le_trans (bel1_le m (a := 3) (b := 8) (by decide) ?_) (by decide), fun h => Nat.le_trans (m := shareN 5029 10000) (by decide) (bel2_ge m (c := 4971) (by decide) (by decide) h (by omega))⟩
  have e1 : F * E ≤ F * 600 := Nat.mul_le_mul_left _ hE
  rw [Nat.mul_add]
  omega
theorem win_high (hE : 600 ≤ E) : bel F E 1 ≤ lo1 ∧ (2 < F → hi1 ≤ bel F E 2) := by
  have e2 := m.e2
  refine ⟨Nat.le_trans (bel1_le m (a := 1) (b := 2) (by decide) ?_) (by decide), fun h => Nat.le_trans (m := shareN 137 200) (by decide) (bel2_ge m (c := 63) (by decide) (by decide) h (by omega))⟩
  have e1 : F * E ≤ F * 1000 := Nat.mul_le_mul_left _ e2
  rw [Nat.mul_add]
  omega
theorem of_two {u lo hi : Nat} (h : bel F E 1 ≤ lo ∧ (2 < F → hi ≤ bel F E 2)) (h1 : lo ≤ u) (h2 : u < hi) : IsOf F E u 2 := by
  have f2 := m.f2
  refine ⟨by decide, f2, fun i g1 g2 => ?_, fun g => Nat.lt_of_lt_of_le h2 (h.2 g)⟩
  rw [show i = 1 by omega]
  exact Nat.le_trans h.1 h1
end
/-- What a check block has: the numbers that are drawn for it. -/
def chkL (A d ses id : Nat) : List Int := someL A (min d A) (seedF [UInt64.ofNat ses, 2, UInt64.ofNat id] + stepC)
/-- By which its degree is drawn. -/
def chkU (ses id : Nat) : Nat := (mix64 (seedF [UInt64.ofNat ses, 2, UInt64.ofNat id] + stepC)).toNat
theorem met_by {F E A ses lo hi : Nat} (m : May F E) (hw : bel F E 1 ≤ lo ∧ (2 < F → hi ≤ bel F E 2)) (hs : ses < 16) (hA1 : 2 ≤ A) (hA2 : A ≤ 53) {l : List (Nat × Nat × Nat)} (ho : okD lo hi ses l = true) (ha : allD l 52 = true) {D : Nat → Nat} (hD : ∀ id, IsOf F E (chkU ses id) (D id)) {j : Nat} (hj : j < A) :
    ∃ id, id < 4000 ∧ (j : Int) ∈ chkL A (D id) ses id := by
  obtain ⟨⟨i, x1, x2⟩, hd, hp⟩ := reach_all ha hA1 hA2 hj
  obtain ⟨b1, b2, b3, b4, b5, b6, b7⟩ := okD_sound ho _ hd
  simp only at b1 b2 b3 b4 b5 b6 b7
  have es := seed_nat ses i (by omega) (by omega)
  have eu : chkU ses i = mixN (stepN (seed3N ses i)) := by unfold chkU; rw [mix_nat, step_nat, es]
  have e2 : D i = 2 := (hD i).eq (by rw [eu]; exact of_two m hw b2 b3)
  refine ⟨i, b1, ?_⟩
  unfold chkL
  rw [e2, Nat.min_eq_left hA1]
  exact two_some hA1 hA2 (by rw [mix_nat, step_nat, step_nat, es, b4]) (by rw [mix_nat, step_nat, step_nat, step_nat, es, b5]) b6 b7 hp
theorem all_met {F E A ses : Nat} (m : May F E) (hF : F ≤ 200) (hs : ses < 16) (hA1 : 2 ≤ A) (hA2 : A ≤ 53) {D : Nat → Nat} (hD : ∀ id, IsOf F E (chkU ses id) (D id)) {j : Nat} (hj : j < A) :
    ∃ id, id < 4000 ∧ (j : Int) ∈ chkL A (D id) ses id := by
  rcases Nat.le_total E 600 with h | h
  · have hw := win_low m h hF
    have : ses = 0 ∨ ses = 1 ∨ ses = 2 ∨ ses = 3 ∨ ses = 4 ∨ ses = 5 ∨ ses = 6 ∨ ses = 7 ∨ ses = 8 ∨ ses = 9 ∨ ses = 10 ∨ ses = 11 ∨ ses = 12 ∨ ses = 13 ∨ ses = 14 ∨ ses = 15 := by omega
    rcases this with rfl | rfl | rfl | rfl | rfl | rfl | rfl | rfl | rfl | rfl | rfl | rfl | rfl | rfl | rfl | rfl
    · exact met_by m hw hs hA1 hA2 okD0_0 allD0_0 hD hj
    · exact met_by m hw hs hA1 hA2 okD0_1 allD0_1 hD hj
    · exact met_by m hw hs hA1 hA2 okD0_2 allD0_2 hD hj
    · exact met_by m hw hs hA1 hA2 okD0_3 allD0_3 hD hj
    · exact met_by m hw hs hA1 hA2 okD0_4 allD0_4 hD hj
    · exact met_by m hw hs hA1 hA2 okD0_5 allD0_5 hD hj
    · exact met_by m hw hs hA1 hA2 okD0_6 allD0_6 hD hj
    · exact met_by m hw hs hA1 hA2 okD0_7 allD0_7 hD hj
    · exact met_by m hw hs hA1 hA2 okD0_8 allD0_8 hD hj
    · exact met_by m hw hs hA1 hA2 okD0_9 allD0_9 hD hj
    · exact met_by m hw hs hA1 hA2 okD0_10 allD0_10 hD hj
    · exact met_by m hw hs hA1 hA2 okD0_11 allD0_11 hD hj
    · exact met_by m hw hs hA1 hA2 okD0_12 allD0_12 hD hj
    · exact met_by m hw hs hA1 hA2 okD0_13 allD0_13 hD hj
    · exact met_by m hw hs hA1 hA2 okD0_14 allD0_14 hD hj
    · exact met_by m hw hs hA1 hA2 okD0_15 allD0_15 hD hj
  · have hw := win_high m h
    have : ses = 0 ∨ ses = 1 ∨ ses = 2 ∨ ses = 3 ∨ ses = 4 ∨ ses = 5 ∨ ses = 6 ∨ ses = 7 ∨ ses = 8 ∨ ses = 9 ∨ ses = 10 ∨ ses = 11 ∨ ses = 12 ∨ ses = 13 ∨ ses = 14 ∨ ses = 15 := by omega
    rcases this with rfl | rfl | rfl | rfl | rfl | rfl | rfl | rfl | rfl | rfl | rfl | rfl | rfl | rfl | rfl | rfl
    · exact met_by m hw hs hA1 hA2 okD1_0 allD1_0 hD hj
    · exact met_by m hw hs hA1 hA2 okD1_1 allD1_1 hD hj
    · exact met_by m hw hs hA1 hA2 okD1_2 allD1_2 hD hj
    · exact met_by m hw hs hA1 hA2 okD1_3 allD1_3 hD hj
    · exact met_by m hw hs hA1 hA2 okD1_4 allD1_4 hD hj
    · exact met_by m hw hs hA1 hA2 okD1_5 allD1_5 hD hj
    · exact met_by m hw hs hA1 hA2 okD1_6 allD1_6 hD hj
    · exact met_by m hw hs hA1 hA2 okD1_7 allD1_7 hD hj
    · exact met_by m hw hs hA1 hA2 okD1_8 allD1_8 hD hj
    · exact met_by m hw hs hA1 hA2 okD1_9 allD1_9 hD hj
    · exact met_by m hw hs hA1 hA2 okD1_10 allD1_10 hD hj
    · exact met_by m hw hs hA1 hA2 okD1_11 allD1_11 hD hj
    · exact met_by m hw hs hA1 hA2 okD1_12 allD1_12 hD hj
    · exact met_by m hw hs hA1 hA2 okD1_13 allD1_13 hD hj
    · exact met_by m hw hs hA1 hA2 okD1_14 allD1_14 hD hj
    · exact met_by m hw hs hA1 hA2 okD1_15 allD1_15 hD hj
end Go.Proofs.Ytfkofhdgokhodaa
