/- The shares of the degrees, walked: the reference. -/
import Derived.Test.YtfkofhdgokhodaaDeg0
import Derived.Test.YtfkofhdgokhodaaParK
import Derived.Test.YtfkofhdgokhodaaCh
import Derived.Test.YtfkofhdgokhodaaRow
set_option linter.unusedVariables false
set_option linter.unusedSimpArgs false
namespace Go.Proofs.Ytfkofhdgokhodaa
open Go.RowKit

theorem share_calls (n y : Nat) (w : World) (h : n < y) (hy : y ≤ 9223372036854775808) :
    Calls Try.prog 113 #[.int .u64 (n : Int), .int .u64 (y : Int)] w fun e w' => e = .returned (.int .u64 (shareN n y : Int)) ∧ w = w' := by
  refine cps fun R hR => ?_
  have hs : Hid (shareN n y = n * 2 ^ 64 / y) := hide rfl
  generalize shareN n y = sh at hR hs
  have h0 : Hid (n * 2 ^ 0 / y = 0 ∧ n * 2 ^ 0 % y = n) := hide (by rw [Nat.pow_zero, Nat.mul_one, Nat.div_eq_of_lt h, Nat.mod_eq_of_lt h]; exact ⟨rfl, rfl⟩)
  have Hy := hide hy
  have H := hide h
  clear hy h
  go_enter Try.func113, Try.ntmps113
  go_wp2_with fail
  go_loop [5, 6, 7] (fun o l i => ∃ k : Nat, k ≤ 64 ∧ i = .int .i64 (k : Int) ∧ o = .int .u64 ((n * 2 ^ k / y : Nat) : Int) ∧ l = .int .u64 ((n * 2 ^ k % y : Nat) : Int)) (fun _ _ i => 64 - (intOf i).toNat)
  case atStart => exact ⟨0, by omega, rfl, by rw [h0.out.1]; rfl, by rw [h0.out.2]⟩
  case round =>
    obtain ⟨k, hk, rfl, rfl, rfl⟩ := hrel
    by_cases hlt : k < 64
    · have hst := share_step n y k (by have := H.out; omega)
      have hl : n * 2 ^ k % y < y := Nat.mod_lt _ (by have := H.out; omega)
      have hq : n * 2 ^ k / y < 2 ^ k := by
        rw [Nat.div_lt_iff_lt_mul (by have := H.out; omega), Nat.mul_comm]
        exact Nat.mul_lt_mul_of_pos_left H.out (Nat.two_pow_pos k)
      have h2 : 2 ^ k ≤ 9223372036854775808 := Nat.pow_le_pow_right (n := 2) (by omega) (show k ≤ 63 by omega)
      obtain ⟨o', ho'⟩ : ∃ x, x = n * 2 ^ (k + 1) / y := ⟨_, rfl⟩
      obtain ⟨l', hl'⟩ : ∃ x, x = n * 2 ^ (k + 1) % y := ⟨_, rfl⟩
      obtain ⟨o, ho⟩ : ∃ x, x = n * 2 ^ k / y := ⟨_, rfl⟩
      obtain ⟨l, hll⟩ : ∃ x, x = n * 2 ^ k % y := ⟨_, rfl⟩
      rw [← ho', ← hl', ← ho, ← hll] at hst
      rw [← ho] at hq
      rw [← hll] at hl
      rw [← ho, ← hll]
      have Ho' := hide ho'
      have Hl' := hide hl'
      clear ho' hl' ho hll
      obtain ⟨l2, hl2⟩ : ∃ x, x = l * 2 := ⟨_, rfl⟩
      obtain ⟨o2, ho2⟩ : ∃ x, x = o * 2 := ⟨_, rfl⟩
      have f1 : IntKind.u64.wrap ((l : Int) * 2) = (l2 : Int) := w64_nat (by omega) (by have := Hy.out; omega)
      have f2 : IntKind.u64.wrap ((o : Int) * 2) = (o2 : Int) := w64_nat (by omega) (by omega)
      rw [← hl2, ← ho2] at hst
      by_cases hc : y ≤ l2
      · rw [if_pos hc, if_pos hc] at hst
        have f3 : decide (y ≤ l2) = true := by simp; omega
        have f4 : IntKind.u64.wrap ((l2 : Int) - (y : Int)) = (l' : Int) := w64_nat (by omega) (by have := Hy.out; omega)
        have f5 : IntKind.u64.wrap ((o2 : Int) + 1) = (o' : Int) := w64_nat (by omega) (by omega)
        clear hst hl hq h2 hl2 ho2 hc
        go_wp2_with fail
        go_round
        case rel => exact ⟨k + 1, by omega, by go_num, by rw [← Ho'.out], by rw [← Hl'.out]⟩
        case measure => simp [intOf]; omega
      · rw [if_neg hc, if_neg hc] at hst
        have f3 : decide (y ≤ l2) = false := by simp; omega
        obtain ⟨rfl, rfl⟩ := hst
        clear hl hq h2 hl2 ho2 hc
        go_wp2_with fail
        go_round
        case rel => exact ⟨k + 1, by omega, by go_num, by rw [← Ho'.out], by rw [← Hl'.out]⟩
        case measure => simp [intOf]; omega
    · obtain rfl : k = 64 := by omega
      clear hlt hk
      rw [← hs.out]
      go_wp2_with fail
      exact hR.out _ _ ⟨rfl, rfl⟩

section
variable {F E : Nat} (m : May F E)
include m
set_option maxRecDepth 10000 in
/-- What is reckoned of a degree. -/
theorem facs {k i : Nat} (hi : i = k + 1) (hk : k + 1 < F) : ∃ P z f zf q1 g1 g2 g3 q2 e1 e2 e3 : Nat,
    IntKind.u64.wrap ((F : Int) * (E : Int)) = (P : Int) ∧ IntKind.u64.wrap ((P : Int) - 1000) = (z : Int) ∧ IntKind.u64.wrap ((F : Int) - 1) = (f : Int) ∧ IntKind.u64.wrap ((z : Int) * (f : Int)) = (zf : Int) ∧
    IntKind.u64.wrap ((zf : Int) * (i : Int)) = (q1 : Int) ∧ IntKind.u64.wrap ((F : Int) + 1) = (g1 : Int) ∧ IntKind.u64.wrap (1000 * (g1 : Int)) = (g2 : Int) ∧ IntKind.u64.wrap ((g2 : Int) * (F : Int)) = (g3 : Int) ∧
    IntKind.u64.wrap ((i : Int) - 1) = (k : Int) ∧ IntKind.u64.wrap ((g3 : Int) * (k : Int)) = (q2 : Int) ∧ IntKind.u64.wrap ((q1 : Int) + (q2 : Int)) = (hiN F E i : Int) ∧
    IntKind.u64.wrap (1000 + (E : Int)) = (e1 : Int) ∧ IntKind.u64.wrap ((F : Int) * (e1 : Int)) = (e2 : Int) ∧ IntKind.u64.wrap ((e2 : Int) * (f : Int)) = (e3 : Int) ∧ IntKind.u64.wrap ((e3 : Int) * (i : Int)) = (loN F E i : Int) := by
  have h1 := m.f2
  have h2 := m.f4
  have h3 := m.e1
  have h4 := m.e2
  have h5 := m.fe
  have hlo := hi_lt m (show 1 ≤ i by omega) (show i < F by omega)
  have hlb := lo_bd m (show i ≤ 4096 by omega)
  have ehi : hiN F E i = (F * E - 1000) * (F - 1) * i + 1000 * (F + 1) * F * k := by rw [hi]; rfl
  have elo : loN F E i = F * (1000 + E) * (F - 1) * i := rfl
  have b1 : F * E ≤ 4096 * 1000 := Nat.mul_le_mul h2 h4
  have mulw : ∀ (a b c d : Nat), a ≤ c → b ≤ d → c * d < 18446744073709551616 → IntKind.u64.wrap ((a : Int) * (b : Int)) = ((a * b : Nat) : Int) := fun a b c d ha hb hcd => w64_nat (by push_cast; rfl) (Nat.lt_of_le_of_lt (Nat.mul_le_mul ha hb) hcd)
  obtain ⟨f, hf⟩ : ∃ f, f = F - 1 := ⟨_, rfl⟩
  rw [← hf] at ehi elo
  obtain ⟨z, hz⟩ : ∃ z, z = F * E - 1000 := ⟨_, rfl⟩
  rw [← hz] at ehi
  have b2 : z * f ≤ 4096000 * 4096 := Nat.mul_le_mul (by omega) (by omega)
  have b3 : 1000 * (F + 1) ≤ 4097000 := by omega
  have b4 : 1000 * (F + 1) * F ≤ 4097000 * 4096 := Nat.mul_le_mul b3 h2
  have b5 : F * (1000 + E) ≤ 4096 * 2000 := Nat.mul_le_mul h2 (by omega)
  have b6 : F * (1000 + E) * f ≤ 8192000 * 4096 := Nat.mul_le_mul b5 (by omega)
  refine ⟨F * E, z, f, z * f, z * f * i, F + 1, 1000 * (F + 1), 1000 * (F + 1) * F, 1000 * (F + 1) * F * k, 1000 + E, F * (1000 + E), F * (1000 + E) * f, ?_, ?_, ?_, ?_, ?_, ?_, ?_, ?_, ?_, ?_, ?_, ?_, ?_, ?_, ?_⟩
  · exact mulw _ _ _ _ h2 h4 (by decide)
  · exact w64_nat (by omega) (by omega)
  · exact w64_nat (by omega) (by omega)
  · exact mulw _ _ 4096000 4096 (by omega) (by omega) (by decide)
  · exact mulw _ _ _ 4096 b2 (by omega) (by decide)
  · exact w64_nat (by omega) (by omega)
  · exact w64_nat (by omega) (by omega)
  · exact mulw _ _ _ _ b3 h2 (by decide)
  · exact w64_nat (by omega) (by omega)
  · exact mulw _ _ _ 4096 b4 (by omega) (by decide)
  · exact w64_nat (by rw [ehi, Int.natCast_add]) (by omega)
  · exact w64_nat (by omega) (by omega)
  · exact mulw _ _ 4096 2000 h2 (by omega) (by decide)
  · exact mulw _ _ _ 4096 b5 (by omega) (by decide)
  · rw [elo]; exact mulw _ _ _ 4096 b6 (by omega) (by decide)

set_option maxHeartbeats 1000000 in
theorem refbel_calls (N B Q : Int) (k : Nat) (w : World) (hk : k + 1 < F) :
    Calls Try.prog 105 #[pV N B Q (E : Int) (F : Int), .int .i64 ((k + 1 : Nat) : Int)] w fun e w' => e = .returned (.int .u64 (bel F E (k + 1) : Int)) ∧ Below w.heap.size w w' := by
  refine cps fun R hR => ?_
  obtain ⟨i, hi⟩ : ∃ i, i = k + 1 := ⟨_, rfl⟩
  rw [← hi] at hR ⊢
  obtain ⟨P, z, f, zf, q1, g1, g2, g3, q2, e1, e2, e3, f1, f2, f3, f4, f5, f6, f7, f8, f9, f10, f11, f12, f13, f14, f15⟩ := facs m hi hk
  have h1 := m.f4
  have h2 := m.e2
  have c1 : IntKind.u64.wrap (F : Int) = (F : Int) := w64_nat rfl (by omega)
  have c2 : IntKind.u64.wrap (E : Int) = (E : Int) := w64_nat rfl (by omega)
  have c3 : IntKind.u64.wrap (i : Int) = (i : Int) := w64_nat rfl (by omega)
  have hlt := hi_lt m (show 1 ≤ i by omega) (show i < F by omega)
  have hlb := lo_bd m (show i ≤ 4096 by omega)
  have hbel : Hid (bel F E i = shareN (hiN F E i) (loN F E i)) := hide rfl
  generalize bel F E i = b at hR hbel
  generalize hiN F E i = hi' at *
  generalize loN F E i = lo' at *
  obtain ⟨W, hW, hb, hs, d0, d1, d2, d3, d4⟩ := box5 w N B Q E F 23
  have HW := hide hW
  have Hsh := hide (share_calls hi' lo' W hlt (by omega))
  have Hb := hide hb
  clear hlt hlb h1 h2 hi hk hb hs hW
  go_enter Try.func105, Try.ntmps105
  go_upto_region 1 with fail
  rw [← HW.out]
  go_wp2_with fail
  refine Hsh.out.mono ?_
  rintro e w1 ⟨rfl, rfl⟩
  go_wp2_with fail
  exact hR.out _ _ ⟨by rw [hbel.out]; rfl, Hb.out⟩
end
end Go.Proofs.Ytfkofhdgokhodaa
