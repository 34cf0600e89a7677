/- math/bits.Div64 of a number times 2^64, walked. -/
import Derived.Test.YtfkofhdgokhodaaDiv0
import Derived.Test.YtfkofhdgokhodaaU
import Derived.Deep.Cut
import Derived.Deep.CutRange
set_option linter.unusedVariables false
set_option linter.unusedSimpArgs false
namespace Go.Proofs.Ytfkofhdgokhodaa
open Go.RowKit

/-- The head of a block: where the walk is stopped. -/
theorem isBlock {P : Program} {n : Nat} {s : Code} {Q : Exit → Act → World → Prop} {a : Act} {w : World} (h : (Code.block n s).wp P Q a w) : (Code.block n s).wp P Q a w := h
def shareN (n y : Nat) : Nat := n * 18446744073709551616 / y
theorem u64_low (x : Nat) (h : x < 2 ^ 64) : bits .and .u64 (x : Int) 4294967295 = ((x % 4294967296 : Nat) : Int) := by
  have := bits_mask .u64 64 (by decide) (fun n h0 h1 => by rw [show IntKind.u64.wrap n = n % 18446744073709551616 by simp [IntKind.wrap, IntKind.bits, IntKind.signed]]; omega) 32 (by decide) (x : Int) (by omega) (by exact_mod_cast h)
  rw [show ((2 : Int) ^ 32 - 1) = 4294967295 by decide] at this
  rw [this]; simp
theorem u64_or0 (x : Nat) (h : x < 2 ^ 64) : bits .or .u64 (x : Int) 0 = (x : Int) := by
  show IntKind.u64.wrap ((BitVec.ofInt 64 (x : Int) ||| BitVec.ofInt 64 0).toNat : Int) = _
  have e : BitVec.ofInt 64 (x : Int) ||| BitVec.ofInt 64 0 = BitVec.ofNat 64 x := by
    rw [ofInt_nat]; simp
  rw [e, BitVec.toNat_ofNat, Nat.mod_eq_of_lt h]
  simp only [IntKind.wrap, IntKind.bits, IntKind.signed]
  simp
  omega
theorem w64 (n : Int) : IntKind.u64.wrap n = n % 18446744073709551616 := by simp [IntKind.wrap, IntKind.bits, IntKind.signed]
theorem w64_nat {n : Int} {m : Nat} (e : n = (m : Int)) (h : m < 2 ^ 64) : IntKind.u64.wrap n = (m : Int) := by rw [w64, e]; omega
set_option maxRecDepth 100000 in
set_option maxHeartbeats 1000000 in
theorem div_calls (hi y : Nat) (w : World) (h0 : 0 < hi) (h : hi < y) (hy : y < 2 ^ 64) :
    Calls Try.prog 66 #[.int .u64 (hi : Int), .int .u64 0, .int .u64 (y : Int)] w fun e w' => ∃ r : Int, e = .returned (.tuple #[.int .u64 (shareN hi y : Int), .int .u64 r]) ∧ w = w' := by
  refine cps fun R hR => ?_
  obtain ⟨b1, b2, b3, b4⟩ := bitLen_bd 64 y hy (by omega) (by omega)
  obtain ⟨s, hs⟩ : ∃ s, s = 64 - Lib.bitLen y := ⟨_, rfl⟩
  have hlz := hide (show Calls Try.prog 95 #[.int .u64 (y : Int)] w fun e w' => e = .returned (.int .i64 (s : Int)) ∧ w = w' from
    (Try.bits_LeadingZeros64 (y : Int) w (by omega) (by omega)).mono fun e w' ⟨e1, e2⟩ => ⟨by rw [e1, Int.toNat_natCast, hs]; congr 2; omega, e2.symm⟩)
  have hs63 : s ≤ 63 := by omega
  have t1 : ((y : Int) == 0) = false := by rw [beq_eq_false_iff_ne]; omega
  have t2 : decide (y ≤ hi) = false := by simp; omega
  have t3 : ((hi : Int) == 0) = false := by rw [beq_eq_false_iff_ne]; omega
  obtain ⟨Y, hY⟩ : ∃ Y, Y = y * 2 ^ s := ⟨_, rfl⟩
  obtain ⟨U, hU⟩ : ∃ U, U = hi * 2 ^ s := ⟨_, rfl⟩
  have hp : 2 ^ Lib.bitLen y * 2 ^ s = 2 ^ 64 := by rw [← Nat.pow_add]; congr 1; omega
  have hp' : 2 ^ (Lib.bitLen y - 1) * 2 ^ s = 2 ^ 63 := by rw [← Nat.pow_add]; congr 1; omega
  have hY1 : Y < 2 ^ 64 := by rw [hY, ← hp]; exact Nat.mul_lt_mul_of_pos_right b2 (Nat.two_pow_pos s)
  have hY2 : 2 ^ 63 ≤ Y := by rw [hY, ← hp']; exact Nat.mul_le_mul_right _ b1
  have hUY : U < Y := by rw [hY, hU]; exact Nat.mul_lt_mul_of_pos_right h (Nat.two_pow_pos s)
  have hfin := hide (show shareN hi y = (U * 4294967296 / Y) * 4294967296 + (U * 4294967296 % Y) * 4294967296 / Y by
    rw [← two_digits U Y (by omega), hU, hY]; exact (shift_out hi y s).symm)
  obtain ⟨Q1, hQe⟩ : ∃ Q1, Q1 = U * 4294967296 / Y := ⟨_, rfl⟩
  obtain ⟨V, hVe⟩ : ∃ V, V = U * 4294967296 % Y := ⟨_, rfl⟩
  rw [← hQe, ← hVe] at hfin
  have hV : Hid (Q1 * Y + V = U * 4294967296) := hide (by rw [hQe, hVe, Nat.mul_comm (U * 4294967296 / Y)]; exact Nat.div_add_mod _ _)
  have hVl : Hid (V < Y) := hide (by rw [hVe]; exact Nat.mod_lt _ (by omega))
  have hQ1 : Hid (Q1 < 4294967296) := hide (by rw [hQe]; exact dig_lt (by omega) hUY)
  have HQe := hide hQe
  obtain ⟨Q0, hQ0e⟩ : ∃ Q0, Q0 = V * 4294967296 / Y := ⟨_, rfl⟩
  rw [← hQ0e] at hfin
  have hQ0 : Hid (Q0 < 4294967296) := hide (by rw [hQ0e]; exact dig_lt (by omega) hVl.out)
  have HQ0e := hide hQ0e
  clear hQe hVe hQ0e
  obtain ⟨a, ha⟩ : ∃ a, a = Y / 4294967296 := ⟨_, rfl⟩
  obtain ⟨b, hb⟩ : ∃ b, b = Y % 4294967296 := ⟨_, rfl⟩
  have hab : Y = a * 4294967296 + b := by rw [ha, hb]; omega
  have ha1 : 2147483648 ≤ a := by omega
  have ha2 : a < 4294967296 := by omega
  have hb1 : b < 4294967296 := by omega
  have e1 : IntKind.u64.wrap ((y : Int) * 2 ^ s) = (Y : Int) := w64_nat (by rw [hY]; push_cast; rfl) hY1
  have e2 : IntKind.u64.wrap ((hi : Int) * 2 ^ s) = (U : Int) := w64_nat (by rw [hU]; push_cast; rfl) (by omega)
  have e3 : (Y : Int) / 4294967296 = (a : Int) := by omega
  have e4 : bits .and .u64 (Y : Int) 4294967295 = (b : Int) := by rw [u64_low Y hY1, hb]
  have e5 : bits .or .u64 (U : Int) 0 = (U : Int) := u64_or0 U (by omega)
  have e6 : bits .and .u64 0 4294967295 = 0 := by decide
  have HS := hide hs
  have HY := hide hY
  have Hab := hide hab
  clear hs hY hU ha hb hab hp hp' b1 b2 b3 b4
  go_enter Try.func66, Try.ntmps66
  go_wp2_with fail
  refine hlz.out.mono ?_
  rintro e w1 ⟨rfl, rfl⟩
  go_upto_region 15 with fail
  have Hest : Hid (Est U Y a (U / a) (U % a) ∧ U / a ≤ 4294967297) := hide (est_first Hab.out ha1 hb1 hUY)
  have hUe : U / a * a + U % a = U := Hest.out.1.eq
  have hUl : U % a < a := Nat.mod_lt _ (by omega)
  have f1 : (U : Int) / (a : Int) = ((U / a : Nat) : Int) := rfl
  have f0 : ((a : Int) == 0) = false := by rw [beq_eq_false_iff_ne]; omega
  generalize U / a = q at *
  generalize U % a = r at *
  have hqa : q * a ≤ U := by generalize q * a = z at *; omega
  have f2 : IntKind.u64.wrap ((q : Int) * (a : Int)) = ((q * a : Nat) : Int) := w64_nat (by push_cast; rfl) (by generalize q * a = z at *; omega)
  have f3 : IntKind.u64.wrap ((U : Int) - (q : Int) * (a : Int)) = (r : Int) := w64_nat (by rw [← Int.natCast_mul]; generalize q * a = z at *; omega) (by omega)
  have f4 : IntKind.u64.wrap (q : Int) = (q : Int) := w64_nat rfl (by have := Hest.out.2; omega)
  have Hq : Hid (Est U Y a q r ∧ q ≤ 4294967297 ∧ r < 4294967296) := hide ⟨Hest.out.1, Hest.out.2, by omega⟩
  clear Hest
  go_upto_region 16 with fail
  clear hUe hUl hqa f1 f0
  repeat ((fail_if_success (with_reducible refine isBlock ?_)); first | go_values | go_skip | go_guarded | go_step | go_upon | go_back | (simp only [Int.not_lt, Int.not_le] at *; go_simp) | (go_values <;> (try go_simp)))
  clear f2 f3 f4
  go_cut [15, 16] from 67 to 85 (fun s15 s16 wx => wx = w ∧ (∃ z : Int, s16 = .int .u64 z) ∧ s15 = .int .u64 (Q1 : Int))
  case first =>
    go_wp2_with fail
    go_loop [15, 16] (fun s15 s16 => ∃ q r : Nat, s15 = .int .u64 (q : Int) ∧ s16 = .int .u64 (r : Int) ∧ Est U Y a q r ∧ q ≤ 4294967297 ∧ r < 4294967296) (fun i _ => (intOf i).toNat)
    case atStart => exact ⟨q, r, rfl, rfl, Hq.out⟩
    case round =>
      obtain ⟨q1, r1, rfl, rfl, he, hq, hr⟩ := hrel
      by_cases h1 : 4294967296 ≤ q1
      · obtain ⟨hp, hn⟩ := est_next he Hab.out hUY (Or.inl h1)
        have f1 : IntKind.u64.wrap ((q1 : Int) - 1) = ((q1 - 1 : Nat) : Int) := w64_nat (by omega) (by omega)
        have f2 : IntKind.u64.wrap ((r1 : Int) + (a : Int)) = ((r1 + a : Nat) : Int) := w64_nat (by push_cast; rfl) (by omega)
        have f3 : decide ((4294967296 : Int) ≤ (q1 : Int)) = true := by simp; omega
        obtain ⟨q2, hq2⟩ : ∃ q2, q2 = q1 - 1 := ⟨_, rfl⟩
        obtain ⟨r2, hr2⟩ : ∃ r2, r2 = r1 + a := ⟨_, rfl⟩
        rw [← hq2] at f1 hn
        rw [← hr2] at f2 hn
        have Hn := hide (show Est U Y a q2 r2 ∧ q2 ≤ 4294967296 ∧ q2 < q1 from ⟨hn, by omega, by omega⟩)
        clear he hq hr h1 hp hn hq2 hr2
        by_cases h2 : 4294967296 ≤ r2
        · have f4 : decide ((4294967296 : Int) ≤ (r2 : Int)) = true := by simp; omega
          have H2 := hide h2
          clear h2
          go_wp2_with fail
          go_meet
          exact ⟨rfl, ⟨_, rfl⟩, by rw [HQe.out, ← est_far Hn.out.1 Hab.out (by omega) hb1 Hn.out.2.1 H2.out]⟩
        · have f4 : decide ((4294967296 : Int) ≤ (r2 : Int)) = false := by simp; omega
          have H2 := hide h2
          clear h2
          go_wp2_with fail
          exact ⟨⟨q2, r2, rfl, rfl, Hn.out.1, by have := Hn.out.2.1; omega, by have := H2.out; omega⟩, by have := Hn.out.2.2; simp only [intOf]; omega⟩
      · have f3 : decide ((4294967296 : Int) ≤ (q1 : Int)) = false := by simp; omega
        have hqb : q1 * b < 18446744073709551616 := Nat.lt_of_le_of_lt (Nat.mul_le_mul (show q1 ≤ 4294967295 by omega) (show b ≤ 4294967295 by omega)) (by decide)
        obtain ⟨m1, hm1⟩ : ∃ m1, m1 = q1 * b := ⟨_, rfl⟩
        obtain ⟨m2, hm2⟩ : ∃ m2, m2 = 4294967296 * r1 := ⟨_, rfl⟩
        have f5 : IntKind.u64.wrap ((q1 : Int) * (b : Int)) = (m1 : Int) := w64_nat (by rw [hm1]; push_cast; rfl) (by omega)
        have f6 : IntKind.u64.wrap (4294967296 * (r1 : Int)) = (m2 : Int) := w64_nat (by omega) (by omega)
        have f7 : IntKind.u64.wrap (m2 : Int) = (m2 : Int) := w64_nat rfl (by omega)
        by_cases hm : m2 < m1
        · have f8 : decide (m2 < m1) = true := by simp; omega
          have f9 : decide ((m2 : Int) < (m1 : Int)) = true := by simp; omega
          obtain ⟨hp, hn⟩ := est_next he Hab.out hUY (Or.inr (by rw [← hm1, ← hm2]; exact hm))
          have f1 : IntKind.u64.wrap ((q1 : Int) - 1) = ((q1 - 1 : Nat) : Int) := w64_nat (by omega) (by omega)
          have f2 : IntKind.u64.wrap ((r1 : Int) + (a : Int)) = ((r1 + a : Nat) : Int) := w64_nat (by push_cast; rfl) (by omega)
          obtain ⟨q2, hq2⟩ : ∃ q2, q2 = q1 - 1 := ⟨_, rfl⟩
          obtain ⟨r2, hr2⟩ : ∃ r2, r2 = r1 + a := ⟨_, rfl⟩
          rw [← hq2] at f1 hn
          rw [← hr2] at f2 hn
          have Hn := hide (show Est U Y a q2 r2 ∧ q2 ≤ 4294967296 ∧ q2 < q1 from ⟨hn, by omega, by omega⟩)
          clear he hq hr h1 hp hn hq2 hr2 hm1 hm2 hqb hm
          by_cases h2 : 4294967296 ≤ r2
          · have f4 : decide ((4294967296 : Int) ≤ (r2 : Int)) = true := by simp; omega
            have H2 := hide h2
            clear h2
            go_wp2_with fail
            go_meet
            exact ⟨rfl, ⟨_, rfl⟩, by rw [HQe.out, ← est_far Hn.out.1 Hab.out (by omega) hb1 Hn.out.2.1 H2.out]⟩
          · have f4 : decide ((4294967296 : Int) ≤ (r2 : Int)) = false := by simp; omega
            have H2 := hide h2
            clear h2
            go_wp2_with fail
            exact ⟨⟨q2, r2, rfl, rfl, Hn.out.1, by have := Hn.out.2.1; omega, by have := H2.out; omega⟩, by have := Hn.out.2.2; simp only [intOf]; omega⟩
        · have f8 : decide (m2 < m1) = false := by simp; omega
          have f9 : decide ((m2 : Int) < (m1 : Int)) = false := by simp; omega
          have Hq1 := hide (est_done he Hab.out (by omega) (by rw [← hm1, ← hm2]; omega))
          clear he hq hr h1 hm1 hm2 hqb hm
          go_wp2_with fail
          go_meet
          exact ⟨rfl, ⟨_, rfl⟩, by rw [HQe.out, ← Hq1.out]⟩
  case rest =>
  obtain ⟨rfl, ⟨z1, rfl⟩, rfl⟩ := hcut
  clear Hq
  obtain ⟨A, hA⟩ : ∃ A : Nat, A = U * 4294967296 % 18446744073709551616 := ⟨_, rfl⟩
  obtain ⟨B, hB⟩ : ∃ B : Nat, B = Q1 * Y % 18446744073709551616 := ⟨_, rfl⟩
  have g1 : IntKind.u64.wrap ((U : Int) * 4294967296) = (A : Int) := by rw [w64]; omega
  have g2 : IntKind.u64.wrap (A : Int) = (A : Int) := w64_nat rfl (by omega)
  have g3 : IntKind.u64.wrap ((Q1 : Int) * (Y : Int)) = (B : Int) := by
    rw [w64, ← Int.natCast_mul]
    generalize Q1 * Y = z at *
    omega
  have g4 : IntKind.u64.wrap ((A : Int) - (B : Int)) = (V : Int) := by
    have := hV.out
    have := hVl.out
    rw [w64, hA, hB]
    generalize Q1 * Y = z at *
    omega
  clear hA hB
  have Hest : Hid (Est V Y a (V / a) (V % a) ∧ V / a ≤ 4294967297) := hide (est_first Hab.out ha1 hb1 hVl.out)
  have hVY : V < Y := hVl.out
  have hUe : V / a * a + V % a = V := Hest.out.1.eq
  have hUl : V % a < a := Nat.mod_lt _ (by omega)
  have f1 : (V : Int) / (a : Int) = ((V / a : Nat) : Int) := rfl
  have f0 : ((a : Int) == 0) = false := by rw [beq_eq_false_iff_ne]; omega
  generalize V / a = q at *
  generalize V % a = r at *
  have hqa : q * a ≤ V := by generalize q * a = z at *; omega
  have f2 : IntKind.u64.wrap ((q : Int) * (a : Int)) = ((q * a : Nat) : Int) := w64_nat (by push_cast; rfl) (by generalize q * a = z at *; omega)
  have f3 : IntKind.u64.wrap ((V : Int) - (q : Int) * (a : Int)) = (r : Int) := w64_nat (by rw [← Int.natCast_mul]; generalize q * a = z at *; omega) (by omega)
  have f4 : IntKind.u64.wrap (q : Int) = (q : Int) := w64_nat rfl (by have := Hest.out.2; omega)
  have Hq : Hid (Est V Y a q r ∧ q ≤ 4294967297 ∧ r < 4294967296) := hide ⟨Hest.out.1, Hest.out.2, by omega⟩
  clear Hest
  go_upto_region 23 with fail
  clear hUe hUl hqa f1 f0 g1 g2 g3 g4 hVY
  repeat ((fail_if_success (with_reducible refine isBlock ?_)); first | go_values | go_skip | go_guarded | go_step | go_upon | go_back | (simp only [Int.not_lt, Int.not_le] at *; go_simp) | (go_values <;> (try go_simp)))
  clear f2 f3 f4
  go_cut [18, 16] from 102 to 120 (fun s15 s16 wx => wx = wc ∧ (∃ z : Int, s16 = .int .u64 z) ∧ s15 = .int .u64 (Q0 : Int))
  case first =>
    go_wp2_with fail
    go_loop [18, 16] (fun s15 s16 => ∃ q r : Nat, s15 = .int .u64 (q : Int) ∧ s16 = .int .u64 (r : Int) ∧ Est V Y a q r ∧ q ≤ 4294967297 ∧ r < 4294967296) (fun i _ => (intOf i).toNat)
    case atStart => exact ⟨q, r, rfl, rfl, Hq.out⟩
    case round =>
      obtain ⟨q1, r1, rfl, rfl, he, hq, hr⟩ := hrel
      by_cases h1 : 4294967296 ≤ q1
      · obtain ⟨hp, hn⟩ := est_next he Hab.out hVl.out (Or.inl h1)
        have f1 : IntKind.u64.wrap ((q1 : Int) - 1) = ((q1 - 1 : Nat) : Int) := w64_nat (by omega) (by omega)
        have f2 : IntKind.u64.wrap ((r1 : Int) + (a : Int)) = ((r1 + a : Nat) : Int) := w64_nat (by push_cast; rfl) (by omega)
        have f3 : decide ((4294967296 : Int) ≤ (q1 : Int)) = true := by simp; omega
        obtain ⟨q2, hq2⟩ : ∃ q2, q2 = q1 - 1 := ⟨_, rfl⟩
        obtain ⟨r2, hr2⟩ : ∃ r2, r2 = r1 + a := ⟨_, rfl⟩
        rw [← hq2] at f1 hn
        rw [← hr2] at f2 hn
        have Hn := hide (show Est V Y a q2 r2 ∧ q2 ≤ 4294967296 ∧ q2 < q1 from ⟨hn, by omega, by omega⟩)
        clear he hq hr h1 hp hn hq2 hr2
        by_cases h2 : 4294967296 ≤ r2
        · have f4 : decide ((4294967296 : Int) ≤ (r2 : Int)) = true := by simp; omega
          have H2 := hide h2
          clear h2
          go_wp2_with fail
          go_meet
          exact ⟨rfl, ⟨_, rfl⟩, by rw [HQ0e.out, ← est_far Hn.out.1 Hab.out (by omega) hb1 Hn.out.2.1 H2.out]⟩
        · have f4 : decide ((4294967296 : Int) ≤ (r2 : Int)) = false := by simp; omega
          have H2 := hide h2
          clear h2
          go_wp2_with fail
          exact ⟨⟨q2, r2, rfl, rfl, Hn.out.1, by have := Hn.out.2.1; omega, by have := H2.out; omega⟩, by have := Hn.out.2.2; simp only [intOf]; omega⟩
      · have f3 : decide ((4294967296 : Int) ≤ (q1 : Int)) = false := by simp; omega
        have hqb : q1 * b < 18446744073709551616 := Nat.lt_of_le_of_lt (Nat.mul_le_mul (show q1 ≤ 4294967295 by omega) (show b ≤ 4294967295 by omega)) (by decide)
        obtain ⟨m1, hm1⟩ : ∃ m1, m1 = q1 * b := ⟨_, rfl⟩
        obtain ⟨m2, hm2⟩ : ∃ m2, m2 = 4294967296 * r1 := ⟨_, rfl⟩
        have f5 : IntKind.u64.wrap ((q1 : Int) * (b : Int)) = (m1 : Int) := w64_nat (by rw [hm1]; push_cast; rfl) (by omega)
        have f6 : IntKind.u64.wrap (4294967296 * (r1 : Int)) = (m2 : Int) := w64_nat (by omega) (by omega)
        have f7 : IntKind.u64.wrap (m2 : Int) = (m2 : Int) := w64_nat rfl (by omega)
        by_cases hm : m2 < m1
        · have f8 : decide (m2 < m1) = true := by simp; omega
          have f9 : decide ((m2 : Int) < (m1 : Int)) = true := by simp; omega
          obtain ⟨hp, hn⟩ := est_next he Hab.out hVl.out (Or.inr (by rw [← hm1, ← hm2]; exact hm))
          have f1 : IntKind.u64.wrap ((q1 : Int) - 1) = ((q1 - 1 : Nat) : Int) := w64_nat (by omega) (by omega)
          have f2 : IntKind.u64.wrap ((r1 : Int) + (a : Int)) = ((r1 + a : Nat) : Int) := w64_nat (by push_cast; rfl) (by omega)
          obtain ⟨q2, hq2⟩ : ∃ q2, q2 = q1 - 1 := ⟨_, rfl⟩
          obtain ⟨r2, hr2⟩ : ∃ r2, r2 = r1 + a := ⟨_, rfl⟩
          rw [← hq2] at f1 hn
          rw [← hr2] at f2 hn
          have Hn := hide (show Est V Y a q2 r2 ∧ q2 ≤ 4294967296 ∧ q2 < q1 from ⟨hn, by omega, by omega⟩)
          clear he hq hr h1 hp hn hq2 hr2 hm1 hm2 hqb hm
          by_cases h2 : 4294967296 ≤ r2
          · have f4 : decide ((4294967296 : Int) ≤ (r2 : Int)) = true := by simp; omega
            have H2 := hide h2
            clear h2
            go_wp2_with fail
            go_meet
            exact ⟨rfl, ⟨_, rfl⟩, by rw [HQ0e.out, ← est_far Hn.out.1 Hab.out (by omega) hb1 Hn.out.2.1 H2.out]⟩
          · have f4 : decide ((4294967296 : Int) ≤ (r2 : Int)) = false := by simp; omega
            have H2 := hide h2
            clear h2
            go_wp2_with fail
            exact ⟨⟨q2, r2, rfl, rfl, Hn.out.1, by have := Hn.out.2.1; omega, by have := H2.out; omega⟩, by have := Hn.out.2.2; simp only [intOf]; omega⟩
        · have f8 : decide (m2 < m1) = false := by simp; omega
          have f9 : decide ((m2 : Int) < (m1 : Int)) = false := by simp; omega
          have Hq1 := hide (est_done he Hab.out (by omega) (by rw [← hm1, ← hm2]; omega))
          clear he hq hr h1 hm1 hm2 hqb hm
          go_wp2_with fail
          go_meet
          exact ⟨rfl, ⟨_, rfl⟩, by rw [HQ0e.out, ← Hq1.out]⟩
  case rest =>
  obtain ⟨rfl, ⟨z2, rfl⟩, rfl⟩ := hcut
  obtain ⟨M, hM⟩ : ∃ M : Nat, M = Q1 * 4294967296 := ⟨_, rfl⟩
  have hM1 : M + Q0 < 18446744073709551616 := by have := hQ1.out; have := hQ0.out; omega
  have g1 : IntKind.u64.wrap ((Q1 : Int) * 4294967296) = (M : Int) := w64_nat (by omega) (by omega)
  have g2 : IntKind.u64.wrap ((M : Int) + (Q0 : Int)) = (shareN hi y : Int) := w64_nat (by rw [hfin.out, ← hM]; push_cast; rfl) (by rw [hfin.out, ← hM]; exact hM1)
  clear hM hM1
  go_wp2_with fail
  exact hR.out _ _ ⟨_, rfl, rfl⟩
end Go.Proofs.Ytfkofhdgokhodaa
