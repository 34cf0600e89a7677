/- Bits that are turned: words. -/
import Derived.Test.YtehkdionodnhjaaCrcMath
set_option linter.unusedVariables false
set_option linter.unusedSimpArgs false
namespace Go.Proofs.Ytehkdionodnhjaa
open Go.RowKit

theorem and32 (a b : UInt32) : bits .and .u32 (a.toNat : Int) (b.toNat : Int) = ((a &&& b).toNat : Int) := by
  have ha := a.toNat_lt
  have hb := b.toNat_lt
  have h := (a &&& b).toNat_lt
  show IntKind.u32.wrap ((BitVec.ofInt 32 (a.toNat : Int) &&& BitVec.ofInt 32 (b.toNat : Int)).toNat : Int) = _
  rw [ofInt_nat, ofInt_nat, BitVec.toNat_and, BitVec.toNat_ofNat, BitVec.toNat_ofNat, Nat.mod_eq_of_lt ha, Nat.mod_eq_of_lt hb, UInt32.toNat_and]
  rw [UInt32.toNat_and] at h
  simp only [IntKind.wrap, IntKind.bits, IntKind.signed]
  simp
  omega
theorem bit_raw (m : UInt32) (j : Nat) : (bits .and .u32 ((m.toNat : Int) / (2 : Int) ^ j) 1 == 1) = m.toNat.testBit j := by
  have hm := m.toNat_lt
  have e : ((m.toNat : Int) / (2 : Int) ^ j) = ((UInt32.ofNat (m.toNat / 2 ^ j)).toNat : Int) := by
    rw [UInt32.toNat_ofNat', Nat.mod_eq_of_lt (Nat.lt_of_le_of_lt (Nat.div_le_self _ _) hm)]
    simp
  rw [e]
  have h := and32 (UInt32.ofNat (m.toNat / 2 ^ j)) 1
  rw [show ((1 : UInt32).toNat : Int) = 1 from rfl] at h
  rw [h, UInt32.toNat_and, UInt32.toNat_ofNat', Nat.mod_eq_of_lt (Nat.lt_of_le_of_lt (Nat.div_le_self _ _) hm), show (1 : UInt32).toNat = 1 from rfl, Nat.and_one_is_mod, Nat.testBit_eq_decide_div_mod_eq]
  rw [Bool.eq_iff_iff, beq_iff_eq, decide_eq_true_eq]
  omega
theorem shr_128 (r : Nat) (hr : r < 8) : ((128 : Int) / (2 : Int) ^ r) = ((128 >>> UInt8.ofNat r : UInt8).toNat : Int) := by
  have h : ∀ k : Fin 8, ((128 : Int) / (2 : Int) ^ k.1) = ((128 >>> UInt8.ofNat k.1 : UInt8).toNat : Int) := by decide
  exact h ⟨r, hr⟩
theorem quo8 (k : Nat) : ((k : Int)).tdiv 8 = ((k / 8 : Nat) : Int) ∧ ((k : Int)).tmod 8 = ((k % 8 : Nat) : Int) := by
  constructor
  · rw [Int.tdiv_eq_ediv_of_nonneg (by omega)]; simp
  · rw [Int.tmod_eq_emod_of_nonneg (by omega)]; simp
theorem burst_succ_no {mask : UInt32} {first i : Nat} {xs : List UInt8} (h : (mask.toNat.testBit i && decide (first + i < 8 * xs.length)) = false) : burst mask first (i + 1) xs = burst mask first i xs := by
  rw [burst, h]; rfl
theorem burst_succ_yes {mask : UInt32} {first i : Nat} {xs : List UInt8} (h : (mask.toNat.testBit i && decide (first + i < 8 * xs.length)) = true) : burst mask first (i + 1) xs = (burst mask first i xs).set ((first + i) / 8) ((burst mask first i xs).getD ((first + i) / 8) 0 ^^^ (128 >>> UInt8.ofNat ((first + i) % 8))) := by
  rw [burst, h]; rfl

end Go.Proofs.Ytehkdionodnhjaa
