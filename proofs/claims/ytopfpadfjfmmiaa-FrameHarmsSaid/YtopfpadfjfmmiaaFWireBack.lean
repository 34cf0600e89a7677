/- WireBack, walked. -/
import Derived.Test.YtopfpadfjfmmiaaFWireReads
import Derived.Test.YtopfpadfjfmmiaaAppS
set_option linter.unusedVariables false
set_option linter.unusedSimpArgs false
namespace Go.Proofs.Ytopfpadfjfmmiaa
open Go.RowKit

theorem getN_put (n : Nat) : ∀ (k a : Nat), (putL n k).foldl (fun n x => (n * 256 + x.toNat) % 18446744073709551616) a % 18446744073709551616 = (a * 256 ^ k + n % 256 ^ k) % 18446744073709551616 := by
  intro k
  induction k with
  | zero => intro a; simp [putL, Nat.mod_one]
  | succ k ih =>
    intro a
    rw [putL, List.foldl_cons, ih]
    have e : (UInt8.ofNat (n / 256 ^ k)).toNat = n / 256 ^ k % 256 := by rw [UInt8.toNat_ofNat']
    rw [e, Nat.pow_succ, Nat.mod_mul, Nat.add_mod, Nat.mul_mod, Nat.mod_mod, ← Nat.mul_mod, ← Nat.add_mod]
    congr 1
    rw [Nat.add_mul, Nat.mul_assoc, Nat.mul_comm 256 (256 ^ k), Nat.mul_comm (n / 256 ^ k % 256)]
    omega
theorem getN_putL {n k : Nat} (h : n < 256 ^ k) (h64 : n < 18446744073709551616) : getN (putL n k) = n := by
  have h1 := getN_put n k 0
  have h2 := getN_lt (putL n k)
  unfold getN at h2 ⊢
  rw [Nat.mod_eq_of_lt h2, Nat.zero_mul, Nat.zero_add, Nat.mod_eq_of_lt h, Nat.mod_eq_of_lt h64] at h1
  exact h1

theorem take_put {n m : Nat} {rest : List UInt8} : (putL n m ++ rest).take m = putL n m ∧ (putL n m ++ rest).drop m = rest := by
  have h := putL_len n m
  constructor
  · rw [List.take_append_of_le_length (by omega), List.take_of_length_le (by omega)]
  · rw [List.drop_append_of_le_length (by omega), List.drop_eq_nil_of_le (by omega), List.nil_append]
theorem fitsN_iff {n : Nat} {s : Int} (h : fitsN n s = true) : 1 ≤ s ∧ s ≤ 8 ∧ n < 256 ^ s.toNat := by
  unfold fitsN at h
  simp only [Bool.and_eq_true, decide_eq_true_eq] at h
  exact ⟨h.1.1, h.1.2, h.2⟩

theorem i64_wf {n : Int} (h1 : -9223372036854775808 ≤ n) (h2 : n ≤ 9223372036854775807) : (Lit.int .i64 n).wf = true := by
  simp [Lit.wf, IntKind.min, IntKind.max, IntKind.bits, IntKind.signed]
  omega
end Go.Proofs.Ytopfpadfjfmmiaa
