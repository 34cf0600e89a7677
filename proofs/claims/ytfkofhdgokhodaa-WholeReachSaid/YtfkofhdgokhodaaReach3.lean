/- A check block of two: which blocks it has. -/
import Derived.Test.YtfkofhdgokhodaaReach2
import Derived.Test.YtfkofhdgokhodaaSome0
set_option linter.unusedVariables false
set_option linter.unusedSimpArgs false
namespace Go.Proofs.Ytfkofhdgokhodaa
open Go.RowKit

theorem seed_nat (se i : Nat) (h1 : se < 18446744073709551616) (h2 : i < 18446744073709551616) : (seedF [UInt64.ofNat se, 2, UInt64.ofNat i]).toNat = seed3N se i := by
  have e1 : (UInt64.ofNat se).toNat = se := UInt64.toNat_ofNat_of_lt' (by simpa using h1)
  have e2 : (UInt64.ofNat i).toNat = i := UInt64.toNat_ofNat_of_lt' (by simpa using h2)
  unfold seedF seed3N
  simp only [List.foldl_cons, List.foldl_nil, mix_nat, UInt64.toNat_xor, step_nat, e1, e2]
  rfl
/-- A draw that isn't drawn again. -/
theorem draw_once (few : Nat) (s : UInt64) (h : ¬ (mix64 (s + stepC)).toNat < few) : drawF few s = (s + stepC, mix64 (s + stepC)) := by
  unfold drawF
  exact contF_end few 1 (s + stepC) (mix64 (s + stepC)) (by omega) h
theorem few_small {m : Nat} (h1 : 1 ≤ m) (h2 : m ≤ 100) : fewF m < 100 := by
  unfold fewF
  have := Nat.mod_lt 18446744073709551616 (show 0 < m by omega)
  omega
theorem below_once {s : UInt64} {m : Nat} (h1 : 1 ≤ m) (h2 : m ≤ 100) (h : 100 < (mix64 (s + stepC)).toNat) : belowF s (m : Int) = (s + stepC, (((mix64 (s + stepC)).toNat % m : Nat) : Int)) := by
  have := few_small h1 h2
  rw [belowF_pos s m h1, draw_once _ _ (by omega)]
theorem two_some {A : Nat} {s : UInt64} {i x1 x2 : Nat} (hA1 : 2 ≤ A) (hA2 : A ≤ 53) (h1 : (mix64 (s + stepC)).toNat = x1) (h2 : (mix64 (s + stepC + stepC)).toNat = x2) (g1 : 100 < x1) (g2 : 100 < x2) {j : Nat} (hj : pickD A (i, x1, x2) j) : (j : Int) ∈ someL A 2 s := by
  have k1 : someK A 2 s 1 = (s + stepC, [((x1 % (A - 1) : Nat) : Int)]) := by
    rw [someK, someK]
    rw [show A - 2 + 0 + 1 = A - 1 by omega, below_once (by omega) (by omega) (by rw [h1]; exact g1), h1]
    simp
  have k2 : someK A 2 s 2 = (s + stepC + stepC, [((x1 % (A - 1) : Nat) : Int)] ++ [if ((x2 % A : Nat) : Int) ∈ [((x1 % (A - 1) : Nat) : Int)] then ((A - 1 : Nat) : Int) else ((x2 % A : Nat) : Int)]) := by
    rw [someK, k1]
    simp only
    rw [show A - 2 + 1 + 1 = A by omega, below_once (by omega) (by omega) (by rw [h2]; exact g2), h2, show A - 2 + 1 = A - 1 by omega]
  unfold someL
  rw [srt_mem, k2]
  rcases hj with e | e
  · rw [e]; simp
  · rw [e]
    cases hb : Nat.beq (x2 % A) (x1 % (A - 1)) with
    | true =>
      have := Nat.eq_of_beq_eq_true hb
      simp [this]
    | false =>
      have : ¬ x2 % A = x1 % (A - 1) := fun e => by rw [e] at hb; simp at hb
      have h3 : ¬ ((x2 % A : Nat) : Int) = ((x1 % (A - 1) : Nat) : Int) := by omega
      simp only [List.mem_singleton, cond_false, h3, if_false]
      simp
end Go.Proofs.Ytfkofhdgokhodaa
