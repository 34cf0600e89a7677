/- How often each degree is drawn: plain law. -/
import Derived.Test.YtakbkopekcmcjaaShare0
set_option linter.unusedVariables false
namespace Go.Proofs.Ytakbkopekcmcjaa

def degN (x : Nat) : Nat := if x < 3074457345618258602 then 1 else if x < 13322648497679120611 then 2 else if x < 16738712215032741281 then 3 else 4
theorem may4 : May 4 500 := ⟨by decide, by decide, by decide, by decide, by decide⟩
theorem degN_of (x : Nat) : IsOf 4 500 x (degN x) := by
  have h1 := bel41
  have h2 := bel42
  have h3 := bel43
  unfold degN
  split
  · exact ⟨by decide, by decide, fun i a b => by omega, fun _ => by rw [h1]; assumption⟩
  split
  · refine ⟨by decide, by decide, fun i a b => ?_, fun _ => by rw [h2]; assumption⟩
    obtain rfl : i = 1 := by omega
    rw [h1]; omega
  split
  · refine ⟨by decide, by decide, fun i a b => ?_, fun _ => by rw [h3]; assumption⟩
    have : i = 1 ∨ i = 2 := by omega
    rcases this with rfl | rfl
    · rw [h1]; omega
    · rw [h2]; omega
  · refine ⟨by decide, by decide, fun i a b => ?_, fun h => absurd h (by decide)⟩
    have : i = 1 ∨ i = 2 ∨ i = 3 := by omega
    rcases this with rfl | rfl | rfl
    · rw [h1]; omega
    · rw [h2]; omega
    · rw [h3]; omega
theorem degN_bd (x : Nat) : 1 ≤ degN x ∧ degN x ≤ 4 := ⟨(degN_of x).le, (degN_of x).most⟩
/-- The j-th number's state. -/
def stN (st j : Nat) : Nat := (st + j * 11400714819323198485) % 18446744073709551616
def cntA (st : Nat) : Nat → Nat → Nat
  | 0, _ => 0
  | k + 1, d => cntA st k d + if degN (mixN (stN st (k + 1))) = d then 1 else 0
theorem cntA_le (st : Nat) : ∀ k d, cntA st k d ≤ k
  | 0, _ => Nat.le_refl _
  | k + 1, d => by have := cntA_le st k d; rw [cntA]; split <;> omega
def packN (d : Nat) : Nat := if d = 1 then 1 else if d = 2 then 65536 else if d = 3 then 4294967296 else 281474976710656
theorem leaf_pack (x : Nat) : leafN 3074457345618258602 13322648497679120611 16738712215032741281 x = packN (degN x) := by
  unfold leafN degN
  by_cases h1 : x < 3074457345618258602
  · rw [if_pos h1, show Nat.blt x 3074457345618258602 = true from by rw [Nat.blt_eq]; exact h1]; rfl
  rw [if_neg h1, show Nat.blt x 3074457345618258602 = false from by rw [← Bool.not_eq_true, Nat.blt_eq]; exact h1]
  by_cases h2 : x < 13322648497679120611
  · rw [if_pos h2, show Nat.blt x 13322648497679120611 = true from by rw [Nat.blt_eq]; exact h2]; rfl
  rw [if_neg h2, show Nat.blt x 13322648497679120611 = false from by rw [← Bool.not_eq_true, Nat.blt_eq]; exact h2]
  by_cases h3 : x < 16738712215032741281
  · rw [if_pos h3, show Nat.blt x 16738712215032741281 = true from by rw [Nat.blt_eq]; exact h3]; rfl
  rw [if_neg h3, show Nat.blt x 16738712215032741281 = false from by rw [← Bool.not_eq_true, Nat.blt_eq]; exact h3]; rfl
def pkA (st : Nat) : Nat → Nat
  | 0 => 0
  | k + 1 => pkA st k + packN (degN (mixN (stN st (k + 1))))
theorem sum_pk (st : Nat) : ∀ k n, pkA st n + sumN 3074457345618258602 13322648497679120611 16738712215032741281 st k (n + 1) = pkA st (n + 2 ^ k)
  | 0, n => by rw [sumN, leaf_pack]; rfl
  | k + 1, n => by
    have h1 := sum_pk st k n
    have h2 := sum_pk st k (n + 2 ^ k)
    rw [sumN, show n + 1 + 2 ^ k = n + 2 ^ k + 1 by omega, show n + 2 ^ (k + 1) = n + 2 ^ k + 2 ^ k by rw [Nat.pow_succ]; omega, ← h2, ← h1]
    exact (Nat.add_assoc _ _ _).symm
theorem pk_cnt (st : Nat) : ∀ k, pkA st k = cntA st k 1 + 65536 * cntA st k 2 + 4294967296 * cntA st k 3 + 281474976710656 * cntA st k 4
  | 0 => rfl
  | k + 1 => by
    have h := pk_cnt st k
    have hd := degN_bd (mixN (stN st (k + 1)))
    simp only [pkA, cntA]
    generalize degN (mixN (stN st (k + 1))) = d at *
    have : d = 1 ∨ d = 2 ∨ d = 3 ∨ d = 4 := by omega
    rcases this with rfl | rfl | rfl | rfl
    all_goals (rw [h]; simp only [packN]; simp; omega)
theorem all_pk (s : Nat) : allN s = pkA (seedN s) 8000 := by
  unfold allN
  simp only []
  generalize seedN s = st
  have h1 : pkA st 0 + sumN 3074457345618258602 13322648497679120611 16738712215032741281 st 12 1 = pkA st 4096 := sum_pk st 12 0
  have h2 : pkA st 4096 + sumN 3074457345618258602 13322648497679120611 16738712215032741281 st 11 4097 = pkA st 6144 := sum_pk st 11 4096
  have h3 : pkA st 6144 + sumN 3074457345618258602 13322648497679120611 16738712215032741281 st 10 6145 = pkA st 7168 := sum_pk st 10 6144
  have h4 : pkA st 7168 + sumN 3074457345618258602 13322648497679120611 16738712215032741281 st 9 7169 = pkA st 7680 := sum_pk st 9 7168
  have h5 : pkA st 7680 + sumN 3074457345618258602 13322648497679120611 16738712215032741281 st 8 7681 = pkA st 7936 := sum_pk st 8 7680
  have h6 : pkA st 7936 + sumN 3074457345618258602 13322648497679120611 16738712215032741281 st 6 7937 = pkA st 8000 := sum_pk st 6 7936
  have h0 : pkA st 0 = 0 := rfl
  omega
end Go.Proofs.Ytakbkopekcmcjaa
