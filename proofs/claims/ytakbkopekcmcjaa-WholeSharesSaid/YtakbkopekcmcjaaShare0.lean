/- The degrees that 8000 numbers of a rng draw: plain law, on numbers. -/
import Derived.Test.YtakbkopekcmcjaaDeg5
import Derived.Test.YtakbkopekcmcjaaRngK
set_option linter.unusedVariables false
namespace Go.Proofs.Ytakbkopekcmcjaa

def mixN (z : Nat) : Nat :=
  let a := (Nat.xor z (z / 1073741824)) * 13787848793156543929 % 18446744073709551616
  let b := (Nat.xor a (a / 134217728)) * 10723151780598845931 % 18446744073709551616
  Nat.xor b (b / 2147483648)
theorem mixN_eq (z : UInt64) : mixN z.toNat = (mix64 z).toNat := by
  unfold mixN mix64
  simp only [UInt64.toNat_xor, UInt64.toNat_mul, UInt64.toNat_shiftRight]
  simp [Nat.shiftRight_eq_div_pow]
  try rfl
/-- Which of the three bounds a number lies below: 1, 2^16, 2^32 put together. -/
def leafN (b1 b2 b3 x : Nat) : Nat := cond (Nat.blt x b1) 1 (cond (Nat.blt x b2) 65536 (cond (Nat.blt x b3) 4294967296 281474976710656))
/-- .. of the numbers lo to lo + 2^k - 1 -/
def sumN (b1 b2 b3 st : Nat) : Nat → Nat → Nat
  | 0, lo => leafN b1 b2 b3 (mixN ((st + lo * 11400714819323198485) % 18446744073709551616))
  | k + 1, lo => Nat.add (sumN b1 b2 b3 st k lo) (sumN b1 b2 b3 st k (lo + 2 ^ k))
def seedN (s : Nat) : Nat := mixN (Nat.xor ((mixN (Nat.xor 11400714819323198485 s) + 11400714819323198485) % 18446744073709551616) 77)
/-- 8000 = 4096 + 2048 + 1024 + 512 + 256 + 64 of them, from the first on. -/
def allN (s : Nat) : Nat :=
  let st := seedN s
  let f := sumN 3074457345618258602 13322648497679120611 16738712215032741281 st
  f 12 1 + f 11 4097 + f 10 6145 + f 9 7169 + f 8 7681 + f 6 7937
theorem bel41 : bel 4 500 1 = 3074457345618258602 := by kernel_rfl
theorem bel42 : bel 4 500 2 = 13322648497679120611 := by kernel_rfl
theorem bel43 : bel 4 500 3 = 16738712215032741281 := by kernel_rfl
/-- The counts of the four degrees, out of what is put together. -/
def cntN (n : Nat) : Nat → Nat
  | 1 => n % 65536
  | 2 => n / 65536 % 65536
  | 3 => n / 4294967296 % 65536
  | 4 => n / 281474976710656
  | _ => 0
def chkN (n : Nat) : Bool := Nat.ble 959 (cntN n 1) && Nat.ble (cntN n 1) 1706 && Nat.ble 3293 (cntN n 2) && Nat.ble (cntN n 2) 5595 && Nat.ble 1070 (cntN n 3) && Nat.ble (cntN n 3) 1891 && Nat.ble 515 (cntN n 4) && Nat.ble (cntN n 4) 965 && Nat.beq (cntN n 1 + cntN n 2 + cntN n 3 + cntN n 4) 8000
def chkTo : Nat → Nat → Bool
  | 0, _ => true
  | k + 1, lo => chkN (allN lo) && chkTo k (lo + 1)
theorem chk_a : chkTo 16 0 = true := by kernel_rfl
theorem chk_b : chkTo 16 16 = true := by kernel_rfl
theorem chk_c : chkTo 16 32 = true := by kernel_rfl
theorem chk_d : chkTo 16 48 = true := by kernel_rfl
theorem chkTo_get : ∀ (k lo s : Nat), chkTo k lo = true → lo ≤ s → s < lo + k → chkN (allN s) = true
  | 0, lo, s, _, h1, h2 => by omega
  | k + 1, lo, s, h, h1, h2 => by
    simp only [chkTo, Bool.and_eq_true] at h
    rcases Nat.lt_or_ge lo s with h3 | h3
    · exact chkTo_get k (lo + 1) s h.2 h3 (by omega)
    · rw [show s = lo by omega]; exact h.1
theorem chk_all (s : Nat) (h : s < 64) : chkN (allN s) = true := by
  rcases Nat.lt_or_ge s 16 with h1 | h1
  · exact chkTo_get 16 0 s chk_a (by omega) (by omega)
  rcases Nat.lt_or_ge s 32 with h2 | h2
  · exact chkTo_get 16 16 s chk_b (by omega) (by omega)
  rcases Nat.lt_or_ge s 48 with h3 | h3
  · exact chkTo_get 16 32 s chk_c (by omega) (by omega)
  · exact chkTo_get 16 48 s chk_d (by omega) (by omega)
end Go.Proofs.Ytakbkopekcmcjaa
