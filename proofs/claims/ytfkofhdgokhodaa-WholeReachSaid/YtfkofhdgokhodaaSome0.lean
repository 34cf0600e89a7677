/- Some of many numbers, drawn: the plain law. -/
import Derived.Test.YtfkofhdgokhodaaSort
import Derived.Test.YtfkofhdgokhodaaRng
set_option linter.unusedVariables false
set_option linter.unusedSimpArgs false
namespace Go.Proofs.Ytfkofhdgokhodaa
open Go.RowKit

theorem belowF_bd (s : UInt64) {n : Nat} (hn : 1 ≤ n) : 0 ≤ (belowF s n).2 ∧ (belowF s n).2 < n := by
  rw [belowF_pos s n hn]
  refine ⟨Int.natCast_nonneg _, ?_⟩
  have := Nat.mod_lt (drawF (fewF n) s).2.toNat (show 0 < n by omega)
  omega
/-- The state, and what was drawn, behind i of m numbers below b. -/
def someK (b m : Nat) (s : UInt64) : Nat → UInt64 × List Int
  | 0 => (s, [])
  | i + 1 => ((belowF (someK b m s i).1 ((b - m + i + 1 : Nat) : Int)).1, (someK b m s i).2 ++ [if (belowF (someK b m s i).1 ((b - m + i + 1 : Nat) : Int)).2 ∈ (someK b m s i).2 then ((b - m + i : Nat) : Int) else (belowF (someK b m s i).1 ((b - m + i + 1 : Nat) : Int)).2])
theorem someK_len (b m : Nat) (s : UInt64) : ∀ i, (someK b m s i).2.length = i
  | 0 => rfl
  | i + 1 => by
    show ((someK b m s i).2 ++ [_]).length = _
    rw [List.length_append, someK_len b m s i]; rfl
theorem someK_bd (b m : Nat) (s : UInt64) : ∀ i, ∀ x ∈ (someK b m s i).2, 0 ≤ x ∧ x < ((b - m + i : Nat) : Int)
  | 0, x, h => by cases h
  | i + 1, x, h => by
    rcases List.mem_append.1 (show x ∈ (someK b m s i).2 ++ [_] from h) with h | h
    · have := someK_bd b m s i x h; omega
    · rw [List.mem_singleton.1 h]
      split
      · omega
      · have := belowF_bd (someK b m s i).1 (n := b - m + i + 1) (by omega); omega
theorem someK_new (b m : Nat) (s : UInt64) (i : Nat) : (if (belowF (someK b m s i).1 ((b - m + i + 1 : Nat) : Int)).2 ∈ (someK b m s i).2 then ((b - m + i : Nat) : Int) else (belowF (someK b m s i).1 ((b - m + i + 1 : Nat) : Int)).2) ∉ (someK b m s i).2 := by
  split
  · intro h
    have := (someK_bd b m s i _ h).2
    omega
  · rename_i h; exact h
theorem someK_nodup (b m : Nat) (s : UInt64) : ∀ i, (someK b m s i).2.Nodup
  | 0 => List.nodup_nil
  | i + 1 => List.nodup_append.2 ⟨someK_nodup b m s i, by simp, fun a ha c hc => by
      rw [List.mem_singleton.1 hc]; exact fun e => someK_new b m s i (e ▸ ha)⟩
/-- What is drawn, rising. -/
def someL (b m : Nat) (s : UInt64) : List Int := srt (someK b m s m).2
theorem someL_len (b m : Nat) (s : UInt64) : (someL b m s).length = m := by rw [someL, srt_len, someK_len]
theorem someL_bd {b m : Nat} (h : m ≤ b) (s : UInt64) {x : Int} (hx : x ∈ someL b m s) : 0 ≤ x ∧ x < (b : Int) := by
  have := someK_bd b m s m x (srt_mem.1 hx)
  omega
theorem someL_lt (b m : Nat) (s : UInt64) : (someL b m s).Pairwise (· < ·) := srt_lt (someK_nodup b m s m)
end Go.Proofs.Ytfkofhdgokhodaa
