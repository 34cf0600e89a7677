/- BlockTwice, walked. -/
import Derived.Test.YtdppjhfndolbjaaBlockRef8
import Derived.Test.YtdppjhfndolbjaaBlockRef8
import Derived.BigQuiet
set_option linter.unusedVariables false
set_option linter.unusedSimpArgs false
namespace Go.Proofs.Ytdppjhfndolbjaa
open Go.RowKit

theorem x_get (ts bs : List UInt8) (hl : bs.length = ts.length) (i : Nat) : (xorL ts bs).getD i 0 = ts.getD i 0 ^^^ bs.getD i 0 := by
  by_cases hi : i < ts.length
  · exact xorL_getD ts bs hl i hi
  · have h1 : ts.length ≤ i := by omega
    have h2 : bs.length ≤ i := by omega
    have h3 : (xorL ts bs).length ≤ i := by rw [xorL_len ts bs hl]; exact h1
    simp only [List.getD_eq_getElem?_getD, List.getElem?_eq_none h1, List.getElem?_eq_none h2, List.getElem?_eq_none h3, Option.getD_none]
    rfl
/-- All bytes put upon each other, at one place. -/
def putD (i : Nat) (x : UInt8) (bss : List (List UInt8)) : UInt8 := bss.foldl (fun y b => y ^^^ b.getD i 0) x
theorem sum_get (i : Nat) : ∀ (bss : List (List UInt8)) (ts : List UInt8), (∀ b ∈ bss, b.length = ts.length) → (sumL ts bss).getD i 0 = putD i (ts.getD i 0) bss
  | [], ts, _ => rfl
  | b :: r, ts, h => by
    have hb := h b (by simp)
    show (sumL (xorL ts b) r).getD i 0 = putD i (ts.getD i 0 ^^^ b.getD i 0) r
    rw [sum_get i r (xorL ts b) (fun c hc => by rw [xorL_len ts b hb]; exact h c (by simp [hc])), x_get ts b hb i]
theorem ext_getD (xs ys : List UInt8) (hl : xs.length = ys.length) (h : ∀ i, xs.getD i 0 = ys.getD i 0) : xs = ys := by
  apply List.ext_getElem hl
  intro i h1 h2
  have := h i
  simpa [List.getD_eq_getElem?_getD, List.getElem?_eq_getElem h1, List.getElem?_eq_getElem h2] using this
theorem zs_get (n i : Nat) : (zs n).getD i 0 = 0 := by
  simp [zs, List.getD_eq_getElem?_getD, List.getElem?_replicate]
  split <;> rfl
theorem zero_x (a : UInt8) : 0 ^^^ a = a := by simp
end Go.Proofs.Ytdppjhfndolbjaa
