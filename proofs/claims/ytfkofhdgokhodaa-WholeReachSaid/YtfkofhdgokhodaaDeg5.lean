/- What the degree's laws ask first; a degree that is drawn, determined. -/
import Derived.Test.YtfkofhdgokhodaaDeg4
import Derived.BigQuiet
set_option linter.unusedVariables false
set_option linter.unusedSimpArgs false
namespace Go.Proofs.Ytfkofhdgokhodaa
open Go.RowKit

theorem may_nat {N B Q E F : Int} (h : mayB N B Q E F = true) : ∃ f e : Nat, F = (f : Int) ∧ E = (e : Int) ∧ May f e := by
  obtain ⟨-, -, -, -, -, -, e1, e2, f1, f2, fe⟩ := may_bd h
  obtain ⟨f, rfl⟩ := Int.eq_ofNat_of_zero_le (show 0 ≤ F by omega)
  obtain ⟨e, rfl⟩ := Int.eq_ofNat_of_zero_le (show 0 ≤ E by omega)
  rw [← Int.natCast_mul] at fe
  have fe' : 1000 < f * e := by generalize f * e = z at *; omega
  exact ⟨f, e, rfl, rfl, by omega, by omega, by omega, by omega, fe'⟩
section
variable {F E : Nat} (m : May F E)
include m
theorem of_exists (u : Nat) : ∃ d, IsOf F E u d := by
  have h : ∀ k, k + 1 ≤ F → (∀ i, 1 ≤ i → i < k + 1 → bel F E i ≤ u) ∨ ∃ d, IsOf F E u d := fun k => by
    induction k with
    | zero => exact fun _ => .inl fun i h1 h2 => by omega
    | succ k ih =>
      intro hk
      rcases ih (by omega) with h | h
      · by_cases hu : u < bel F E (k + 1)
        · exact .inr ⟨k + 1, by omega, by omega, h, fun _ => hu⟩
        · refine .inl fun i h1 h2 => ?_
          rcases Nat.lt_or_ge i (k + 1) with h3 | h3
          · exact h i h1 h3
          · rw [show i = k + 1 by omega]; omega
      · exact .inr h
  have h2 := m.f2
  rcases h (F - 1) (by omega) with h | h
  · exact ⟨F, by omega, Nat.le_refl _, fun i h1 h3 => h i h1 (by omega), fun h => absurd h (Nat.lt_irrefl _)⟩
  · exact h
theorem of_at (g B u d : Nat) (w : World) (h : Tab w B g (belL F E (F - 1))) (hd : IsOf F E u d) :
    Calls Try.prog 43 #[.pointer (some ⟨g, 0, none⟩), .int .u64 (u : Int)] w fun e w' => e = .returned (.int .i64 (d : Int)) ∧ Below w.heap.size w w' :=
  (of_calls m g B u w h).mono fun e w' ⟨d', h1, h2, h3⟩ => ⟨by rw [h1, h2.eq hd], h3⟩
theorem refof_at (N B Q : Int) (u d : Nat) (w : World) (hd : IsOf F E u d) :
    Calls Try.prog 80 #[pV N B Q (E : Int) (F : Int), .int .u64 (u : Int)] w fun e w' => e = .returned (.int .i64 (d : Int)) ∧ Below w.heap.size w w' :=
  (refof_calls m N B Q u w).mono fun e w' ⟨d', h1, h2, h3⟩ => ⟨by rw [h1, h2.eq hd], h3⟩
end
theorem may_sp : May 2 1000 := ⟨by decide, by decide, by decide, by decide, by decide⟩
theorem bel_sp : bel 2 1000 1 = 4611686018427387904 := by kernel_rfl
theorem belT_sp : belT (belL 2 1000 1) 1 = 4611686018427387904 ∧ belB (belL 2 1000 1) 1 = true := ⟨by kernel_rfl, by kernel_rfl⟩
theorem of_sp1 : IsOf 2 1000 4611686018427387903 1 := ⟨by decide, by decide, fun i h1 h2 => by omega, fun _ => by rw [bel_sp]; decide⟩
theorem of_sp2 : IsOf 2 1000 4611686018427387904 2 := ⟨by decide, by decide, fun i h1 h2 => by rw [show i = 1 by omega, bel_sp]; exact Nat.le_refl _, fun h => absurd h (by decide)⟩
end Go.Proofs.Ytfkofhdgokhodaa
