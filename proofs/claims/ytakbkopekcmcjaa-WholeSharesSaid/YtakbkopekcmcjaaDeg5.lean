/- What the degree's laws ask first; a degree that is drawn, determined. -/
import Derived.Test.YtakbkopekcmcjaaDeg4
import Derived.BigQuiet
set_option linter.unusedVariables false
set_option linter.unusedSimpArgs false
namespace Go.Proofs.Ytakbkopekcmcjaa
open Go.RowKit

theorem may_nat {N B Q E F : Int} (h : mayB N B Q E F = true) : ∃ f e : Nat, F = (f : Int) ∧ E = (e : Int) ∧ May f e := by
  obtain ⟨-, -, -, -, -, -, e1, e2, f1, f2, fe⟩ := may_bd h
  obtain ⟨f, rfl⟩ := Int.eq_ofNat_of_zero_le (show 0 ≤ F by omega)
  obtain ⟨e, rfl⟩ := Int.eq_ofNat_of_zero_le (show 0 ≤ E by omega)
  rw [← Int.natCast_mul] at fe
  have fe' : 1000 < f * e := by generalize f * e = z at *; omega
  exact ⟨f, e, rfl, rfl, by omega, by omega, by omega, by omega, fe'⟩
section
variable {F E : Nat} (m : May F E)
include m
theorem of_exists (u : Nat) : ∃ d, IsOf F E u d := by
  have h : ∀ k, k + 1 ≤ F → (∀ i, 1 ≤ i → i < k + 1 → bel F E i ≤ u) ∨ ∃ d, IsOf F E u d := fun k => by
    induction k with
    | zero => exact fun _ => .inl fun i h1 h2 => by omega
    | succ k ih =>
      intro hk
      rcases ih (by omega) with h | h
      · by_cases hu : u < bel F E (k + 1)
        · exact .inr ⟨k + 1, by omega, by omega, h, fun _ => hu⟩
        · refine .inl fun i h1 h2 => ?_
          rcases Nat.lt_or_ge i (k + 1) with h3 | h3
          · exact h i h1 h3
          · rw [show i = k + 1 by omega]; omega
      · exact .inr h
  have h2 := m.f2
  rcases h (F - 1) (by omega) with h | h
  · exact ⟨F, by omega, Nat.le_refl _, fun i h1 h3 => h i h1 (by omega), fun h => absurd h (Nat.lt_irrefl _)⟩
  · exact h
theorem of_at (g B u d : Nat) (w : World) (h : Tab w B g (belL F E (F - 1))) (hd : IsOf F E u d) :
    Calls Try.prog 15 #[.pointer (some ⟨g, 0, none⟩), .int .u64 (u : Int)] w fun e w' => e = .returned (.int .i64 (d : Int)) ∧ Below w.heap.size w w' :=
  (of_calls m g B u w h).mono fun e w' ⟨d', h1, h2, h3⟩ => ⟨by rw [h1, h2.eq hd], h3⟩
theorem refof_at (N B Q : Int) (u d : Nat) (w : World) (hd : IsOf F E u d) :
    Calls Try.prog 16 #[pV N B Q (E : Int) (F : Int), .int .u64 (u : Int)] w fun e w' => e = .returned (.int .i64 (d : Int)) ∧ Below w.heap.size w w' :=
  (refof_calls m N B Q u w).mono fun e w' ⟨d', h1, h2, h3⟩ => ⟨by rw [h1, h2.eq hd], h3⟩
theorem most_at (g B : Nat) (w : World) (h : Tab w B g (belL F E (F - 1))) :
    Calls Try.prog 12 #[.pointer (some ⟨g, 0, none⟩)] w fun e w' => e = .returned (.int .i64 (F : Int)) ∧ w = w' := by
  have h1 := m.f2
  have h2 := m.f4
  have := most_calls g B _ w h (by rw [belL_len]; omega)
  rw [belL_len, show F - 1 + 1 = F by omega] at this
  exact this
end
theorem may_sp : May 2 1000 := ⟨by decide, by decide, by decide, by decide, by decide⟩
theorem bel_sp : bel 2 1000 1 = 4611686018427387904 := by kernel_rfl
theorem belT_sp : belT (belL 2 1000 1) 1 = 4611686018427387904 ∧ belB (belL 2 1000 1) 1 = true := ⟨by kernel_rfl, by kernel_rfl⟩
theorem of_sp1 : IsOf 2 1000 4611686018427387903 1 := ⟨by decide, by decide, fun i h1 h2 => by omega, fun _ => by rw [bel_sp]; decide⟩
theorem of_sp2 : IsOf 2 1000 4611686018427387904 2 := ⟨by decide, by decide, fun i h1 h2 => by rw [show i = 1 by omega, bel_sp]; exact Nat.le_refl _, fun h => absurd h (by decide)⟩
set_option maxHeartbeats 1000000 in
theorem speaks_calls (w : World) : Calls Try.prog 9 #[] w fun e w' => e = .returned (.bool true) ∧ Below w.heap.size w w' := by
  refine cps fun R hR => ?_
  have hN : Calls Try.prog 10 #[.agg #[.int .i64 1, .int .i64 1, .int .i64 1, .int .i64 1000, .int .i64 2]] w fun e w' => ∃ g, e = .returned (.tuple #[.pointer (some ⟨g, 0, none⟩), .int .i64 0]) ∧ Tab w' w.heap.size g (belL 2 1000 1) ∧ Below w.heap.size w w' := new_calls may_sp 1 1 1 w (by decide)
  have HN := hide hN
  clear hN
  go_enter Try.func9, Try.ntmps9
  go_wp2_with fail
  refine HN.out.mono ?_
  rintro e w1 ⟨g, rfl, hT1, hb1⟩
  have T1 := hide hT1
  have B1 := hide hb1
  have hBe := hide (tbelow_calls g w.heap.size (belL 2 1000 1) 1 w1 hT1 (by rw [belL_len]; omega))
  rw [belT_sp.1, belT_sp.2] at hBe
  clear hT1 hb1 HN
  go_wp2_with fail
  refine hBe.out.mono ?_
  rintro e w2 ⟨rfl, rfl⟩
  have hO1 : Calls Try.prog 15 #[.pointer (some ⟨g, 0, none⟩), .int .u64 4611686018427387903] w1 fun e w' => e = .returned (.int .i64 1) ∧ Below w1.heap.size w1 w' := of_at may_sp g w.heap.size 4611686018427387903 1 w1 T1.out of_sp1
  have HO1 := hide hO1
  clear hO1 hBe
  go_wp2_with fail
  refine HO1.out.mono ?_
  rintro e w2 ⟨rfl, hb2⟩
  have hO2 : Calls Try.prog 15 #[.pointer (some ⟨g, 0, none⟩), .int .u64 4611686018427387904] w2 fun e w' => e = .returned (.int .i64 2) ∧ Below w2.heap.size w2 w' := of_at may_sp g w.heap.size 4611686018427387904 2 w2 (T1.out.below hb2) of_sp2
  have HO2 := hide hO2
  have B2 := hide hb2
  clear hO2 HO1 hb2
  go_wp2_with fail
  refine HO2.out.mono ?_
  rintro e w3 ⟨rfl, hb3⟩
  have hM : Calls Try.prog 12 #[.pointer (some ⟨g, 0, none⟩)] w3 fun e w' => e = .returned (.int .i64 2) ∧ w3 = w' := most_at may_sp g w.heap.size w3 ((T1.out.below B2.out).below hb3)
  have HM := hide hM
  have B3 := hide hb3
  clear hM HO2 hb3
  go_wp2_with fail
  refine HM.out.mono ?_
  rintro e w4 ⟨rfl, rfl⟩
  go_wp2_with fail
  exact hR.out _ _ ⟨rfl, below_step B1.out B1.out.size (below_step B2.out B2.out.size B3.out)⟩
end Go.Proofs.Ytakbkopekcmcjaa
