/- A degree drawn: the table's own search, and the reference's. -/
import Derived.Test.YtfkofhdgokhodaaDeg2
set_option linter.unusedVariables false
set_option linter.unusedSimpArgs false
namespace Go.Proofs.Ytfkofhdgokhodaa
open Go.RowKit

theorem newbad_calls (N B Q E F : Int) (w : World) (hm : mayB N B Q E F = false) :
    Calls Try.prog 42 #[pV N B Q E F] w fun e w' => e = .returned (.tuple #[.pointer none, .int .i64 1]) ∧ Below w.heap.size w w' := by
  refine cps fun R hR => ?_
  obtain ⟨W, hW, hb, hs, d0, d1, d2, d3, d4⟩ := box5 w N B Q E F 23
  have HW := hide hW
  have Hb := hide hb
  have Hck := hide (check_calls N B Q E F W)
  rw [if_neg (by rw [hm]; decide)] at Hck
  clear hW hb hm
  go_enter Try.func42, Try.ntmps42
  go_upto_region 1 with fail
  rw [← HW.out]
  go_wp2_with fail
  refine Hck.out.mono ?_
  rintro e w1 ⟨rfl, hb1⟩
  go_wp2_with fail
  exact hR.out _ _ ⟨rfl, below_step Hb.out (Nat.le_of_lt hs) hb1⟩

/-- d is the degree that u draws. -/
structure IsOf (F E u d : Nat) : Prop where
  le : 1 ≤ d
  most : d ≤ F
  lo : ∀ i, 1 ≤ i → i < d → bel F E i ≤ u
  hi : d < F → u < bel F E d
theorem IsOf.le_of {F E u v a b : Nat} (h1 : IsOf F E u a) (h2 : IsOf F E v b) (h : u ≤ v) : a ≤ b := by
  refine Nat.le_of_not_lt fun hlt => ?_
  have := h1.lo b h2.le hlt
  have := h2.hi (Nat.lt_of_lt_of_le hlt h1.most)
  omega
theorem IsOf.eq {F E u a b : Nat} (h1 : IsOf F E u a) (h2 : IsOf F E u b) : a = b := Nat.le_antisymm (h1.le_of h2 (Nat.le_refl _)) (h2.le_of h1 (Nat.le_refl _))

section
variable {F E : Nat} (m : May F E)
include m
set_option maxHeartbeats 1000000 in
theorem refof_calls (N B Q : Int) (u : Nat) (w : World) :
    Calls Try.prog 80 #[pV N B Q (E : Int) (F : Int), .int .u64 (u : Int)] w fun e w' => ∃ d : Nat, e = .returned (.int .i64 (d : Int)) ∧ IsOf F E u d ∧ Below w.heap.size w w' := by
  refine cps fun R hR => ?_
  obtain ⟨W, hW, hb, hs, d0, d1, d2, d3, d4⟩ := box5 w N B Q E F 23
  have HW := hide hW
  have Hb := hide hb
  have c0 := fun x : Later W => later_cell d0 x
  have c1 := fun x : Later W => later_cell d1 x
  have c2 := fun x : Later W => later_cell d2 x
  have c3 := fun x : Later W => later_cell d3 x
  have c4 := fun x : Later W => later_cell d4 x
  have M := hide m
  clear hW hb d0 d1 d2 d3 d4
  go_enter Try.func80, Try.ntmps80
  go_upto_region 1 with fail
  rw [← HW.out]
  clear HW
  go_wp2_with fail
  go_loopw [5] (fun i wr => ∃ k : Nat, k + 1 ≤ F ∧ i = .int .i64 ((k + 1 : Nat) : Int) ∧ (∀ i, 1 ≤ i → i < k + 1 → bel F E i ≤ u) ∧ Below W.heap.size W wr) (fun i _ => F - (intOf i).toNat)
  case atStart => exact ⟨0, by have := m.f2; omega, rfl, fun i h1 h2 => by omega, Below.refl _ _⟩
  case round =>
    obtain ⟨k, hk, rfl, hlo, hB⟩ := hrel
    have k0 := c0 ⟨wr, hB⟩
    have k1 := c1 ⟨wr, hB⟩
    have k2 := c2 ⟨wr, hB⟩
    have k3 := c3 ⟨wr, hB⟩
    have k4 := c4 ⟨wr, hB⟩
    simp only [Later.v] at k0 k1 k2 k3 k4
    by_cases hlt : k + 1 < F
    · have hc := hide (refbel_calls m N B Q k wr hlt)
      have Hlo := hide hlo
      have HB := hide hB
      have hnext : u < bel F E (k + 1) ∨ bel F E (k + 1) ≤ u := by omega
      generalize hb : bel F E (k + 1) = b at hc hnext
      have Hbel := hide hb
      have f1 : wrap64 (((k + 1 : Nat) : Int) + 1) = ((k + 1 + 1 : Nat) : Int) := by have := m.f4; rw [IntWalk.wrap64_in _ ⟨by omega, by omega⟩]; omega
      have hF := m.f4
      have Hk := hide (show k + 1 < F ∧ F ≤ 4096 from ⟨hlt, hF⟩)
      have t1 : decide (k + 1 < F) = true := by simp; omega
      obtain ⟨i, hi⟩ : ∃ i, i = k + 1 := ⟨_, rfl⟩
      have Hi := hide hi
      rw [← hi] at hc t1 f1 ⊢
      clear hlo hB hb hk hlt hF hi
      by_cases hu : u < b
      · have t2 : decide (u < b) = true := by simp; omega
        clear hnext
        have Hu := hide hu
        clear hu
        go_wp2_with fail
        refine hc.out.mono ?_
        rintro e w1 ⟨rfl, hb1⟩
        go_wp2_with fail
        have hi := Hi.out
        have hk := Hk.out
        exact hR.out _ _ ⟨i, rfl, ⟨by omega, by omega, by rw [hi]; exact Hlo.out, fun _ => by rw [hi, Hbel.out]; exact Hu.out⟩, below_step Hb.out (Nat.le_of_lt hs) (below_step HB.out HB.out.size hb1)⟩
      · have t2 : decide (u < b) = false := by simp; omega
        have Hu := hide hu
        clear hu hnext
        go_wp2_with fail
        refine hc.out.mono ?_
        rintro e w1 ⟨rfl, hb1⟩
        go_wp2_with fail
        rw [f1]
        clear f1 t1 t2
        have hk := Hk.out
        have hi := Hi.out
        refine ⟨⟨k + 1, by omega, by rw [hi], fun j h1 h2 => ?_, below_step HB.out HB.out.size hb1⟩, ?_⟩
        · rcases Nat.lt_or_ge j (k + 1) with h3 | h3
          · exact Hlo.out j h1 h3
          · rw [show j = k + 1 by omega, Hbel.out]; have := Hu.out; omega
        · simp only [intOf]; omega
    · obtain ⟨i, hi⟩ : ∃ i, i = k + 1 := ⟨_, rfl⟩
      obtain rfl : i = F := by omega
      rw [← hi]
      have t1 : decide (i < i) = false := by simp
      have Hlo := hide hlo
      have Hi := hide hi
      clear hlo hk hlt hi
      go_wp2_with fail
      exact hR.out _ _ ⟨i, rfl, ⟨by have := Hi.out; omega, Nat.le_refl _, by rw [Hi.out]; intro j h1 h2; have := Hlo.out j h1 h2; rw [Hi.out] at this; exact this, fun h => absurd h (Nat.lt_irrefl _)⟩, below_step Hb.out (Nat.le_of_lt hs) hB⟩
end
end Go.Proofs.Ytfkofhdgokhodaa
