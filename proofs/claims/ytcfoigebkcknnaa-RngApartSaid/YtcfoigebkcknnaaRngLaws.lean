/- The laws of layer 7 walked. -/
import Derived.Test.YtcfoigebkcknnaaRngRef
set_option linter.unusedVariables false
set_option linter.unusedSimpArgs false
namespace Go.Proofs.Ytcfoigebkcknnaa
open Go.RowKit

theorem seedF_nil : seedF [] = 0 := rfl
theorem first_num : ((mix64 (0 + stepC)).toNat : Int) = 16294208416658607535 := by decide +kernel
theorem belowF_one (s : UInt64) : (belowF s 1).2 = 0 := by
  have h := belowF_pos s 1 (by omega)
  rw [show ((1 : Nat) : Int) = 1 from rfl] at h
  rw [h, Nat.mod_one]; rfl
theorem next_first (g : Nat) (w : World) (h : RandAt w g 0) : Calls Try.prog 27 #[.pointer (some ⟨g, 0, none⟩)] w fun e w' =>
    e = .returned (.int .u64 16294208416658607535) ∧ w.grownBy w' (some g) := by
  refine (next_calls g 0 w h).mono ?_
  rintro e w' ⟨rfl, rfl⟩
  rw [first_num]
  exact ⟨rfl, grown_set (World.grownBy.refl w _) _⟩
theorem new_none (w : World) : Calls Try.prog 24 #[.slice none 0 0] w fun e w' => e = .returned (.pointer (some ⟨w.heap.size, 0, none⟩)) ∧ RandAt w' w.heap.size 0 ∧ Below w.heap.size w w' := by
  have h := new_calls none 0 [] (fun _ => False) w (Nat.zero_le _) (Nat.le_refl _) (fun _ h => h.elim) RdL.nil
  rw [seedF_nil] at h
  exact h
theorem below_one (g : Nat) (s : UInt64) (w : World) (h : RandAt w g s) : Calls Try.prog 29 #[.pointer (some ⟨g, 0, none⟩), .int .i64 1] w fun e w' =>
    e = .returned (.int .i64 0) ∧ w.grownBy w' (some g) := by
  refine (below_calls g 1 s w h (by omega) (by omega)).mono ?_
  rintro e w' ⟨rfl, -, hg⟩
  rw [show ((1 : Nat) : Int) = 1 from rfl, belowF_one]
  exact ⟨rfl, hg⟩
theorem below_grown {B : Nat} {a w w' : World} {g : Nat} (h : Below B a w) (hg : w.grownBy w' (some g)) (hB : B ≤ w.heap.size) (hr : B ≤ g) : Below B a w' :=
  h.grown hg hB (fun k hk => by injection hk with hk; omega)

theorem speaks_calls (w : World) : Calls Try.prog 21 #[] w fun e w' => e = .returned (.bool true) ∧ Below w.heap.size w w' := by
  refine cps fun R hR => ?_
  go_enter Try.func21, Try.ntmps21
  go_wp2_with fail
  refine (new_none w).mono ?_
  rintro e w1 ⟨rfl, hr1, hb1⟩
  go_wp2_with fail
  refine (next_first _ w1 hr1).mono ?_
  rintro e w2 ⟨rfl, hg2⟩
  have hb2 := below_grown hb1 hg2 hb1.size (Nat.le_refl _)
  go_wp2_with fail
  refine (new_none w2).mono ?_
  rintro e w3 ⟨rfl, hr3, hb3⟩
  have hb3' := hb2.trans (hb3.mono hb2.size)
  go_wp2_with fail
  refine (below_none _ 0 0 w3 (by omega)).mono ?_
  rintro e w4 ⟨rfl, rfl⟩
  go_wp2_with fail
  obtain ⟨W4, hW4⟩ : ∃ W4, W4 = w3.alloc (.cells #[.int .u64 1] 35) := ⟨_, rfl⟩
  have hb4 : Below w.heap.size w W4 := by rw [hW4]; exact hb3'.alloc hb3'.size _
  have hrd : RdL Kd.u64 (· = w3.heap.size) W4 (some ⟨w3.heap.size, 0, none⟩) [1] := by
    refine RdL.block1 rfl (by rw [hW4]; exact heap_alloc_new w3 _) rfl (fun i x hx => ?_)
    cases i with
    | zero => simp at hx; subst hx; exact ⟨_, rfl, _, rfl, rfl⟩
    | succ i => simp at hx
  have hlt4 : w3.heap.size < W4.heap.size := by rw [hW4]; simp
  rw [← hW4]
  clear hW4
  refine (new_calls (some ⟨w3.heap.size, 0, none⟩) 1 [1] _ W4 (by unfold maxLen; omega) (Nat.le_refl _) (fun k hk => by rw [hk]; exact hlt4) hrd).mono ?_
  rintro e w5 ⟨rfl, hr5, hb5⟩
  have hb5' := hb4.trans (hb5.mono hb4.size)
  go_wp2_with fail
  refine (below_one _ _ w5 hr5).mono ?_
  rintro e w6 ⟨rfl, hg6⟩
  have hb6 := below_grown hb5' hg6 hb5'.size hb4.size
  go_wp2_with fail
  exact hR.out _ _ ⟨rfl, hb6⟩

/-- RngMixes. -/
theorem mixes_calls (z : UInt64) (w : World) : Calls Try.prog 7 #[.int .u64 (z.toNat : Int)] w fun e w' => e = .returned (.bool true) ∧ Below w.heap.size w w' := by
  refine cps fun R hR => ?_
  go_enter Try.func7, Try.ntmps7
  go_wp2_with fail
  refine (speaks_calls w).mono ?_
  rintro e w1 ⟨rfl, hb1⟩
  go_wp2_with fail
  refine (mix_calls z w1).mono ?_
  rintro e w2 ⟨rfl, rfl⟩
  go_wp2_with fail
  refine (refmix_calls z w1).mono ?_
  rintro e w2 ⟨rfl, rfl⟩
  generalize mix64 z = m
  go_wp2_with fail
  exact hR.out _ _ ⟨rfl, hb1⟩

/-! ### No two numbers are mixed to one -/
theorem xorshift_nat {s x y : Nat} (hs : 0 < s) (hx : x < 2 ^ 64) (hy : y < 2 ^ 64) (h : x ^^^ (x >>> s) = y ^^^ (y >>> s)) : x = y := by
  have key : ∀ n i, 64 - i ≤ n → x.testBit i = y.testBit i := by
    intro n
    induction n with
    | zero =>
      intro i hi
      rw [Nat.testBit_lt_two_pow (Nat.lt_of_lt_of_le hx (Nat.pow_le_pow_right (by omega) (by omega))), Nat.testBit_lt_two_pow (Nat.lt_of_lt_of_le hy (Nat.pow_le_pow_right (by omega) (by omega)))]
    | succ n ih =>
      intro i hi
      have e := congrArg (fun z => z.testBit i) h
      simp only [Nat.testBit_xor, Nat.testBit_shiftRight] at e
      rw [ih (s + i) (by omega)] at e
      simpa using e
  exact Nat.eq_of_testBit_eq fun i => key 64 i (by omega)
theorem xorshift_inj {s x y : UInt64} (hs : 0 < s.toNat % 64) (h : x ^^^ x >>> s = y ^^^ y >>> s) : x = y := by
  have e := congrArg UInt64.toNat h
  rw [UInt64.toNat_xor, UInt64.toNat_xor, UInt64.toNat_shiftRight, UInt64.toNat_shiftRight] at e
  exact UInt64.toNat_inj.1 (xorshift_nat hs x.toNat_lt y.toNat_lt e)
theorem mul_inj {c d x y : UInt64} (hcd : c * d = 1) (h : x * c = y * c) : x = y := by
  have e := congrArg (· * d) h
  simp only [UInt64.mul_assoc, hcd, UInt64.mul_one] at e
  exact e
theorem mix_inj {x y : UInt64} (h : mix64 x = mix64 y) : x = y := by
  unfold mix64 at h
  have h3 := xorshift_inj (by decide) h
  have h2 := xorshift_inj (by decide) (mul_inj (d := 3573116690164977347) (by decide) h3)
  exact xorshift_inj (by decide) (mul_inj (d := 10871156337175269513) (by decide) h2)

/-- RngApart. -/
theorem apart_calls (x y : UInt64) (w : World) : Calls Try.prog 10 #[.int .u64 (x.toNat : Int), .int .u64 (y.toNat : Int)] w fun e w' => e = .returned (.bool true) ∧ Below w.heap.size w w' := by
  refine cps fun R hR => ?_
  go_enter Try.func10, Try.ntmps10
  go_wp2_with fail
  refine (speaks_calls w).mono ?_
  rintro e w1 ⟨rfl, hb1⟩
  have hx := mix_calls x w1
  have hy := mix_calls y w1
  have hxy : (((mix64 x).toNat : Int) == ((mix64 y).toNat : Int)) = ((x.toNat : Int) == (y.toNat : Int)) := by
    rw [eq64, eq64, Bool.eq_iff_iff, beq_iff_eq, beq_iff_eq]
    exact ⟨mix_inj, fun h => by rw [h]⟩
  generalize mix64 x = m at hx hxy
  generalize mix64 y = n at hy hxy
  have Hx := hide hx
  have Hy := hide hy
  clear hx hy
  cases hc : ((x.toNat : Int) == (y.toNat : Int))
  all_goals
    rw [hc] at hxy
    go_wp2_with fail
    refine Hx.out.mono ?_
    rintro e w2 ⟨rfl, rfl⟩
    go_wp2_with fail
    refine Hy.out.mono ?_
    rintro e w2 ⟨rfl, rfl⟩
    go_wp2_with fail
    exact hR.out _ _ ⟨rfl, hb1⟩
end Go.Proofs.Ytcfoigebkcknnaa
