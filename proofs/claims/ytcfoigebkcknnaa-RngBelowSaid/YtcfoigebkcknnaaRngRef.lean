/- The reference of layer 7: a number below another one, walked. -/
import Derived.Test.YtcfoigebkcknnaaRng
set_option linter.unusedVariables false
set_option linter.unusedSimpArgs false
namespace Go.Proofs.Ytcfoigebkcknnaa
open Go.RowKit

theorem reffew_raw (m : Nat) (h1 : 1 ≤ m) (h2 : m ≤ 9223372036854775807) : (IntKind.u64.wrap (18446744073709551615 % (m : Int) + 1)).tmod (m : Int) = (fewF m : Int) := by
  have hlt : 18446744073709551615 % m < m := Nat.mod_lt _ (by omega)
  have e : (18446744073709551615 : Int) % (m : Int) = ((18446744073709551615 % m : Nat) : Int) := by rw [Int.natCast_emod]; rfl
  rw [e, wrap_u64', show (((18446744073709551615 % m : Nat) : Int) + 1) % 18446744073709551616 = ((18446744073709551615 % m + 1 : Nat) : Int) by omega, Int.tmod_eq_emod_of_nonneg (by omega), ← Int.natCast_emod]
  unfold fewF
  rw [show (18446744073709551616 : Nat) = 18446744073709551615 + 1 from rfl, Nat.mod_add_mod]

theorem contF_ge (few k : Nat) (s x : UInt64) (hx : ¬ x.toNat < few) : contF few k s x = (s, x) := by
  cases k with
  | zero => rw [contF]
  | succ k => rw [contF, if_neg hx]

theorem refbelow_fin {m : Nat} {s : UInt64} {w : World} {R : Ending → World → Prop} (hm1 : 1 ≤ m)
    (hR : Hid (∀ e w', e = Ending.returned (.tuple #[.int .u64 ((belowF s m).1.toNat : Int), .int .i64 (belowF s m).2]) ∧ Below w.heap.size w w' → R e w')) (st xx : UInt64) (W : World)
    (h1 : drawF (fewF m) s = (st, xx)) (h3 : Below w.heap.size w W) : R (.returned (.tuple #[.int .u64 (st.toNat : Int), .int .i64 ((xx.toNat : Int) % (m : Int))])) W := by
  refine hR.out _ _ ⟨?_, h3⟩
  rw [belowF_pos s m hm1, h1, Int.natCast_emod]

theorem refbelow_calls (m : Nat) (s : UInt64) (w : World) (hm1 : 1 ≤ m) (hm2 : m ≤ 9223372036854775807) : Calls Try.prog 28 #[.int .u64 (s.toNat : Int), .int .i64 (m : Int)] w fun e w' =>
    e = .returned (.tuple #[.int .u64 ((belowF s m).1.toNat : Int), .int .i64 (belowF s m).2]) ∧ Below w.heap.size w w' := by
  refine cps fun R hR => ?_
  have Hfin := hide (refbelow_fin (w := w) hm1 hR)
  clear hR
  have HF := hide (drawF_eq (fewF m) s)
  generalize drawF (fewF m) s = F at HF Hfin
  have Hfew := hide (reffew_raw m hm1 hm2)
  have h1 : ((m : Int) < 1) = False := by simp; omega
  go_enter Try.func28, Try.ntmps28
  go_wp2_with fail
  rw [Hfew.out]
  generalize hfew : fewF m = few at HF ⊢
  clear hfew
  go_loop [0, 8, 9] (fun s' x i => ∃ (j : Nat) (st xx : UInt64), j ≤ 16 ∧ i = .int .i64 (j : Int) ∧ x = .int .u64 (xx.toNat : Int) ∧ s' = .int .u64 (st.toNat : Int) ∧ (j < 16 → contF few (16 - (j + 1)) (st + stepC) (mix64 (st + stepC)) = F) ∧ (¬ j < 16 → F = (st, xx))) (fun _ _ i => 16 - (intOf i).toNat)
  case atStart => exact ⟨0, s, 0, by omega, rfl, rfl, rfl, fun _ => HF.out, fun h => absurd (by omega) h⟩
  case round =>
    obtain ⟨j, st, xx, hj1, rfl, rfl, rfl, hc1, hc2⟩ := hrel
    by_cases hj : j < 16
    · have hcont := hc1 hj
      have hcall := refnext_calls st w
      generalize mix64 (st + stepC) = x1 at hcall hcont
      generalize st + stepC = t1 at hcall hcont
      by_cases hx : x1.toNat < few
      · have HC := hide hcont
        have Hcall := hide hcall
        clear hcont hcall hc1 hc2
        go_wp2_with fail
        refine Hcall.out.mono ?_
        rintro e w1 ⟨rfl, rfl⟩
        go_wp2_with fail
        go_round
        case rel =>
          refine ⟨j + 1, t1, x1, by omega, by go_num, rfl, rfl, fun hj' => ?_, fun hj' => ?_⟩
          · rw [← contF_on few (j + 1) t1 x1 hj' hx]; exact HC.out
          · rw [← HC.out, contF_zero few (j + 1) t1 x1 hj']
        case measure => simp [intOf]; omega
      · have HFx := hide (hcont.symm.trans (contF_ge few _ t1 x1 hx))
        have Hcall := hide hcall
        clear hcont hcall hc1 hc2
        have hlt : x1.toNat % m < m := Nat.mod_lt _ (by omega)
        go_wp2_with fail
        refine Hcall.out.mono ?_
        rintro e w1 ⟨rfl, rfl⟩
        go_wp2_with fail
        refine wp_region_later (by kernel_rfl) (by kernel_rfl) ?_
        repeat (go_big_quiet_step (fail))
        refine wpQuiet_nil ?_
        intro _ hw'
        obtain ⟨⟨w1, hb1⟩, rfl⟩ := hw'
        go_wp2_with fail
        exact Hfin.out t1 x1 _ HFx.out hb1
    · have HFx := hide (hc2 hj)
      clear hc1 hc2
      have hlt : xx.toNat % m < m := Nat.mod_lt _ (by omega)
      go_wp2_with fail
      refine wp_region_later (by kernel_rfl) (by kernel_rfl) ?_
      repeat (go_big_quiet_step (fail))
      refine wpQuiet_nil ?_
      intro _ hw'
      obtain ⟨⟨w1, hb1⟩, rfl⟩ := hw'
      go_wp2_with fail
      exact Hfin.out st xx _ HFx.out hb1

theorem refbelow_none (n : Int) (s : UInt64) (w : World) (hn : n < 1) : Calls Try.prog 28 #[.int .u64 (s.toNat : Int), .int .i64 n] w fun e w' =>
    e = .returned (.tuple #[.int .u64 (s.toNat : Int), .int .i64 0]) ∧ w = w' := by
  refine cps fun R hR => ?_
  go_enter Try.func28, Try.ntmps28
  go_wp2_with fail
  exact hR.out _ _ ⟨rfl, rfl⟩
theorem refbelow_any (n : Int) (s : UInt64) (w : World) (hn : n ≤ 9223372036854775807) : Calls Try.prog 28 #[.int .u64 (s.toNat : Int), .int .i64 n] w fun e w' =>
    e = .returned (.tuple #[.int .u64 ((belowF s n).1.toNat : Int), .int .i64 (belowF s n).2]) ∧ Below w.heap.size w w' := by
  by_cases h1 : n < 1
  · refine (refbelow_none n s w h1).mono ?_
    rintro e w' ⟨rfl, rfl⟩
    have e : belowF s n = (s, 0) := by unfold belowF; rw [if_pos h1]
    rw [e]
    exact ⟨rfl, Below.refl _ _⟩
  · obtain ⟨m, rfl⟩ := Int.eq_ofNat_of_zero_le (show 0 ≤ n by omega)
    exact refbelow_calls m s w (by omega) (by omega)
end Go.Proofs.Ytcfoigebkcknnaa
