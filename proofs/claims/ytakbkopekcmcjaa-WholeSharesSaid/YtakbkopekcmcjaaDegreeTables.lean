/- DegreeTables, walked. -/
import Derived.Test.YtakbkopekcmcjaaDeg5
set_option linter.unusedVariables false
set_option linter.unusedSimpArgs false
namespace Go.Proofs.Ytakbkopekcmcjaa
open Go.RowKit

theorem belT_in {F E k : Nat} (m : May F E) (hk : k + 1 < F) : belT (belL F E (F - 1)) ((k + 1 : Nat) : Int) = (bel F E (k + 1) : Int) ∧ belB (belL F E (F - 1)) ((k + 1 : Nat) : Int) = true := by
  refine ⟨?_, ?_⟩
  · rw [belT, dif_pos (by rw [belL_len]; omega), belL_get m (by omega)]
    congr 2
  · rw [belB, belL_len, decide_eq_true_eq]; omega
theorem belT_out {F E : Nat} {i : Int} (m : May F E) (h : i < 1 ∨ (F : Int) ≤ i) : belT (belL F E (F - 1)) i = 0 ∧ belB (belL F E (F - 1)) i = false := by
  have := m.f2
  refine ⟨?_, ?_⟩
  · rw [belT, dif_neg (by rw [belL_len]; omega)]
  · rw [belB, belL_len, decide_eq_false_iff_not]; omega
set_option maxHeartbeats 4000000 in
theorem Tables_calls (N B Q E F i : Int) (w : World) : Calls Try.prog 3 #[pV N B Q E F, .int .i64 i] w fun e w' => e = .returned (.bool true) ∧ Below w.heap.size w w' := by
  refine cps fun R hR => ?_
  obtain ⟨W, hW, hb, hs, d0, d1, d2, d3, d4⟩ := box5 w N B Q E F 23
  have HW := hide hW
  have Hb := hide hb
  have c0 := fun x : Later W => later_cell d0 x
  have c1 := fun x : Later W => later_cell d1 x
  have c2 := fun x : Later W => later_cell d2 x
  have c3 := fun x : Later W => later_cell d3 x
  have c4 := fun x : Later W => later_cell d4 x
  have hsp := hide (speaks_calls W)
  clear hW hb d0 d1 d2 d3 d4
  by_cases hm : mayB N B Q E F = true
  · obtain ⟨f, e, rfl, rfl, m⟩ := may_nat hm
    have M := hide m
    have Hm := hide hm
    clear hm
    go_enter Try.func3, Try.ntmps3
    go_upto_region 1 with fail
    rw [← HW.out]
    clear HW
    go_wp2_with fail
    refine hsp.out.mono ?_
    rintro _ w1 ⟨rfl, hb1⟩
    have k0 := c0 ⟨w1, hb1⟩
    have k1 := c1 ⟨w1, hb1⟩
    have k2 := c2 ⟨w1, hb1⟩
    have k3 := c3 ⟨w1, hb1⟩
    have k4 := c4 ⟨w1, hb1⟩
    simp only [Later.v] at k0 k1 k2 k3 k4
    have hN := hide (new_calls m N B Q w1 Hm.out)
    have B1 := hide hb1
    clear hb1
    go_wp2_with fail
    refine hN.out.mono ?_
    rintro _ w2 ⟨g, rfl, hT2, hb2⟩
    have B2 := hide (below_step B1.out B1.out.size hb2)
    have k0 := c0 ⟨w2, B2.out⟩
    have k1 := c1 ⟨w2, B2.out⟩
    have k2 := c2 ⟨w2, B2.out⟩
    have k3 := c3 ⟨w2, B2.out⟩
    have k4 := c4 ⟨w2, B2.out⟩
    simp only [Later.v] at k0 k1 k2 k3 k4
    have T2 := hide hT2
    have hry := hide (refmay_calls N B Q (e : Int) (f : Int) w2)
    rw [Hm.out] at hry
    clear hb2 hT2 B1 hsp hN
    go_wp2_with fail
    refine hry.out.mono ?_
    rintro _ w3 ⟨rfl, hb3⟩
    have B3 := hide (below_step B2.out B2.out.size hb3)
    have T3 := hide (T2.out.below hb3)
    clear hry hb3 T2 B2 k0 k1 k2 k3 k4
    have k4 := later_next c4 (W' := w3) (x := ⟨w3, B3.out⟩) rfl
    go_upto_region 6 with fail
    refine wp_region_later (by kernel_rfl) (by kernel_rfl) ?_
    repeat (go_big_quiet_step ((go_at_call 12; exact later_same (most_at M.out g _ _ (T3.out.below (Later.below _))))))
    refine wpQuiet_nil ?_
    intro _ hw'
    obtain ⟨x4, rfl⟩ := hw'
    obtain ⟨w4, hw4⟩ : ∃ w4, w4 = x4.v := ⟨_, rfl⟩
    have hb4 : Below w3.heap.size w3 w4 := by rw [hw4]; exact x4.below
    rw [← hw4]
    clear hw4
    have B4 := hide (below_step B3.out B3.out.size hb4)
    have T4 := hide (T3.out.below hb4)
    have l0 := c0 ⟨w4, B4.out⟩
    have l1 := c1 ⟨w4, B4.out⟩
    have l2 := c2 ⟨w4, B4.out⟩
    have l3 := c3 ⟨w4, B4.out⟩
    have l4 := c4 ⟨w4, B4.out⟩
    simp only [Later.v] at l0 l1 l2 l3 l4
    have hfin := hide (below_step Hb.out (Nat.le_of_lt hs) B4.out)
    have hbl := hide (tbelow_calls g _ (belL f e (f - 1)) i w4 T4.out (by rw [belL_len]; have := M.out.f4; omega))
    clear hb4 B3 T3 k4 c0 c1 c2 c3 c4 m
    by_cases ho : i < 1 ∨ (f : Int) ≤ i
    · obtain ⟨x1, x2⟩ := belT_out M.out ho
      rw [x1, x2] at hbl
      clear x1 x2
      rcases ho with ho | ho
      · have t1 : decide (i < 1) = true := by simp; omega
        have Ho := hide ho
        clear ho
        go_wp2_with fail
        refine hbl.out.mono ?_
        rintro _ w5 ⟨rfl, rfl⟩
        go_wp2_with fail
        exact hR.out _ _ ⟨rfl, hfin.out⟩
      · have := M.out.f2
        have t1 : decide (i < 1) = false := by simp; omega
        have t2 : decide ((f : Int) ≤ i) = true := by simp; omega
        have Ho := hide ho
        clear ho this
        go_wp2_with fail
        refine hbl.out.mono ?_
        rintro _ w5 ⟨rfl, rfl⟩
        go_wp2_with fail
        exact hR.out _ _ ⟨rfl, hfin.out⟩
    · obtain ⟨k, rfl⟩ : ∃ k : Nat, i = ((k + 1 : Nat) : Int) := ⟨(i - 1).toNat, by omega⟩
      have hk : k + 1 < f := by omega
      obtain ⟨x1, x2⟩ := belT_in M.out hk
      rw [x1, x2] at hbl
      have hrb := hide (refbel_calls M.out N B Q k w4 hk)
      clear x1 x2 ho
      generalize bel f e (k + 1) = b at *
      obtain ⟨i, hi⟩ : ∃ i, i = k + 1 := ⟨_, rfl⟩
      rw [← hi] at hbl hrb ⊢
      have t1 : decide ((i : Int) < 1) = false := by simp; omega
      have t2 : decide (f ≤ i) = false := by simp; omega
      have Hi := hide hi
      clear hi hk
      go_wp2_with fail
      refine hbl.out.mono ?_
      rintro _ w5 ⟨rfl, rfl⟩
      go_wp2_with fail
      refine hrb.out.mono ?_
      rintro _ w6 ⟨rfl, hb6⟩
      go_wp2_with fail
      exact hR.out _ _ ⟨rfl, below_step Hb.out (Nat.le_of_lt hs) (below_step B4.out B4.out.size hb6)⟩
  · have hm : mayB N B Q E F = false := by simpa using hm
    have Hm := hide hm
    clear hm
    go_enter Try.func3, Try.ntmps3
    go_upto_region 1 with fail
    rw [← HW.out]
    clear HW
    go_wp2_with fail
    refine hsp.out.mono ?_
    rintro _ w1 ⟨rfl, hb1⟩
    have k0 := c0 ⟨w1, hb1⟩
    have k1 := c1 ⟨w1, hb1⟩
    have k2 := c2 ⟨w1, hb1⟩
    have k3 := c3 ⟨w1, hb1⟩
    have k4 := c4 ⟨w1, hb1⟩
    simp only [Later.v] at k0 k1 k2 k3 k4
    have hN := hide (newbad_calls N B Q E F w1 Hm.out)
    have B1 := hide hb1
    clear hb1
    go_wp2_with fail
    refine hN.out.mono ?_
    rintro _ w2 ⟨rfl, hb2⟩
    have B2 := hide (below_step B1.out B1.out.size hb2)
    have k0 := c0 ⟨w2, B2.out⟩
    have k1 := c1 ⟨w2, B2.out⟩
    have k2 := c2 ⟨w2, B2.out⟩
    have k3 := c3 ⟨w2, B2.out⟩
    have k4 := c4 ⟨w2, B2.out⟩
    simp only [Later.v] at k0 k1 k2 k3 k4
    have hry := hide (refmay_calls N B Q E F w2)
    rw [Hm.out] at hry
    clear hb2 B1 hsp hN
    go_wp2_with fail
    refine hry.out.mono ?_
    rintro _ w3 ⟨rfl, hb3⟩
    go_wp2_with fail
    exact hR.out _ _ ⟨rfl, below_step Hb.out (Nat.le_of_lt hs) (below_step B2.out B2.out.size hb3)⟩
end Go.Proofs.Ytakbkopekcmcjaa
