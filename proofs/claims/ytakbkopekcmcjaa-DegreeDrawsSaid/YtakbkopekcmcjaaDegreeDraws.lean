/- DegreeDraws, walked. -/
import Derived.Test.YtakbkopekcmcjaaDeg5
set_option linter.unusedVariables false
set_option linter.unusedSimpArgs false
namespace Go.Proofs.Ytakbkopekcmcjaa
open Go.RowKit

set_option maxHeartbeats 4000000 in
theorem DDraws_calls (N B Q E F : Int) (u : Nat) (w : World) : Calls Try.prog 4 #[pV N B Q E F, .int .u64 (u : Int)] w fun e w' => e = .returned (.bool true) ∧ Below w.heap.size w w' := by
  refine cps fun R hR => ?_
  obtain ⟨W, hW, hb, hs, d0, d1, d2, d3, d4⟩ := box5 w N B Q E F 23
  have HW := hide hW
  have Hb := hide hb
  have c0 := fun x : Later W => later_cell d0 x
  have c1 := fun x : Later W => later_cell d1 x
  have c2 := fun x : Later W => later_cell d2 x
  have c3 := fun x : Later W => later_cell d3 x
  have c4 := fun x : Later W => later_cell d4 x
  have hsp := hide (speaks_calls W)
  clear hW hb d0 d1 d2 d3 d4
  go_enter Try.func4, Try.ntmps4
  go_upto_region 1 with fail
  rw [← HW.out]
  clear HW
  go_wp2_with fail
  refine hsp.out.mono ?_
  rintro _ w1 ⟨rfl, hb1⟩
  have k0 := c0 ⟨w1, hb1⟩
  have k1 := c1 ⟨w1, hb1⟩
  have k2 := c2 ⟨w1, hb1⟩
  have k3 := c3 ⟨w1, hb1⟩
  have k4 := c4 ⟨w1, hb1⟩
  simp only [Later.v] at k0 k1 k2 k3 k4
  have B1 := hide hb1
  have hry := hide (refmay_calls N B Q E F w1)
  clear hb1 hsp
  go_wp2_with fail
  refine hry.out.mono ?_
  rintro _ w2 ⟨rfl, hb2⟩
  have B2 := hide (below_step B1.out B1.out.size hb2)
  clear hb2 B1 hry
  have k0 := c0 ⟨w2, B2.out⟩
  have k1 := c1 ⟨w2, B2.out⟩
  have k2 := c2 ⟨w2, B2.out⟩
  have k3 := c3 ⟨w2, B2.out⟩
  have k4 := c4 ⟨w2, B2.out⟩
  simp only [Later.v] at k0 k1 k2 k3 k4
  have hfin := hide (below_step Hb.out (Nat.le_of_lt hs) B2.out)
  by_cases hm : mayB N B Q E F = true
  · obtain ⟨f, e, rfl, rfl, m⟩ := may_nat hm
    have M := hide m
    have Hm := hide hm
    rw [hm]
    clear hm
    by_cases hF : (200 : Int) < (f : Int)
    · have t1 : decide ((200 : Int) < (f : Int)) = true := by simp; omega
      have HF := hide hF
      clear hF m c0 c1 c2 c3 c4
      go_wp2_with fail
      exact hR.out _ _ ⟨rfl, hfin.out⟩
    · have t1 : decide ((200 : Int) < (f : Int)) = false := by simp; omega
      have hN := hide (new_calls m N B Q w2 Hm.out)
      obtain ⟨d, hd⟩ := of_exists m u
      have Hd := hide hd
      clear hF hd
      go_wp2_with fail
      refine hN.out.mono ?_
      rintro _ w3 ⟨g, rfl, hT3, hb3⟩
      have T3 := hide hT3
      have B3 := hide (below_step B2.out B2.out.size hb3)
      have k0 := later_next c0 (W' := w3) (x := ⟨w3, B3.out⟩) rfl
      have k1 := later_next c1 (W' := w3) (x := ⟨w3, B3.out⟩) rfl
      have k2 := later_next c2 (W' := w3) (x := ⟨w3, B3.out⟩) rfl
      have k3 := later_next c3 (W' := w3) (x := ⟨w3, B3.out⟩) rfl
      have k4 := later_next c4 (W' := w3) (x := ⟨w3, B3.out⟩) rfl
      clear hT3 hb3 hN m
      go_upto_region 6 with fail
      clear c0 c1 c2 c3 c4
      refine wp_region_later (by kernel_rfl) (by kernel_rfl) ?_
      repeat (go_big_quiet_step ((first | (go_at_call 15; exact later_call (of_at M.out g _ u d _ (T3.out.below (Later.below _)) Hd.out)) | (go_at_call 16; exact later_call (refof_at M.out N B Q u d _ Hd.out)))))
      refine wpQuiet_nil ?_
      intro _ hw'
      obtain ⟨x4, rfl⟩ := hw'
      go_wp2_with fail
      exact hR.out _ _ ⟨rfl, below_step Hb.out (Nat.le_of_lt hs) (below_step B3.out B3.out.size x4.below)⟩
  · have hm : mayB N B Q E F = false := by simpa using hm
    rw [hm]
    clear hm c0 c1 c2 c3 c4
    go_wp2_with fail
    exact hR.out _ _ ⟨rfl, hfin.out⟩
end Go.Proofs.Ytakbkopekcmcjaa
