/- DegreeMore, walked. -/
import Derived.Test.YtakbkopekcmcjaaDegreeTables
set_option linter.unusedVariables false
set_option linter.unusedSimpArgs false
namespace Go.Proofs.Ytakbkopekcmcjaa
open Go.RowKit

/-- What the two tables say of a degree and the next. -/
theorem more_math {f e e' : Nat} (m : May f e) (m' : May f e') (hE : e ≤ e') (i : Int) (hi1 : -9223372036854775808 ≤ i) (hi2 : i ≤ 9223372036854775807) :
    ∃ (a b c : Int) (ok inn : Bool), belT (belL f e (f - 1)) i = a ∧ belB (belL f e (f - 1)) i = ok ∧ belT (belL f e' (f - 1)) i = b ∧ belB (belL f e' (f - 1)) i = ok ∧ belT (belL f e (f - 1)) (wrap64 (i + 1)) = c ∧ belB (belL f e (f - 1)) (wrap64 (i + 1)) = inn ∧ a ≤ b ∧ (ok = false ∨ inn = false ∨ a < c) := by
  have h4 := m.f4
  by_cases ho : i < 1 ∨ (f : Int) ≤ i
  · obtain ⟨x1, x2⟩ := belT_out m ho
    obtain ⟨x3, x4⟩ := belT_out m' ho
    exact ⟨_, _, _, _, _, x1, x2, x3, x4, rfl, rfl, by omega, .inl rfl⟩
  · obtain ⟨k, rfl⟩ : ∃ k : Nat, i = ((k + 1 : Nat) : Int) := ⟨(i - 1).toNat, by omega⟩
    have hk : k + 1 < f := by omega
    obtain ⟨x1, x2⟩ := belT_in m hk
    obtain ⟨x3, x4⟩ := belT_in m' hk
    have hw : wrap64 (((k + 1 : Nat) : Int) + 1) = ((k + 1 + 1 : Nat) : Int) := by rw [IntWalk.wrap64_in _ ⟨by omega, by omega⟩]; omega
    have hab := bel_more m m' hE (show 1 ≤ k + 1 by omega) hk
    refine ⟨_, _, _, _, _, x1, x2, x3, x4, rfl, rfl, by omega, ?_⟩
    rw [hw]
    by_cases h2 : k + 1 + 1 < f
    · obtain ⟨x5, x6⟩ := belT_in m h2
      have := bel_lt m (show 1 ≤ k + 1 by omega) h2
      exact .inr (.inr (by rw [x5]; omega))
    · obtain ⟨x5, x6⟩ := belT_out (i := ((k + 1 + 1 : Nat) : Int)) m (.inr (by omega))
      exact .inr (.inl x6)

set_option maxHeartbeats 4000000 in
theorem More_calls (N B Q E F by' i : Int) (w : World) (hy1 : 0 ≤ by') (hy2 : by' ≤ 65535) (hi1 : -9223372036854775808 ≤ i) (hi2 : i ≤ 9223372036854775807) : Calls Try.prog 6 #[pV N B Q E F, .int .u16 by', .int .i64 i] w fun e w' => e = .returned (.bool true) ∧ Below w.heap.size w w' := by
  refine cps fun R hR => ?_
  obtain ⟨W, hW, hb, hs, d0, d1, d2, d3, d4⟩ := box5 w N B Q E F 23
  have HW := hide hW
  have Hb := hide hb
  have c0 := fun x : Later W => later_cell d0 x
  have c1 := fun x : Later W => later_cell d1 x
  have c2 := fun x : Later W => later_cell d2 x
  have c3 := fun x : Later W => later_cell d3 x
  have c4 := fun x : Later W => later_cell d4 x
  have hsp := hide (speaks_calls W)
  have Hy := hide (show 0 ≤ by' ∧ by' ≤ 65535 from ⟨hy1, hy2⟩)
  have hwy : wrap64 by' = by' := IntWalk.wrap64_in _ ⟨by omega, by omega⟩
  have Hi := hide (show -9223372036854775808 ≤ i ∧ i ≤ 9223372036854775807 from ⟨hi1, hi2⟩)
  clear hW hb d0 d1 d2 d3 d4 hy1 hy2 hi1 hi2
  go_enter Try.func6, Try.ntmps6
  go_upto_region 1 with fail
  rw [← HW.out]
  clear HW
  go_wp2_with fail
  refine hsp.out.mono ?_
  rintro _ w1 ⟨rfl, hb1⟩
  have k0 := c0 ⟨w1, hb1⟩
  have k1 := c1 ⟨w1, hb1⟩
  have k2 := c2 ⟨w1, hb1⟩
  have k3 := c3 ⟨w1, hb1⟩
  have k4 := c4 ⟨w1, hb1⟩
  simp only [Later.v] at k0 k1 k2 k3 k4
  have hz : w.heap.size < w1.heap.size := Nat.lt_of_lt_of_le hs hb1.size
  have B1 := hide hb1
  clear hb1 hsp
  go_upto_region 5 with fail
  obtain ⟨E2, hE2⟩ : ∃ E2, E2 = wrap64 (E + by') := ⟨_, rfl⟩
  rw [← hE2]
  obtain ⟨W2, hW2, hb2, hs2, d0, d1, d2, d3, d4⟩ := box5 w1 N B Q E2 F 23
  rw [← hW2]
  have q0 := fun x : Later W2 => later_cell d0 x
  have q1 := fun x : Later W2 => later_cell d1 x
  have q2 := fun x : Later W2 => later_cell d2 x
  have q3 := fun x : Later W2 => later_cell d3 x
  have q4 := fun x : Later W2 => later_cell d4 x
  have HE2 := hide hE2
  have B2 := hide (below_step B1.out B1.out.size hb2)
  generalize w1.heap.size = qb at *
  clear hwy hE2 hW2 hb2 d0 d1 d2 d3 d4 k0 k1 k2 k3 k4 B1
  have p0 := later_next c0 (W' := W2) (x := ⟨W2, B2.out⟩) rfl
  have p1 := later_next c1 (W' := W2) (x := ⟨W2, B2.out⟩) rfl
  have p2 := later_next c2 (W' := W2) (x := ⟨W2, B2.out⟩) rfl
  have p3 := later_next c3 (W' := W2) (x := ⟨W2, B2.out⟩) rfl
  have p4 := later_next c4 (W' := W2) (x := ⟨W2, B2.out⟩) rfl
  clear c0 c1 c2 c3 c4
  have k0 := p0 ⟨W2, Below.refl _ _⟩
  have k1 := p1 ⟨W2, Below.refl _ _⟩
  have k2 := p2 ⟨W2, Below.refl _ _⟩
  have k3 := p3 ⟨W2, Below.refl _ _⟩
  have k4 := p4 ⟨W2, Below.refl _ _⟩
  simp only [Later.v] at k0 k1 k2 k3 k4
  have l0 := q0 ⟨W2, Below.refl _ _⟩
  have l1 := q1 ⟨W2, Below.refl _ _⟩
  have l2 := q2 ⟨W2, Below.refl _ _⟩
  have l3 := q3 ⟨W2, Below.refl _ _⟩
  have l4 := q4 ⟨W2, Below.refl _ _⟩
  simp only [Later.v] at l0 l1 l2 l3 l4
  have hry := hide (refmay_calls N B Q E F W2)
  go_wp2_with fail
  refine hry.out.mono ?_
  rintro _ w3 ⟨rfl, hb3⟩
  have B3 := hide hb3
  clear hb3 hry k0 k1 k2 k3 k4 l0 l1 l2 l3 l4
  have k0 := p0 ⟨w3, B3.out⟩
  have k1 := p1 ⟨w3, B3.out⟩
  have k2 := p2 ⟨w3, B3.out⟩
  have k3 := p3 ⟨w3, B3.out⟩
  have k4 := p4 ⟨w3, B3.out⟩
  simp only [Later.v] at k0 k1 k2 k3 k4
  have l0 := q0 ⟨w3, B3.out⟩
  have l1 := q1 ⟨w3, B3.out⟩
  have l2 := q2 ⟨w3, B3.out⟩
  have l3 := q3 ⟨w3, B3.out⟩
  have l4 := q4 ⟨w3, B3.out⟩
  simp only [Later.v] at l0 l1 l2 l3 l4
  by_cases hm : mayB N B Q E F = true
  · have hry2 := hide (refmay_calls N B Q E2 F w3)
    have Hm := hide hm
    rw [hm]
    clear hm
    go_wp2_with fail
    refine hry2.out.mono ?_
    rintro _ w4 ⟨rfl, hb4⟩
    have B4 := hide (below_step B3.out B3.out.size hb4)
    clear hb4 hry2 k0 k1 k2 k3 k4 l0 l1 l2 l3 l4 B3
    have k0 := p0 ⟨w4, B4.out⟩
    have k1 := p1 ⟨w4, B4.out⟩
    have k2 := p2 ⟨w4, B4.out⟩
    have k3 := p3 ⟨w4, B4.out⟩
    have k4 := p4 ⟨w4, B4.out⟩
    simp only [Later.v] at k0 k1 k2 k3 k4
    have l0 := q0 ⟨w4, B4.out⟩
    have l1 := q1 ⟨w4, B4.out⟩
    have l2 := q2 ⟨w4, B4.out⟩
    have l3 := q3 ⟨w4, B4.out⟩
    have l4 := q4 ⟨w4, B4.out⟩
    simp only [Later.v] at l0 l1 l2 l3 l4
    have hfin := hide (below_step Hb.out (Nat.le_of_lt hs) (below_step B2.out B2.out.size B4.out))
    by_cases hm2 : mayB N B Q E2 F = true
    · obtain ⟨f, e, rfl, rfl, m⟩ := may_nat Hm.out
      obtain ⟨f2, e', hf2, rfl, m'⟩ := may_nat hm2
      obtain rfl : f = f2 := by omega
      have hee : e ≤ e' := by
        have h1 := HE2.out
        have h2 := Hy.out
        have h3 := m.e2
        rw [IntWalk.wrap64_in _ ⟨by omega, by omega⟩] at h1
        omega
      have Hm2 := hide hm2
      rw [hm2]
      obtain ⟨a, b, c, ok, inn, y1, y2, y3, y4, y5, y6, y7, y8⟩ := more_math m m' hee i Hi.out.1 Hi.out.2
      have hN1 := hide (new_calls m N B Q w4 Hm.out)
      have M := hide m
      have M' := hide m'
      have Y := hide (show belT (belL f e (f - 1)) i = a ∧ belB (belL f e (f - 1)) i = ok ∧ belT (belL f e' (f - 1)) i = b ∧ belB (belL f e' (f - 1)) i = ok ∧ belT (belL f e (f - 1)) (wrap64 (i + 1)) = c ∧ belB (belL f e (f - 1)) (wrap64 (i + 1)) = inn from ⟨y1, y2, y3, y4, y5, y6⟩)
      have Y7 := hide y7
      have Y8 := hide y8
      clear hm2 hf2 m m' hee y1 y2 y3 y4 y5 y6 y7 y8 HE2 Hy Hi
      go_wp2_with fail
      refine hN1.out.mono ?_
      rintro _ w5 ⟨g1, rfl, hT5, hb5⟩
      have T5 := hide hT5
      have B5 := hide (below_step B4.out B4.out.size hb5)
      clear hT5 hb5 hN1 k0 k1 k2 k3 k4 l0 l1 l2 l3 l4 B4
      have l0 := q0 ⟨w5, B5.out⟩
      have l1 := q1 ⟨w5, B5.out⟩
      have l2 := q2 ⟨w5, B5.out⟩
      have l3 := q3 ⟨w5, B5.out⟩
      have l4 := q4 ⟨w5, B5.out⟩
      simp only [Later.v] at l0 l1 l2 l3 l4
      have hN2 := hide (new_calls M'.out N B Q w5 Hm2.out)
      go_wp2_with fail
      refine hN2.out.mono ?_
      rintro _ w6 ⟨g2, rfl, hT6, hb6⟩
      have T6 := hide hT6
      have T5' := hide (T5.out.below hb6)
      have B6 := hide (below_step Hb.out (Nat.le_of_lt hs) (below_step B2.out B2.out.size (below_step B5.out B5.out.size hb6)))
      have hl : ∀ z, (belL f z (f - 1)).length ≤ 1000000 := fun z => by rw [belL_len]; have := M.out.f4; omega
      have r1 := hide (tbelow_calls g1 _ (belL f e (f - 1)) i w6 T5'.out (hl e))
      have r2 := hide (tbelow_calls g2 _ (belL f e' (f - 1)) i w6 T6.out (hl e'))
      have r3 := hide (tbelow_calls g1 _ (belL f e (f - 1)) (wrap64 (i + 1)) w6 T5'.out (hl e))
      have r4 := hide (most_at M.out g1 _ w6 T5'.out)
      have r5 := hide (most_at M'.out g2 _ w6 T6.out)
      rw [Y.out.1, Y.out.2.1] at r1
      rw [Y.out.2.2.1, Y.out.2.2.2.1] at r2
      rw [Y.out.2.2.2.2.1, Y.out.2.2.2.2.2] at r3
      clear hT6 hb6 hN2 l0 l1 l2 l3 l4 p0 p1 p2 p3 p4 q0 q1 q2 q3 q4 T5 hfin hl
      go_wp2_with fail
      refine r1.out.mono ?_
      rintro _ w7 ⟨rfl, rfl⟩
      go_wp2_with fail
      refine r2.out.mono ?_
      rintro _ w7 ⟨rfl, rfl⟩
      go_wp2_with fail
      refine r3.out.mono ?_
      rintro _ w7 ⟨rfl, rfl⟩
      have t1 : decide (a ≤ b) = true := by simp; exact Y7.out
      rcases Y8.out with rfl | rfl | hlt
      · go_wp2_with fail
        refine r4.out.mono ?_
        rintro _ w7 ⟨rfl, rfl⟩
        go_wp2_with fail
        refine r5.out.mono ?_
        rintro _ w7 ⟨rfl, rfl⟩
        go_wp2_with fail
        exact hR.out _ _ ⟨rfl, B6.out⟩
      · cases ok
        all_goals
          go_wp2_with fail
          refine r4.out.mono ?_
          rintro _ w7 ⟨rfl, rfl⟩
          go_wp2_with fail
          refine r5.out.mono ?_
          rintro _ w7 ⟨rfl, rfl⟩
          go_wp2_with fail
          exact hR.out _ _ ⟨rfl, B6.out⟩
      · have t2 : decide (a < c) = true := by simp; exact hlt
        clear hlt
        cases ok <;> cases inn
        all_goals
          go_wp2_with fail
          refine r4.out.mono ?_
          rintro _ w7 ⟨rfl, rfl⟩
          go_wp2_with fail
          refine r5.out.mono ?_
          rintro _ w7 ⟨rfl, rfl⟩
          go_wp2_with fail
          exact hR.out _ _ ⟨rfl, B6.out⟩
    · have hm2 : mayB N B Q E2 F = false := by simpa using hm2
      rw [hm2]
      clear hm2 p0 p1 p2 p3 p4 q0 q1 q2 q3 q4
      go_wp2_with fail
      exact hR.out _ _ ⟨rfl, hfin.out⟩
  · have hm : mayB N B Q E F = false := by simpa using hm
    rw [hm]
    clear hm p0 p1 p2 p3 p4 q0 q1 q2 q3 q4
    go_wp2_with fail
    exact hR.out _ _ ⟨rfl, below_step Hb.out (Nat.le_of_lt hs) (below_step B2.out B2.out.size B3.out)⟩
end Go.Proofs.Ytakbkopekcmcjaa
