/- DegreeRises, walked. -/
import Derived.Test.YtakbkopekcmcjaaDegreeMore
import Derived.Deep.RegionHeld
set_option linter.unusedVariables false
set_option linter.unusedSimpArgs false
namespace Go.Proofs.Ytakbkopekcmcjaa
open Go.RowKit

theorem boxP (w : World) (N B Q E F i : Int) (u v : Nat) (t : TypeId) : ∃ W, W = w.alloc (.cells #[.int .i64 N, .int .i64 B, .int .i64 Q, .int .i64 E, .int .i64 F, .int .u64 (u : Int), .int .u64 (v : Int), .int .i64 i] t) ∧ Below w.heap.size w W ∧ w.heap.size < W.heap.size ∧
    W.cell? ⟨w.heap.size, 0, none⟩ = some (.int .i64 N) ∧ W.cell? ⟨w.heap.size, 1, none⟩ = some (.int .i64 B) ∧ W.cell? ⟨w.heap.size, 2, none⟩ = some (.int .i64 Q) ∧ W.cell? ⟨w.heap.size, 3, none⟩ = some (.int .i64 E) ∧ W.cell? ⟨w.heap.size, 4, none⟩ = some (.int .i64 F) ∧
    W.cell? ⟨w.heap.size, 5, none⟩ = some (.int .u64 (u : Int)) ∧ W.cell? ⟨w.heap.size, 6, none⟩ = some (.int .u64 (v : Int)) ∧ W.cell? ⟨w.heap.size, 7, none⟩ = some (.int .i64 i) :=
  ⟨_, rfl, (Below.refl _ _).alloc (Nat.le_refl _) _, by simp, by simp [go_sem], by simp [go_sem], by simp [go_sem], by simp [go_sem], by simp [go_sem], by simp [go_sem], by simp [go_sem], by simp [go_sem]⟩

set_option maxHeartbeats 4000000 in
theorem Rises_calls (N B Q E F i : Int) (u v : Nat) (w : World) (hi1 : -9223372036854775808 ≤ i) (hi2 : i ≤ 9223372036854775807) (hu : u < 18446744073709551616) (hv : v < 18446744073709551616) :
    Calls Try.prog 5 #[.agg #[.int .i64 N, .int .i64 B, .int .i64 Q, .int .i64 E, .int .i64 F, .int .u64 (u : Int), .int .u64 (v : Int), .int .i64 i]] w fun e w' => e = .returned (.bool true) ∧ Below w.heap.size w w' := by
  refine cps fun R hR => ?_
  obtain ⟨W, hW, hb, hs, d0, d1, d2, d3, d4, d5, d6, d7⟩ := boxP w N B Q E F i u v 40
  have HW := hide hW
  have Hb := hide hb
  have hsp := hide (speaks_calls W)
  have Hi := hide (show -9223372036854775808 ≤ i ∧ i ≤ 9223372036854775807 from ⟨hi1, hi2⟩)
  have Huv := hide (show u < 18446744073709551616 ∧ v < 18446744073709551616 from ⟨hu, hv⟩)
  clear hW hb hi1 hi2 hu hv
  go_enter Try.func5, Try.ntmps5
  go_upto_region 1 with fail
  rw [← HW.out]
  clear HW
  go_wp2_with fail
  refine hsp.out.mono ?_
  rintro _ w1 ⟨rfl, hb1⟩
  have k0 := (hb1.cell hs).trans d0
  have k1 := (hb1.cell hs).trans d1
  have k2 := (hb1.cell hs).trans d2
  have k3 := (hb1.cell hs).trans d3
  have k4 := (hb1.cell hs).trans d4
  have k5 := (hb1.cell hs).trans d5
  have k6 := (hb1.cell hs).trans d6
  have k7 := (hb1.cell hs).trans d7
  have hz : w.heap.size < w1.heap.size := Nat.lt_of_lt_of_le hs hb1.size
  have B1 := hide hb1
  clear hb1 hsp d0 d1 d2 d3 d4 d5 d6 d7
  go_upto_region 3 with fail
  generalize w.heap.size = b at *
  go_region_held (fun x => x.cell? ⟨b, 0, none⟩ = some (.int .i64 N) ∧ x.cell? ⟨b, 1, none⟩ = some (.int .i64 B) ∧ x.cell? ⟨b, 2, none⟩ = some (.int .i64 Q) ∧ x.cell? ⟨b, 3, none⟩ = some (.int .i64 E) ∧ x.cell? ⟨b, 4, none⟩ = some (.int .i64 F) ∧ x.cell? ⟨b, 5, none⟩ = some (.int .u64 (u : Int)) ∧ x.cell? ⟨b, 6, none⟩ = some (.int .u64 (v : Int)) ∧ x.cell? ⟨b, 7, none⟩ = some (.int .i64 i)) (go_keep) (fail)
  obtain ⟨W2, hW2, hb2, hs2, d0, d1, d2, d3, d4⟩ := box5 w1 N B Q E F 23
  obtain ⟨W3, hW3⟩ : ∃ W3, W3 = W2.drew := ⟨_, rfl⟩
  rw [← hW2, ← hW3]
  have q0 : ∀ x : Later W3, x.v.cell? ⟨w1.heap.size, 0, none⟩ = some (.int .i64 N) := fun x => later_cell (by rw [hW3]; simpa using d0) x
  have q1 : ∀ x : Later W3, x.v.cell? ⟨w1.heap.size, 1, none⟩ = some (.int .i64 B) := fun x => later_cell (by rw [hW3]; simpa using d1) x
  have q2 : ∀ x : Later W3, x.v.cell? ⟨w1.heap.size, 2, none⟩ = some (.int .i64 Q) := fun x => later_cell (by rw [hW3]; simpa using d2) x
  have q3 : ∀ x : Later W3, x.v.cell? ⟨w1.heap.size, 3, none⟩ = some (.int .i64 E) := fun x => later_cell (by rw [hW3]; simpa using d3) x
  have q4 : ∀ x : Later W3, x.v.cell? ⟨w1.heap.size, 4, none⟩ = some (.int .i64 F) := fun x => later_cell (by rw [hW3]; simpa using d4) x
  have hb3 : Below w1.heap.size w1 W3 := by rw [hW3]; exact hb2.drew
  have B3 := hide (below_step B1.out B1.out.size hb3)
  generalize w1.heap.size = qb at *
  clear hW2 hb2 d0 d1 d2 d3 d4 k0 k1 k2 k3 k4 k5 k6 k7 B1 hW3 hb3
  have l0 := q0 ⟨W3, Below.refl _ _⟩
  have l1 := q1 ⟨W3, Below.refl _ _⟩
  have l2 := q2 ⟨W3, Below.refl _ _⟩
  have l3 := q3 ⟨W3, Below.refl _ _⟩
  have l4 := q4 ⟨W3, Below.refl _ _⟩
  simp only [Later.v] at l0 l1 l2 l3 l4
  have hry := hide (refmay_calls N B Q E F W3)
  go_wp2_with fail
  refine hry.out.mono ?_
  rintro _ w4 ⟨rfl, hb4⟩
  have B4 := hide hb4
  clear hb4 hry l0 l1 l2 l3 l4
  have l0 := q0 ⟨w4, B4.out⟩
  have l1 := q1 ⟨w4, B4.out⟩
  have l2 := q2 ⟨w4, B4.out⟩
  have l3 := q3 ⟨w4, B4.out⟩
  have l4 := q4 ⟨w4, B4.out⟩
  simp only [Later.v] at l0 l1 l2 l3 l4
  have hfin := hide (below_step Hb.out (Nat.le_of_lt hs) (below_step B3.out B3.out.size B4.out))
  by_cases hm : mayB N B Q E F = true
  · obtain ⟨f, e, rfl, rfl, m⟩ := may_nat hm
    have Hm := hide hm
    rw [hm]
    have hN := hide (new_calls m N B Q w4 hm)
    have M := hide m
    clear hm m
    go_wp2_with fail
    refine hN.out.mono ?_
    rintro _ w5 ⟨g, rfl, hT5, hb5⟩
    have T5 := hide hT5
    have B5 := hide (below_step B4.out B4.out.size hb5)
    clear hT5 hb5 hN l0 l1 l2 l3 l4 B4
    have l0 := q0 ⟨w5, B5.out⟩
    have l1 := q1 ⟨w5, B5.out⟩
    have l2 := q2 ⟨w5, B5.out⟩
    have l3 := q3 ⟨w5, B5.out⟩
    have l4 := q4 ⟨w5, B5.out⟩
    simp only [Later.v] at l0 l1 l2 l3 l4
    obtain ⟨d1, hd1⟩ := of_exists M.out u
    obtain ⟨d2, hd2⟩ := of_exists M.out v
    have Hd1 := hide hd1
    have Hd2 := hide hd2
    have ho1 := hide (of_at M.out g _ u d1 w5 T5.out hd1)
    have Hmon := hide (show (u ≤ v → d1 ≤ d2) ∧ (v ≤ u → d2 ≤ d1) from ⟨fun h => hd1.le_of hd2 h, fun h => hd2.le_of hd1 h⟩)
    clear hd1 hd2
    go_wp2_with fail
    refine ho1.out.mono ?_
    rintro _ w6 ⟨rfl, hb6⟩
    have T6 := hide (T5.out.below hb6)
    have B6 := hide (below_step B5.out B5.out.size hb6)
    clear hb6 ho1 l0 l1 l2 l3 l4 T5 B5
    have l0 := q0 ⟨w6, B6.out⟩
    have l1 := q1 ⟨w6, B6.out⟩
    have l2 := q2 ⟨w6, B6.out⟩
    have l3 := q3 ⟨w6, B6.out⟩
    have l4 := q4 ⟨w6, B6.out⟩
    simp only [Later.v] at l0 l1 l2 l3 l4
    have ho2 := hide (of_at M.out g _ v d2 w6 T6.out Hd2.out)
    go_wp2_with fail
    refine ho2.out.mono ?_
    rintro _ w7 ⟨rfl, hb7⟩
    have T7 := hide (T6.out.below hb7)
    have B7 := hide (below_step B6.out B6.out.size hb7)
    clear hb7 ho2 l0 l1 l2 l3 l4 T6 B6
    have l0 := q0 ⟨w7, B7.out⟩
    have l1 := q1 ⟨w7, B7.out⟩
    have l2 := q2 ⟨w7, B7.out⟩
    have l3 := q3 ⟨w7, B7.out⟩
    have l4 := q4 ⟨w7, B7.out⟩
    simp only [Later.v] at l0 l1 l2 l3 l4
    have hfin7 := hide (below_step Hb.out (Nat.le_of_lt hs) (below_step B3.out B3.out.size B7.out))
    have hle7 := hide (Nat.le_trans (Nat.le_of_lt hs) (Nat.le_trans B3.out.size B7.out.size))
    have s1 : decide ((d1 : Int) < 1) = false := by have := Hd1.out.le; simp; omega
    have s2 : decide (f < d1) = false := by have := Hd1.out.most; simp; omega
    have s3 : decide ((d2 : Int) < 1) = false := by have := Hd2.out.le; simp; omega
    have s4 : decide (f < d2) = false := by have := Hd2.out.most; simp; omega
    have s5 : u ≤ v ∨ v ≤ u := by omega
    have hbl := hide (tbelow_calls g _ (belL f e (f - 1)) i w7 T7.out (by rw [belL_len]; have := M.out.f4; omega))
    clear s5
    by_cases ho : i < 1 ∨ (f : Int) ≤ i
    · obtain ⟨y1, y2⟩ := belT_out M.out ho
      rw [y1, y2] at hbl
      clear y1 y2 ho
      by_cases h1 : u ≤ v
      · by_cases h2 : v ≤ u
        · have x1 : decide (u ≤ v) = true := by simp; omega
          have x2 : decide (d2 < d1) = false := by have := Hmon.out.1 h1; simp; omega
          have x3 : decide (v ≤ u) = true := by simp; omega
          have x4 : decide (d1 < d2) = false := by have := Hmon.out.2 h2; simp; omega
          clear h1 h2
          go_wp2_with fail
          refine hbl.out.mono ?_
          rintro _ w8 ⟨rfl, rfl⟩
          go_wp2_with fail
          exact hR.out _ _ ⟨rfl, hfin7.out⟩
        · have x1 : decide (u ≤ v) = true := by simp; omega
          have x2 : decide (d2 < d1) = false := by have := Hmon.out.1 h1; simp; omega
          have x3 : decide (v ≤ u) = false := by simp; omega
          clear h1 h2
          go_wp2_with fail
          refine hbl.out.mono ?_
          rintro _ w8 ⟨rfl, rfl⟩
          go_wp2_with fail
          exact hR.out _ _ ⟨rfl, hfin7.out⟩
      · have h2 : v ≤ u := by omega
        have x1 : decide (u ≤ v) = false := by simp; omega
        have x3 : decide (v ≤ u) = true := by simp; omega
        have x4 : decide (d1 < d2) = false := by have := Hmon.out.2 h2; simp; omega
        clear h1 h2
        go_wp2_with fail
        refine hbl.out.mono ?_
        rintro _ w8 ⟨rfl, rfl⟩
        go_wp2_with fail
        exact hR.out _ _ ⟨rfl, hfin7.out⟩
    · obtain ⟨k, rfl⟩ : ∃ k : Nat, i = ((k + 1 : Nat) : Int) := ⟨(i - 1).toNat, by omega⟩
      have hk : k + 1 < f := by omega
      obtain ⟨y1, y2⟩ := belT_in M.out hk
      rw [y1, y2] at hbl
      have hn0 := bel_pos M.out (show 1 ≤ k + 1 by omega) hk
      have hn1 := bel_bd M.out (show 1 ≤ k + 1 by omega) hk
      obtain ⟨da, hda⟩ := of_exists M.out (bel f e (k + 1) - 1)
      obtain ⟨db, hdb⟩ := of_exists M.out (bel f e (k + 1))
      have hda' : da ≤ k + 1 := by
        refine Nat.le_of_not_lt fun h => ?_
        have := hda.lo (k + 1) (by omega) h
        omega
      have hdb' : k + 1 < db := by
        refine Nat.lt_of_not_le fun h => ?_
        have := hdb.hi (by omega)
        have := bel_mono M.out hdb.le h hk
        omega
      have hoa := hide (of_at M.out g _ (bel f e (k + 1) - 1) da w7 T7.out hda)
      have Hdb := hide hdb
      generalize hnn : bel f e (k + 1) = n at *
      obtain ⟨n1, hn1'⟩ : ∃ n1, n1 = n - 1 := ⟨_, rfl⟩
      rw [← hn1'] at hoa
      have z1 : IntKind.u64.wrap ((n : Int) - 1) = (n1 : Int) := w64_nat (by omega) (by omega)
      have z2 : decide (0 < n) = true := by simp; omega
      obtain ⟨i, hi⟩ : ∃ i, i = k + 1 := ⟨_, rfl⟩
      rw [← hi] at hbl hda' hdb' ⊢
      have z3 : decide (da ≤ i) = true := by simp; omega
      have z4 : decide (i < db) = true := by simp; omega
      clear y1 y2 ho hk hn0 hn1 hda hdb hda' hdb' hnn hn1' hi
      by_cases h1 : u ≤ v
      · by_cases h2 : v ≤ u
        · have x1 : decide (u ≤ v) = true := by simp; omega
          have x2 : decide (d2 < d1) = false := by have := Hmon.out.1 h1; simp; omega
          have x3 : decide (v ≤ u) = true := by simp; omega
          have x4 : decide (d1 < d2) = false := by have := Hmon.out.2 h2; simp; omega
          clear h1 h2
          go_wp2_with fail
          refine hbl.out.mono ?_
          rintro _ w8 ⟨rfl, rfl⟩
          go_wp2_with fail
          refine hoa.out.mono ?_
          rintro _ w8 ⟨rfl, hb8⟩
          have hob := hide (of_at M.out g _ n db w8 (T7.out.below hb8) Hdb.out)
          have hle8 := hide (Nat.le_trans hle7.out hb8.size)
          have hfin8 := hide (below_step hfin7.out hle7.out hb8)
          clear hb8
          go_wp2_with fail
          refine hob.out.mono ?_
          rintro _ w9 ⟨rfl, hb9⟩
          go_wp2_with fail
          exact hR.out _ _ ⟨rfl, below_step hfin8.out hle8.out hb9⟩
        · have x1 : decide (u ≤ v) = true := by simp; omega
          have x2 : decide (d2 < d1) = false := by have := Hmon.out.1 h1; simp; omega
          have x3 : decide (v ≤ u) = false := by simp; omega
          clear h1 h2
          go_wp2_with fail
          refine hbl.out.mono ?_
          rintro _ w8 ⟨rfl, rfl⟩
          go_wp2_with fail
          refine hoa.out.mono ?_
          rintro _ w8 ⟨rfl, hb8⟩
          have hob := hide (of_at M.out g _ n db w8 (T7.out.below hb8) Hdb.out)
          have hle8 := hide (Nat.le_trans hle7.out hb8.size)
          have hfin8 := hide (below_step hfin7.out hle7.out hb8)
          clear hb8
          go_wp2_with fail
          refine hob.out.mono ?_
          rintro _ w9 ⟨rfl, hb9⟩
          go_wp2_with fail
          exact hR.out _ _ ⟨rfl, below_step hfin8.out hle8.out hb9⟩
      · have h2 : v ≤ u := by omega
        have x1 : decide (u ≤ v) = false := by simp; omega
        have x3 : decide (v ≤ u) = true := by simp; omega
        have x4 : decide (d1 < d2) = false := by have := Hmon.out.2 h2; simp; omega
        clear h1 h2
        go_wp2_with fail
        refine hbl.out.mono ?_
        rintro _ w8 ⟨rfl, rfl⟩
        go_wp2_with fail
        refine hoa.out.mono ?_
        rintro _ w8 ⟨rfl, hb8⟩
        have hob := hide (of_at M.out g _ n db w8 (T7.out.below hb8) Hdb.out)
        have hle8 := hide (Nat.le_trans hle7.out hb8.size)
        have hfin8 := hide (below_step hfin7.out hle7.out hb8)
        clear hb8
        go_wp2_with fail
        refine hob.out.mono ?_
        rintro _ w9 ⟨rfl, hb9⟩
        go_wp2_with fail
        exact hR.out _ _ ⟨rfl, below_step hfin8.out hle8.out hb9⟩
  · have hm : mayB N B Q E F = false := by simpa using hm
    rw [hm]
    clear hm q0 q1 q2 q3 q4
    go_wp2_with fail
    exact hR.out _ _ ⟨rfl, hfin.out⟩
end Go.Proofs.Ytakbkopekcmcjaa
