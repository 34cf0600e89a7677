/- inner.Blocks, walked. -/
import Derived.Test.YtfkofhdgokhodaaInn0
set_option linter.unusedVariables false
set_option linter.unusedSimpArgs false
namespace Go.Proofs.Ytfkofhdgokhodaa
open Go.RowKit Go.Maps

theorem RandAt.keep9 {w w' : World} {g : Nat} {s : UInt64} (h : RandAt w g s) (hk : w'.heap[g]? = w.heap[g]?) : RandAt w' g s := hk.trans h
theorem RandAt.below9 {w w' : World} {g : Nat} {s : UInt64} (h : RandAt w g s) (hb : Below w.heap.size w w') : RandAt w' g s := h.keep9 (hb.block g h.lt)
theorem next_to9 (g : Nat) (s t : UInt64) (mx : Nat) (w0 w : World) (h1 : mx = (mix64 (s + stepC)).toNat) (h2 : t = s + stepC) (h : RandAt w g s) (hb : Below w0.heap.size w0 w) (hg : w0.heap.size ≤ g) : Calls Try.prog 44 #[.pointer (some ⟨g, 0, none⟩)] w fun e w' =>
    e = .returned (.int .u64 (mx : Int)) ∧ RandAt w' g t ∧ Below w0.heap.size w0 w' := by
  rw [h1, h2]
  refine (next_calls g s w h).mono ?_
  rintro e w' ⟨rfl, rfl⟩
  exact ⟨rfl, h.set _, (Ch.set w ⟨g, 0, none⟩ _).below hb hb.size fun b hb => by rw [hb]; exact hg⟩
theorem hcell9 {W w : World} {a : Addr} {u : Value} (h : Hid (W.cell? a = some u)) (hb : Below W.heap.size W w) : w.cell? a = some u := (hb.cell (World.block_lt_of_cell? _ _ h.out)).trans h.out
section
variable {F E : Nat} (m : May F E)
include m
set_option maxHeartbeats 2000000 in
theorem iblocks_calls (B g tb : Nat) (s x : UInt64) (a d : Nat) (w : World) (h : InnAt w B g tb s a (belL F E (F - 1))) (ha : a ≤ 1000000) (hd : IsOf F E (mix64 (seedF [s, 2, x] + stepC)).toNat d) :
    Calls Try.prog 17 #[.pointer (some ⟨g, 0, none⟩), .int .u64 (x.toNat : Int)] w fun e w' => ∃ v, e = .returned v ∧ Row w' 3 v ((someL a (min d a) (seedF [s, 2, x] + stepC)).map encI) ∧ (∀ z, v.ownBlock = some z → w.heap.size ≤ z) ∧ Below w.heap.size w w' := by
  refine cps fun R hR => ?_
  obtain ⟨k0, k1, k2⟩ := h.cells
  have hz : w.heap.size = w.heap.size := rfl
  obtain ⟨w1, hw1⟩ : ∃ w1, w1 = w.alloc (.cells #[.int .u64 (s.toNat : Int), .int .u64 2, .int .u64 (x.toNat : Int)] 24) := ⟨_, rfl⟩
  have hr := hide (new3i s x w w1 (by rw [← hw1]; exact Below.refl _ _))
  obtain ⟨s0, hs0⟩ : ∃ s0, s0 = seedF [s, 2, x] := ⟨_, rfl⟩
  obtain ⟨s1, hs1⟩ : ∃ s1, s1 = s0 + stepC := ⟨_, rfl⟩
  obtain ⟨mx, hmx⟩ : ∃ mx, mx = (mix64 (s0 + stepC)).toNat := ⟨_, rfl⟩
  rw [← hs0] at hr hd hR
  rw [← hs1] at hR
  rw [← hmx] at hd
  have Hs1 := hide hs1
  have Hmx := hide hmx
  have HI := hide h
  have Hd := hide hd
  have HW1 := hide hw1
  have K0 := hide k0
  have K2 := hide k2
  have M := hide m
  clear hs0 hs1 hmx hd h hz hw1 m
  go_enter Try.func17, Try.ntmps17
  go_wp2_with fail
  rw [← HW1.out]
  refine hr.out.mono ?_
  rintro _ w2 ⟨gr, rfl, hgr, hra, hb2⟩
  have Hra := hide hra
  have Hgr := hide hgr
  have B2 := hide hb2
  have x0 := hcell9 K0 hb2
  have HX := hide x0
  have Hbb : Hid (Below w2.heap.size w2 w2) := hide (Below.refl _ _)
  have hnx := hide (show ∀ y, Below w2.heap.size w2 y → _ from fun y hy => next_to9 gr s0 s1 mx w y Hmx.out Hs1.out (hra.below9 hy) (below_step hb2 hb2.size hy) hgr)
  clear hra hgr hb2 hr k0 k1 k2
  go_upto_region 2 with fail
  go_region_held (fun y => y.cell? ⟨g, 0, none⟩ = some (.pointer (some ⟨tb, 0, none⟩))) (first | assumption | go_keep) (first
    | (go_at_call 44
       refine (hnx.out _ (by first | exact Below.refl _ _ | exact (Below.refl _ _).drew)).mono ?_
       rintro _ w3 ⟨rfl, hA3, hb3⟩
       have x3 := hcell9 K0 hb3)
    | (go_at_call 43
       with_reducible refine (of_at M.out tb B mx d w3 ((HI.out.below hb3).tab) Hd.out).mono ?_
       rintro _ w4 ⟨rfl, hb4⟩
       have hA4 := hA3.below9 hb4
       have hb4' := below_step hb3 hb3.size hb4
       have x4 := hcell9 K0 hb4'))
  all_goals
    have e2 := hcell9 K2 hb4'
    have hsm := hide (some_callsN gr a d (min d a) s1 w4 ha rfl hA4)
    have B4 := hide hb4'
    clear x0 x3 x4 hA3 hb3 hA4 hb4 hb4'
    go_wp2_with fail
    refine hsm.out.mono ?_
    rintro _ w5 ⟨v, rfl, r5, z5, -, c5⟩
    go_wp2_with fail
    exact hR.out _ _ ⟨v, rfl, r5, fun z hz => Nat.le_trans B4.out.size (z5 z hz), c5.below B4.out B4.out.size fun j hj => by rw [hj]; exact Hgr.out⟩
end
end Go.Proofs.Ytfkofhdgokhodaa
