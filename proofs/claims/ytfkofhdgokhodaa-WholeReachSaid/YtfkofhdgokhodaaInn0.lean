/- inner.New and inner.Blocks, walked. -/
import Derived.Test.YtfkofhdgokhodaaReach4
import Derived.Test.YtfkofhdgokhodaaSome1
import Derived.Test.YtfkofhdgokhodaaParA
import Derived.Deep.RegionHeld
set_option linter.unusedVariables false
set_option linter.unusedSimpArgs false
namespace Go.Proofs.Ytfkofhdgokhodaa
open Go.RowKit Go.Maps

/-- The source of check blocks at block g; its table at tb. -/
structure InnAt (w : World) (B g tb : Nat) (s : UInt64) (a : Nat) (xs : List UInt64) : Prop where
  cell : w.heap[g]? = some (.cells #[.pointer (some ⟨tb, 0, none⟩), .int .u64 (s.toNat : Int), .int .i64 (a : Int)] 98 (0, 0))
  tab : Tab w B tb xs
  bg : B ≤ g
section
variable {w w' : World} {B g tb : Nat} {s : UInt64} {a : Nat} {xs : List UInt64}
theorem InnAt.lt (h : InnAt w B g tb s a xs) : g < w.heap.size := (Array.getElem?_eq_some_iff.1 h.cell).1
theorem InnAt.below (h : InnAt w B g tb s a xs) (hb : Below w.heap.size w w') : InnAt w' B g tb s a xs :=
  ⟨(hb.block g h.lt).trans h.cell, h.tab.below hb, h.bg⟩
theorem InnAt.cells (h : InnAt w B g tb s a xs) : w.cell? ⟨g, 0, none⟩ = some (.pointer (some ⟨tb, 0, none⟩)) ∧ w.cell? ⟨g, 1, none⟩ = some (.int .u64 (s.toNat : Int)) ∧ w.cell? ⟨g, 2, none⟩ = some (.int .i64 (a : Int)) :=
  ⟨by rw [cell_of_row w g 0 _ _ (0, 0) h.cell]; rfl, by rw [cell_of_row w g 1 _ _ (0, 0) h.cell]; rfl, by rw [cell_of_row w g 2 _ _ (0, 0) h.cell]; rfl⟩
end
theorem lit3v (w : World) (a b c : UInt64) : RdL Kd.u64 (· = w.heap.size) (w.alloc (.cells #[.int .u64 (a.toNat : Int), .int .u64 (b.toNat : Int), .int .u64 (c.toNat : Int)] 24)) (some ⟨w.heap.size, 0, none⟩) [a, b, c] :=
  RdL.block1 rfl (heap_alloc_new w _) rfl fun i x hx => by
    match i, hx with
    | 0, hx => exact ⟨_, rfl, _, rfl, by injection hx with hx; subst hx; rfl⟩
    | 1, hx => exact ⟨_, rfl, _, rfl, by injection hx with hx; subst hx; rfl⟩
    | 2, hx => exact ⟨_, rfl, _, rfl, by injection hx with hx; subst hx; rfl⟩
    | n + 3, hx => simp at hx
/-- The draws of one check block. -/
theorem new3i (s x : UInt64) (w y : World) (hb : Below (w.alloc (.cells #[.int .u64 (s.toNat : Int), .int .u64 2, .int .u64 (x.toNat : Int)] 24)).heap.size (w.alloc (.cells #[.int .u64 (s.toNat : Int), .int .u64 2, .int .u64 (x.toNat : Int)] 24)) y) :
    Calls Try.prog 11 #[.slice (some ⟨w.heap.size, 0, none⟩) 3 3] y fun e w' => ∃ gr, e = .returned (.pointer (some ⟨gr, 0, none⟩)) ∧ w.heap.size ≤ gr ∧ RandAt w' gr (seedF [s, 2, x]) ∧ Below w.heap.size w w' := by
  have hl := lit3v w s 2 x
  rw [show (((2 : UInt64).toNat : Nat) : Int) = 2 from rfl] at hl
  have hz : (w.alloc (.cells #[.int .u64 (s.toNat : Int), .int .u64 2, .int .u64 (x.toNat : Int)] 24)).heap.size = w.heap.size + 1 := by simp
  have hbw : Below w.heap.size w y := (balloc w _).trans (hb.mono (by omega))
  have hly := hl.keep (w' := y) fun k hk => hb.block k (by omega)
  have := hb.size
  refine (new_calls (some ⟨w.heap.size, 0, none⟩) 3 [s, 2, x] (· = w.heap.size) y (by decide) (Nat.le_refl 3) (fun k hk => by omega) hly).mono ?_
  rintro e w' ⟨rfl, h1, h2⟩
  exact ⟨_, rfl, by omega, h1, hbw.trans (h2.mono hbw.size)⟩
section
variable {F E : Nat} (m : May F E)
include m
set_option maxHeartbeats 2000000 in
theorem inew_calls (N B Q : Int) (s : UInt64) (a : Nat) (w : World) (hm : mayB N B Q (E : Int) (F : Int) = true) (ha : N + auxI Q (E : Int) N = (a : Int)) :
    Calls Try.prog 16 #[pV N B Q (E : Int) (F : Int), .int .u64 (s.toNat : Int)] w fun e w' => ∃ g tb, e = .returned (.tuple #[.pointer (some ⟨g, 0, none⟩), .int .i64 0]) ∧ InnAt w' w.heap.size g tb s a (belL F E (F - 1)) ∧ Below w.heap.size w w' := by
  refine cps fun R hR => ?_
  obtain ⟨W, hW, hb, hs, d0, d1, d2, d3, d4⟩ := box5 w N B Q (E : Int) (F : Int) 23
  have hbd := may_bd hm
  have hcells := hide (show ∀ x, Below W.heap.size W x → x.cell? ⟨w.heap.size, 0, none⟩ = some (.int .i64 N) ∧ x.cell? ⟨w.heap.size, 1, none⟩ = some (.int .i64 B) ∧ x.cell? ⟨w.heap.size, 2, none⟩ = some (.int .i64 Q) ∧ x.cell? ⟨w.heap.size, 3, none⟩ = some (.int .i64 (E : Int)) ∧ x.cell? ⟨w.heap.size, 4, none⟩ = some (.int .i64 (F : Int)) from fun x hx => by
    exact ⟨later_cell d0 ⟨x, hx⟩, later_cell d1 ⟨x, hx⟩, later_cell d2 ⟨x, hx⟩, later_cell d3 ⟨x, hx⟩, later_cell d4 ⟨x, hx⟩⟩)
  have HW := hide hW
  have Hb := hide hb
  have hN := hide (dnew_calls m N B Q W hm)
  have hA := hide (show ∀ y, Calls Try.prog 26 #[pV N B Q (E : Int) (F : Int)] y fun e w' => e = .returned (.int .i64 (a : Int)) ∧ Below y.heap.size y w' from fun y => by
    have := all_calls N B Q (E : Int) (F : Int) y (by omega) (by omega) (by omega) (by omega) (by omega) (by omega)
    rw [ha] at this; exact this)
  clear hW hb hm hbd ha d0 d1 d2 d3 d4 m
  go_enter Try.func16, Try.ntmps16
  go_upto_region 1 with fail
  rw [← HW.out]
  obtain ⟨k0, k1, k2, k3, k4⟩ := hcells.out W (Below.refl _ _)
  clear HW
  go_wp2_with fail
  refine hN.out.mono ?_
  rintro _ w1 ⟨tb, rfl, hT, hb1⟩
  clear k0 k1 k2 k3 k4 hN
  obtain ⟨k0, k1, k2, k3, k4⟩ := hcells.out w1 hb1
  have T1 := hide hT
  have B1 := hide hb1
  clear hT hb1
  go_wp2_with fail
  refine (hA.out _).mono ?_
  rintro _ w2 ⟨rfl, hb2⟩
  clear k0 k1 k2 k3 k4
  have T2 := hide (T1.out.below hb2)
  have B2 := hide (below_step B1.out B1.out.size hb2)
  clear hb2
  go_wp2_with fail
  refine hR.out _ _ ⟨_, _, rfl, ⟨alloc_head _ _, ?_, ?_⟩, ?_⟩
  · obtain ⟨v, h1, h2, h3, h4⟩ := T2.out.below (balloc w2 _)
    exact ⟨v, h1, h2, fun k hk => ⟨Nat.le_trans Hb.out.size (h3 k hk).1, (h3 k hk).2⟩, Nat.le_trans Hb.out.size h4⟩
  · exact Nat.le_trans Hb.out.size B2.out.size
  · exact (below_step Hb.out Hb.out.size B2.out).alloc (Nat.le_trans Hb.out.size B2.out.size) _
end
end Go.Proofs.Ytfkofhdgokhodaa
