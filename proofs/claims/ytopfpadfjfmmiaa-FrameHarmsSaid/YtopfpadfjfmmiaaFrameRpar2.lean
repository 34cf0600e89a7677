/- The reference's reading of bytes as a packet: its header and what is behind it. -/
import Derived.Test.YtopfpadfjfmmiaaFrameRpar1
set_option linter.unusedVariables false
set_option linter.unusedSimpArgs false
namespace Go.Proofs.Ytopfpadfjfmmiaa
open Go.RowKit

set_option maxRecDepth 100000 in
set_option maxHeartbeats 2000000 in
theorem rpar1 (A : Option Addr) (b : List UInt8) (c : Nat) (w : World) (hm : c ≤ maxLen) (hc : b.length ≤ c) (hl : b.length ≤ 100000) (h : RdL Kd.byte (· < w.heap.size) w A b) (h42 : 42 ≤ b.length) (h5 : getN (mid b 0 2) = 16716) (h6 : b.getD 2 0 = 1) (hmay : mayF b = false) :
    Calls Try.prog 12 #[.slice A b.length c] w fun e w' => e = .returned (.tuple #[zPk, .int .i64 1]) ∧ Below w.heap.size w w' := by
  refine cps fun R hR => ?_
  have Hm := hide hm
  unfold maxLen at hm
  obtain ⟨W, hW⟩ : ∃ W, W = w.alloc (.cells #[.int .u64 0, .int .i64 0, .int .i64 0, .int .i64 0, .int .i64 0, .int .i64 0, .int .i64 0, .int .u64 0, .slice none 0 0] 32) := ⟨_, rfl⟩
  have hz : W.heap[w.heap.size]? = some (.cells #[.int .u64 0, .int .i64 0, .int .i64 0, .int .i64 0, .int .i64 0, .int .i64 0, .int .i64 0, .int .u64 0, .slice none 0 0] 32 (0, 0)) := by rw [hW]; exact heap_alloc_new w _
  have hb := hide (show Below w.heap.size w W by rw [hW]; exact balloc w _)
  have hs := hide (show w.heap.size < W.heap.size by rw [hW]; simp)
  have Hz := hide hz
  have HW := hide hW
  have Hr := hide ((h.below hb.out).mono (S' := (· < W.heap.size)) fun k hk => Nat.lt_trans hk hs.out)
  clear hz hW h
  obtain ⟨z0, z1, z2, z3, z4, z5, z6, z7, z8⟩ := ret9 (w := W) (u := undef) Hz.out
  have zf : ∀ i, W.frozen? ⟨w.heap.size, i, none⟩ = false := fun i => by simp [World.frozen?, Hz.out]
  have n0 := hide (fun (y : World) (hy : Below W.heap.size W y) => (show Calls Try.prog 28 #[.slice A b.length c, .int .i64 0, .int .i64 2] y fun e w' => e = .returned (.int .i64 (wrap64 ((getN (mid b 0 2) : Nat) : Int))) ∧ y = w' from rnumber_calls A b c 0 2 _ y Hm.out hc (by omega) (by omega) (Hr.out.below hy)))
  rw [wrap_small (Nat.le_trans (Nat.le_of_eq (mid_len (by omega))) (by omega))] at n0
  obtain ⟨bb, ob, u, rfl, hsb, hu, hcl⟩ := Hr.out.at1 rfl (show 2 < b.length by omega)
  obtain rfl := Kd.byte_cell hu
  have hx2 := hide (show b.getD 2 0 = b[2] by simp [List.getD, show 2 < b.length by omega])
  rw [hx2.out] at h6
  rw [h5] at n0
  have n0' := hide (show ∀ (y : World), Below W.heap.size W y → Calls Try.prog 28 #[.slice (some ⟨bb, ob, none⟩) b.length c, .int .i64 0, .int .i64 2] y fun e w' => e = .returned (.int .i64 16716) ∧ y = w' from n0.out)
  have hl42 : (42 : Int) ≤ (b.length : Int) := by omega
  have hl3 : (2 : Int) < (b.length : Int) := by omega
  clear hu n0
  rw [h6] at hcl
  have hcl' : W.cell? ⟨bb, ob + 2, none⟩ = some (.int .u8 1) := hcl
  clear hcl h6 hx2
  have g3 := hide (fun (y : World) (hy : Below W.heap.size W y) => (show Calls Try.prog 29 #[.slice (some ⟨bb, ob + 3, none⟩) 8 (c - 3)] y fun e w' => e = .returned (.int .u64 ((getN (mid b 3 8) : Nat) : Int)) ∧ y = w' from by
    have := refget_calls (some ⟨bb, ob + 3, none⟩) (mid b 3 8) (c - 3) _ y (by have := Hm.out; omega) (by rw [mid_len (by omega)]; omega) (mid_rd' (Hr.out.below hy) 3 8 (by omega) (by omega) hc)
    rwa [mid_len (by omega)] at this))
  have n11 := hide (fun (y : World) (hy : Below W.heap.size W y) => (show Calls Try.prog 28 #[.slice (some ⟨bb, ob, none⟩) b.length c, .int .i64 11, .int .i64 4] y fun e w' => e = .returned (.int .i64 (wrap64 ((getN (mid b 11 4) : Nat) : Int))) ∧ y = w' from rnumber_calls (some ⟨bb, ob, none⟩) b c 11 4 _ y Hm.out hc (by omega) (by omega) (Hr.out.below hy)))
  rw [wrap_small (Nat.le_trans (Nat.le_of_eq (mid_len (by omega))) (by omega))] at n11
  have n15 := hide (fun (y : World) (hy : Below W.heap.size W y) => (show Calls Try.prog 28 #[.slice (some ⟨bb, ob, none⟩) b.length c, .int .i64 15, .int .i64 2] y fun e w' => e = .returned (.int .i64 (wrap64 ((getN (mid b 15 2) : Nat) : Int))) ∧ y = w' from rnumber_calls (some ⟨bb, ob, none⟩) b c 15 2 _ y Hm.out hc (by omega) (by omega) (Hr.out.below hy)))
  rw [wrap_small (Nat.le_trans (Nat.le_of_eq (mid_len (by omega))) (by omega))] at n15
  have n17 := hide (fun (y : World) (hy : Below W.heap.size W y) => (show Calls Try.prog 28 #[.slice (some ⟨bb, ob, none⟩) b.length c, .int .i64 17, .int .i64 1] y fun e w' => e = .returned (.int .i64 (wrap64 ((getN (mid b 17 1) : Nat) : Int))) ∧ y = w' from rnumber_calls (some ⟨bb, ob, none⟩) b c 17 1 _ y Hm.out hc (by omega) (by omega) (Hr.out.below hy)))
  rw [wrap_small (Nat.le_trans (Nat.le_of_eq (mid_len (by omega))) (by omega))] at n17
  have n18 := hide (fun (y : World) (hy : Below W.heap.size W y) => (show Calls Try.prog 28 #[.slice (some ⟨bb, ob, none⟩) b.length c, .int .i64 18, .int .i64 2] y fun e w' => e = .returned (.int .i64 (wrap64 ((getN (mid b 18 2) : Nat) : Int))) ∧ y = w' from rnumber_calls (some ⟨bb, ob, none⟩) b c 18 2 _ y Hm.out hc (by omega) (by omega) (Hr.out.below hy)))
  rw [wrap_small (Nat.le_trans (Nat.le_of_eq (mid_len (by omega))) (by omega))] at n18
  have n20 := hide (fun (y : World) (hy : Below W.heap.size W y) => (show Calls Try.prog 28 #[.slice (some ⟨bb, ob, none⟩) b.length c, .int .i64 20, .int .i64 2] y fun e w' => e = .returned (.int .i64 (wrap64 ((getN (mid b 20 2) : Nat) : Int))) ∧ y = w' from rnumber_calls (some ⟨bb, ob, none⟩) b c 20 2 _ y Hm.out hc (by omega) (by omega) (Hr.out.below hy)))
  rw [wrap_small (Nat.le_trans (Nat.le_of_eq (mid_len (by omega))) (by omega))] at n20
  have n22 := hide (fun (y : World) (hy : Below W.heap.size W y) => (show Calls Try.prog 28 #[.slice (some ⟨bb, ob, none⟩) b.length c, .int .i64 22, .int .i64 8] y fun e w' => e = .returned (.int .i64 (wrap64 ((getN (mid b 22 8) : Nat) : Int))) ∧ y = w' from rnumber_calls (some ⟨bb, ob, none⟩) b c 22 8 _ y Hm.out hc (by omega) (by omega) (Hr.out.below hy)))
  have g30 := hide (fun (y : World) (hy : Below W.heap.size W y) => (show Calls Try.prog 29 #[.slice (some ⟨bb, ob + 30, none⟩) 8 (c - 30)] y fun e w' => e = .returned (.int .u64 ((getN (mid b 30 8) : Nat) : Int)) ∧ y = w' from by
    have := refget_calls (some ⟨bb, ob + 30, none⟩) (mid b 30 8) (c - 30) _ y (by have := Hm.out; omega) (by rw [mid_len (by omega)]; omega) (mid_rd' (Hr.out.below hy) 30 8 (by omega) (by omega) hc)
    rwa [mid_len (by omega)] at this))
  unfold mayF at hmay
  generalize getN (mid b 3 8) = x1 at *
  generalize getN (mid b 11 4) = x2 at *
  generalize getN (mid b 15 2) = x3 at *
  generalize getN (mid b 17 1) = x4 at *
  generalize getN (mid b 18 2) = x5 at *
  generalize getN (mid b 20 2) = x6 at *
  generalize wrap64 ((getN (mid b 22 8) : Nat) : Int) = x7 at *
  generalize getN (mid b 30 8) = x8 at *
  have hmy := hide (fun w => (show Calls Try.prog 17 #[.agg #[.int .u64 (x1 : Int), .int .i64 (x2 : Int), .int .i64 (x3 : Int), .int .i64 (x4 : Int), .int .i64 (x5 : Int), .int .i64 (x6 : Int), .int .i64 x7, .int .u64 (x8 : Int)]] w fun e w' => e = .returned (.bool false) ∧ Below w.heap.size w w' from by have := fmay_calls (x1 : Int) (x8 : Int) x2 x3 x4 x5 x6 x7 w; rwa [hmay] at this))
  clear z0 z1 z2 z3 z4 z5 z6 z7 z8 zf
  clear hmay
  have c38 : (38 : Int) ≤ (c : Int) := by omega
  have c11 : (11 : Int) ≤ (c : Int) := by omega
  have eh := hide (fun x => balloc W (.cells x 30))
  go_enter Try.func12, Try.ntmps12
  go_wp2_with fail
  rw [← HW.out]
  refine (n0'.out W (Below.refl _ _)).mono ?_
  rintro e w' ⟨rfl, rfl⟩
  go_wp2_with fail
  refine (g3.out W (Below.refl _ _)).mono ?_
  rintro e w' ⟨rfl, rfl⟩
  go_wp2_with fail
  refine (n11.out W (Below.refl _ _)).mono ?_
  rintro e w' ⟨rfl, rfl⟩
  go_wp2_with fail
  refine (n15.out W (Below.refl _ _)).mono ?_
  rintro e w' ⟨rfl, rfl⟩
  go_wp2_with fail
  refine (n17.out W (Below.refl _ _)).mono ?_
  rintro e w' ⟨rfl, rfl⟩
  go_wp2_with fail
  refine (n18.out W (Below.refl _ _)).mono ?_
  rintro e w' ⟨rfl, rfl⟩
  go_wp2_with fail
  refine (n20.out W (Below.refl _ _)).mono ?_
  rintro e w' ⟨rfl, rfl⟩
  go_wp2_with fail
  refine (n22.out _ (eh.out _)).mono ?_
  rintro e w' ⟨rfl, rfl⟩
  go_wp2_with fail
  refine (g30.out _ (eh.out _)).mono ?_
  rintro e w' ⟨rfl, rfl⟩
  go_wp2_with fail
  refine (hmy.out _).mono ?_
  rintro e w4 ⟨rfl, hb4'⟩
  have hb4 := hide ((eh.out #[.int .u64 (x1 : Int), .int .i64 (x2 : Int), .int .i64 (x3 : Int), .int .i64 (x4 : Int), .int .i64 (x5 : Int), .int .i64 (x6 : Int), .int .i64 x7, .int .u64 (x8 : Int)]).trans (hb4'.mono (eh.out #[.int .u64 (x1 : Int), .int .i64 (x2 : Int), .int .i64 (x3 : Int), .int .i64 (x4 : Int), .int .i64 (x5 : Int), .int .i64 (x6 : Int), .int .i64 x7, .int .u64 (x8 : Int)]).size))
  have hbw := hide (hb.out.trans (hb4.out.mono hb.out.size))
  have hz4 := hide ((hb4.out.block w.heap.size hs.out).trans Hz.out)
  have hh4 := hide ((hb4'.block W.heap.size (by simp)).trans (heap_alloc_new W (.cells #[.int .u64 (x1 : Int), .int .i64 (x2 : Int), .int .i64 (x3 : Int), .int .i64 (x4 : Int), .int .i64 (x5 : Int), .int .i64 (x6 : Int), .int .i64 x7, .int .u64 (x8 : Int)] 30)))
  obtain ⟨z0, z1, z2, z3, z4, z5, z6, z7, z8⟩ := ret9 (w := w4) (u := undef) hz4.out
  have zf : ∀ i, w4.frozen? ⟨w.heap.size, i, none⟩ = false := fun i => by simp [World.frozen?, hz4.out]
  have y2 : w4.cell? ⟨W.heap.size, 2, none⟩ = some (.int .i64 (x3 : Int)) := cell_of_row w4 W.heap.size 2 _ _ (0, 0) hh4.out
  clear hb4'
  go_wp2_with fail
  obtain ⟨Z, hZ⟩ : ∃ Z, Z = (((((((((w4.setCell ⟨w.heap.size, 0, none⟩ (.int .u64 0)).setCell ⟨w.heap.size, 1, none⟩ (.int .i64 0)).setCell ⟨w.heap.size, 2, none⟩ (.int .i64 0)).setCell ⟨w.heap.size, 3, none⟩ (.int .i64 0)).setCell ⟨w.heap.size, 4, none⟩ (.int .i64 0)).setCell ⟨w.heap.size, 5, none⟩ (.int .i64 0)).setCell ⟨w.heap.size, 6, none⟩ (.int .i64 0)).setCell ⟨w.heap.size, 7, none⟩ (.int .u64 0)).setCell ⟨w.heap.size, 8, none⟩ (.slice none 0 0)) := ⟨_, rfl⟩
  obtain ⟨hhZ, hcZ⟩ := set9 _ _ _ _ _ _ _ _ _ hz4.out hZ
  obtain ⟨p0, p1, p2, p3, p4, p5, p6, p7, p8⟩ := ret9 (w := Z) (u := undef) hhZ
  rw [← hZ]
  refine bodyPost_ret (v := .tuple #[zPk, .int .i64 1]) ?_ rfl ?_
  · simp [results, Try.results12, go_sem, p0, p1, p2, p3, p4, p5, p6, p7, p8]
  exact hR.out _ _ ⟨rfl, hcZ.below hbw.out (by have := (hbw.out).size; omega) (fun b hb => by omega)⟩

set_option maxRecDepth 100000 in
set_option maxHeartbeats 2000000 in
theorem rpar7 (A : Option Addr) (b : List UInt8) (c : Nat) (w : World) (hm : c ≤ maxLen) (hc : b.length ≤ c) (hl : b.length ≤ 100000) (h : RdL Kd.byte (· < w.heap.size) w A b) (h42 : 42 ≤ b.length) (h5 : getN (mid b 0 2) = 16716) (h6 : b.getD 2 0 = 1) (hmay : mayF b = true) (h7 : b.length ≠ 42 + getN (mid b 15 2)) :
    Calls Try.prog 12 #[.slice A b.length c] w fun e w' => e = .returned (.tuple #[zPk, .int .i64 7]) ∧ Below w.heap.size w w' := by
  refine cps fun R hR => ?_
  have Hm := hide hm
  unfold maxLen at hm
  obtain ⟨W, hW⟩ : ∃ W, W = w.alloc (.cells #[.int .u64 0, .int .i64 0, .int .i64 0, .int .i64 0, .int .i64 0, .int .i64 0, .int .i64 0, .int .u64 0, .slice none 0 0] 32) := ⟨_, rfl⟩
  have hz : W.heap[w.heap.size]? = some (.cells #[.int .u64 0, .int .i64 0, .int .i64 0, .int .i64 0, .int .i64 0, .int .i64 0, .int .i64 0, .int .u64 0, .slice none 0 0] 32 (0, 0)) := by rw [hW]; exact heap_alloc_new w _
  have hb := hide (show Below w.heap.size w W by rw [hW]; exact balloc w _)
  have hs := hide (show w.heap.size < W.heap.size by rw [hW]; simp)
  have Hz := hide hz
  have HW := hide hW
  have Hr := hide ((h.below hb.out).mono (S' := (· < W.heap.size)) fun k hk => Nat.lt_trans hk hs.out)
  clear hz hW h
  obtain ⟨z0, z1, z2, z3, z4, z5, z6, z7, z8⟩ := ret9 (w := W) (u := undef) Hz.out
  have zf : ∀ i, W.frozen? ⟨w.heap.size, i, none⟩ = false := fun i => by simp [World.frozen?, Hz.out]
  have n0 := hide (fun (y : World) (hy : Below W.heap.size W y) => (show Calls Try.prog 28 #[.slice A b.length c, .int .i64 0, .int .i64 2] y fun e w' => e = .returned (.int .i64 (wrap64 ((getN (mid b 0 2) : Nat) : Int))) ∧ y = w' from rnumber_calls A b c 0 2 _ y Hm.out hc (by omega) (by omega) (Hr.out.below hy)))
  rw [wrap_small (Nat.le_trans (Nat.le_of_eq (mid_len (by omega))) (by omega))] at n0
  obtain ⟨bb, ob, u, rfl, hsb, hu, hcl⟩ := Hr.out.at1 rfl (show 2 < b.length by omega)
  obtain rfl := Kd.byte_cell hu
  have hx2 := hide (show b.getD 2 0 = b[2] by simp [List.getD, show 2 < b.length by omega])
  rw [hx2.out] at h6
  rw [h5] at n0
  have n0' := hide (show ∀ (y : World), Below W.heap.size W y → Calls Try.prog 28 #[.slice (some ⟨bb, ob, none⟩) b.length c, .int .i64 0, .int .i64 2] y fun e w' => e = .returned (.int .i64 16716) ∧ y = w' from n0.out)
  have hl42 : (42 : Int) ≤ (b.length : Int) := by omega
  have hl3 : (2 : Int) < (b.length : Int) := by omega
  clear hu n0
  rw [h6] at hcl
  have hcl' : W.cell? ⟨bb, ob + 2, none⟩ = some (.int .u8 1) := hcl
  clear hcl h6 hx2
  have g3 := hide (fun (y : World) (hy : Below W.heap.size W y) => (show Calls Try.prog 29 #[.slice (some ⟨bb, ob + 3, none⟩) 8 (c - 3)] y fun e w' => e = .returned (.int .u64 ((getN (mid b 3 8) : Nat) : Int)) ∧ y = w' from by
    have := refget_calls (some ⟨bb, ob + 3, none⟩) (mid b 3 8) (c - 3) _ y (by have := Hm.out; omega) (by rw [mid_len (by omega)]; omega) (mid_rd' (Hr.out.below hy) 3 8 (by omega) (by omega) hc)
    rwa [mid_len (by omega)] at this))
  have n11 := hide (fun (y : World) (hy : Below W.heap.size W y) => (show Calls Try.prog 28 #[.slice (some ⟨bb, ob, none⟩) b.length c, .int .i64 11, .int .i64 4] y fun e w' => e = .returned (.int .i64 (wrap64 ((getN (mid b 11 4) : Nat) : Int))) ∧ y = w' from rnumber_calls (some ⟨bb, ob, none⟩) b c 11 4 _ y Hm.out hc (by omega) (by omega) (Hr.out.below hy)))
  rw [wrap_small (Nat.le_trans (Nat.le_of_eq (mid_len (by omega))) (by omega))] at n11
  have n15 := hide (fun (y : World) (hy : Below W.heap.size W y) => (show Calls Try.prog 28 #[.slice (some ⟨bb, ob, none⟩) b.length c, .int .i64 15, .int .i64 2] y fun e w' => e = .returned (.int .i64 (wrap64 ((getN (mid b 15 2) : Nat) : Int))) ∧ y = w' from rnumber_calls (some ⟨bb, ob, none⟩) b c 15 2 _ y Hm.out hc (by omega) (by omega) (Hr.out.below hy)))
  rw [wrap_small (Nat.le_trans (Nat.le_of_eq (mid_len (by omega))) (by omega))] at n15
  have n17 := hide (fun (y : World) (hy : Below W.heap.size W y) => (show Calls Try.prog 28 #[.slice (some ⟨bb, ob, none⟩) b.length c, .int .i64 17, .int .i64 1] y fun e w' => e = .returned (.int .i64 (wrap64 ((getN (mid b 17 1) : Nat) : Int))) ∧ y = w' from rnumber_calls (some ⟨bb, ob, none⟩) b c 17 1 _ y Hm.out hc (by omega) (by omega) (Hr.out.below hy)))
  rw [wrap_small (Nat.le_trans (Nat.le_of_eq (mid_len (by omega))) (by omega))] at n17
  have n18 := hide (fun (y : World) (hy : Below W.heap.size W y) => (show Calls Try.prog 28 #[.slice (some ⟨bb, ob, none⟩) b.length c, .int .i64 18, .int .i64 2] y fun e w' => e = .returned (.int .i64 (wrap64 ((getN (mid b 18 2) : Nat) : Int))) ∧ y = w' from rnumber_calls (some ⟨bb, ob, none⟩) b c 18 2 _ y Hm.out hc (by omega) (by omega) (Hr.out.below hy)))
  rw [wrap_small (Nat.le_trans (Nat.le_of_eq (mid_len (by omega))) (by omega))] at n18
  have n20 := hide (fun (y : World) (hy : Below W.heap.size W y) => (show Calls Try.prog 28 #[.slice (some ⟨bb, ob, none⟩) b.length c, .int .i64 20, .int .i64 2] y fun e w' => e = .returned (.int .i64 (wrap64 ((getN (mid b 20 2) : Nat) : Int))) ∧ y = w' from rnumber_calls (some ⟨bb, ob, none⟩) b c 20 2 _ y Hm.out hc (by omega) (by omega) (Hr.out.below hy)))
  rw [wrap_small (Nat.le_trans (Nat.le_of_eq (mid_len (by omega))) (by omega))] at n20
  have n22 := hide (fun (y : World) (hy : Below W.heap.size W y) => (show Calls Try.prog 28 #[.slice (some ⟨bb, ob, none⟩) b.length c, .int .i64 22, .int .i64 8] y fun e w' => e = .returned (.int .i64 (wrap64 ((getN (mid b 22 8) : Nat) : Int))) ∧ y = w' from rnumber_calls (some ⟨bb, ob, none⟩) b c 22 8 _ y Hm.out hc (by omega) (by omega) (Hr.out.below hy)))
  have g30 := hide (fun (y : World) (hy : Below W.heap.size W y) => (show Calls Try.prog 29 #[.slice (some ⟨bb, ob + 30, none⟩) 8 (c - 30)] y fun e w' => e = .returned (.int .u64 ((getN (mid b 30 8) : Nat) : Int)) ∧ y = w' from by
    have := refget_calls (some ⟨bb, ob + 30, none⟩) (mid b 30 8) (c - 30) _ y (by have := Hm.out; omega) (by rw [mid_len (by omega)]; omega) (mid_rd' (Hr.out.below hy) 30 8 (by omega) (by omega) hc)
    rwa [mid_len (by omega)] at this))
  unfold mayF at hmay
  generalize getN (mid b 3 8) = x1 at *
  generalize getN (mid b 11 4) = x2 at *
  generalize getN (mid b 15 2) = x3 at *
  generalize getN (mid b 17 1) = x4 at *
  generalize getN (mid b 18 2) = x5 at *
  generalize getN (mid b 20 2) = x6 at *
  generalize wrap64 ((getN (mid b 22 8) : Nat) : Int) = x7 at *
  generalize getN (mid b 30 8) = x8 at *
  have hmy := hide (fun w => (show Calls Try.prog 17 #[.agg #[.int .u64 (x1 : Int), .int .i64 (x2 : Int), .int .i64 (x3 : Int), .int .i64 (x4 : Int), .int .i64 (x5 : Int), .int .i64 (x6 : Int), .int .i64 x7, .int .u64 (x8 : Int)]] w fun e w' => e = .returned (.bool true) ∧ Below w.heap.size w w' from by have := fmay_calls (x1 : Int) (x8 : Int) x2 x3 x4 x5 x6 x7 w; rwa [hmay] at this))
  clear z0 z1 z2 z3 z4 z5 z6 z7 z8 zf
  have c38 : (38 : Int) ≤ (c : Int) := by omega
  have c11 : (11 : Int) ≤ (c : Int) := by omega
  have eh := hide (fun x => balloc W (.cells x 30))
  have hne : ((b.length : Int) != 42 + (x3 : Int)) = true := by simp; omega
  have hx3 : x3 ≤ 65535 := by have := (mayH_bd hmay).1; have := may_bd this; omega
  clear hmay h7
  go_enter Try.func12, Try.ntmps12
  go_wp2_with fail
  rw [← HW.out]
  refine (n0'.out W (Below.refl _ _)).mono ?_
  rintro e w' ⟨rfl, rfl⟩
  go_wp2_with fail
  refine (g3.out W (Below.refl _ _)).mono ?_
  rintro e w' ⟨rfl, rfl⟩
  go_wp2_with fail
  refine (n11.out W (Below.refl _ _)).mono ?_
  rintro e w' ⟨rfl, rfl⟩
  go_wp2_with fail
  refine (n15.out W (Below.refl _ _)).mono ?_
  rintro e w' ⟨rfl, rfl⟩
  go_wp2_with fail
  refine (n17.out W (Below.refl _ _)).mono ?_
  rintro e w' ⟨rfl, rfl⟩
  go_wp2_with fail
  refine (n18.out W (Below.refl _ _)).mono ?_
  rintro e w' ⟨rfl, rfl⟩
  go_wp2_with fail
  refine (n20.out W (Below.refl _ _)).mono ?_
  rintro e w' ⟨rfl, rfl⟩
  go_wp2_with fail
  refine (n22.out _ (eh.out _)).mono ?_
  rintro e w' ⟨rfl, rfl⟩
  go_wp2_with fail
  refine (g30.out _ (eh.out _)).mono ?_
  rintro e w' ⟨rfl, rfl⟩
  go_wp2_with fail
  refine (hmy.out _).mono ?_
  rintro e w4 ⟨rfl, hb4'⟩
  have hb4 := hide ((eh.out #[.int .u64 (x1 : Int), .int .i64 (x2 : Int), .int .i64 (x3 : Int), .int .i64 (x4 : Int), .int .i64 (x5 : Int), .int .i64 (x6 : Int), .int .i64 x7, .int .u64 (x8 : Int)]).trans (hb4'.mono (eh.out #[.int .u64 (x1 : Int), .int .i64 (x2 : Int), .int .i64 (x3 : Int), .int .i64 (x4 : Int), .int .i64 (x5 : Int), .int .i64 (x6 : Int), .int .i64 x7, .int .u64 (x8 : Int)]).size))
  have hbw := hide (hb.out.trans (hb4.out.mono hb.out.size))
  have hz4 := hide ((hb4.out.block w.heap.size hs.out).trans Hz.out)
  have hh4 := hide ((hb4'.block W.heap.size (by simp)).trans (heap_alloc_new W (.cells #[.int .u64 (x1 : Int), .int .i64 (x2 : Int), .int .i64 (x3 : Int), .int .i64 (x4 : Int), .int .i64 (x5 : Int), .int .i64 (x6 : Int), .int .i64 x7, .int .u64 (x8 : Int)] 30)))
  obtain ⟨z0, z1, z2, z3, z4, z5, z6, z7, z8⟩ := ret9 (w := w4) (u := undef) hz4.out
  have zf : ∀ i, w4.frozen? ⟨w.heap.size, i, none⟩ = false := fun i => by simp [World.frozen?, hz4.out]
  have y2 : w4.cell? ⟨W.heap.size, 2, none⟩ = some (.int .i64 (x3 : Int)) := cell_of_row w4 W.heap.size 2 _ _ (0, 0) hh4.out
  clear hb4'
  go_wp2_with fail
  obtain ⟨Z, hZ⟩ : ∃ Z, Z = (((((((((w4.setCell ⟨w.heap.size, 0, none⟩ (.int .u64 0)).setCell ⟨w.heap.size, 1, none⟩ (.int .i64 0)).setCell ⟨w.heap.size, 2, none⟩ (.int .i64 0)).setCell ⟨w.heap.size, 3, none⟩ (.int .i64 0)).setCell ⟨w.heap.size, 4, none⟩ (.int .i64 0)).setCell ⟨w.heap.size, 5, none⟩ (.int .i64 0)).setCell ⟨w.heap.size, 6, none⟩ (.int .i64 0)).setCell ⟨w.heap.size, 7, none⟩ (.int .u64 0)).setCell ⟨w.heap.size, 8, none⟩ (.slice none 0 0)) := ⟨_, rfl⟩
  obtain ⟨hhZ, hcZ⟩ := set9 _ _ _ _ _ _ _ _ _ hz4.out hZ
  obtain ⟨p0, p1, p2, p3, p4, p5, p6, p7, p8⟩ := ret9 (w := Z) (u := undef) hhZ
  rw [← hZ]
  refine bodyPost_ret (v := .tuple #[zPk, .int .i64 7]) ?_ rfl ?_
  · simp [results, Try.results12, go_sem, p0, p1, p2, p3, p4, p5, p6, p7, p8]
  exact hR.out _ _ ⟨rfl, hcZ.below hbw.out (by have := (hbw.out).size; omega) (fun b hb => by omega)⟩

end Go.Proofs.Ytopfpadfjfmmiaa
