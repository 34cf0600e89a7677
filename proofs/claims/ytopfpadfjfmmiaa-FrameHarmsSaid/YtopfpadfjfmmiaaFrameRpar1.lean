/- The reference's reading of bytes as a packet: walked. -/
import Derived.Test.YtopfpadfjfmmiaaFrameRpar
set_option linter.unusedVariables false
set_option linter.unusedSimpArgs false
namespace Go.Proofs.Ytopfpadfjfmmiaa
open Go.RowKit

theorem addr_add (b off p : Nat) : (⟨b, off, none⟩ : Addr).add p = ⟨b, off + p, none⟩ := by unfold Addr.add; split <;> simp_all
theorem mid_rd' {S : Nat → Prop} {w : World} {bb ob : Nat} {b : List UInt8} {c : Nat} (h : RdL Kd.byte S w (some ⟨bb, ob, none⟩) b) (p n : Nat) (hp : p + n ≤ b.length) (hn : 0 < n) (hc : b.length ≤ c) : RdL Kd.byte S w (some ⟨bb, ob + p, none⟩) (mid b p n) := by
  have := mid_rd h p n (by omega) hc
  rw [if_neg (by omega), Option.map_some, addr_add] at this
  exact this
theorem ret9 {w Z : World} {g : Nat} {u : Value} (h : Z.heap[g]? = some (.cells #[.int .u64 0, .int .i64 0, .int .i64 0, .int .i64 0, .int .i64 0, .int .i64 0, .int .i64 0, .int .u64 0, .slice none 0 0] 32 (0, 0))) : Z.cell? ⟨g, 0, none⟩ = some (.int .u64 0) ∧ Z.cell? ⟨g, 1, none⟩ = some (.int .i64 0) ∧ Z.cell? ⟨g, 2, none⟩ = some (.int .i64 0) ∧ Z.cell? ⟨g, 3, none⟩ = some (.int .i64 0) ∧ Z.cell? ⟨g, 4, none⟩ = some (.int .i64 0) ∧ Z.cell? ⟨g, 5, none⟩ = some (.int .i64 0) ∧ Z.cell? ⟨g, 6, none⟩ = some (.int .i64 0) ∧ Z.cell? ⟨g, 7, none⟩ = some (.int .u64 0) ∧ Z.cell? ⟨g, 8, none⟩ = some (.slice none 0 0) := ⟨cell_of_row Z g 0 _ _ (0, 0) h, cell_of_row Z g 1 _ _ (0, 0) h, cell_of_row Z g 2 _ _ (0, 0) h, cell_of_row Z g 3 _ _ (0, 0) h, cell_of_row Z g 4 _ _ (0, 0) h, cell_of_row Z g 5 _ _ (0, 0) h, cell_of_row Z g 6 _ _ (0, 0) h, cell_of_row Z g 7 _ _ (0, 0) h, cell_of_row Z g 8 _ _ (0, 0) h⟩

set_option maxRecDepth 100000 in
set_option maxHeartbeats 2000000 in
theorem rpar4 (A : Option Addr) (b : List UInt8) (c : Nat) (w : World) (hm : c ≤ maxLen) (hc : b.length ≤ c) (hl : b.length ≤ 100000) (h : RdL Kd.byte (· < w.heap.size) w A b) (h4 : b.length < 42) :
    Calls Try.prog 12 #[.slice A b.length c] w fun e w' => e = .returned (.tuple #[zPk, .int .i64 4]) ∧ Below w.heap.size w w' := by
  refine cps fun R hR => ?_
  have Hm := hide hm
  unfold maxLen at hm
  obtain ⟨W, hW⟩ : ∃ W, W = w.alloc (.cells #[.int .u64 0, .int .i64 0, .int .i64 0, .int .i64 0, .int .i64 0, .int .i64 0, .int .i64 0, .int .u64 0, .slice none 0 0] 32) := ⟨_, rfl⟩
  have hz : W.heap[w.heap.size]? = some (.cells #[.int .u64 0, .int .i64 0, .int .i64 0, .int .i64 0, .int .i64 0, .int .i64 0, .int .i64 0, .int .u64 0, .slice none 0 0] 32 (0, 0)) := by rw [hW]; exact heap_alloc_new w _
  have hb := hide (show Below w.heap.size w W by rw [hW]; exact balloc w _)
  have hs := hide (show w.heap.size < W.heap.size by rw [hW]; simp)
  have Hz := hide hz
  have HW := hide hW
  have Hr := hide ((h.below hb.out).mono (S' := (· < W.heap.size)) fun k hk => Nat.lt_trans hk hs.out)
  clear hz hW h
  obtain ⟨z0, z1, z2, z3, z4, z5, z6, z7, z8⟩ := ret9 (w := W) (u := undef) Hz.out
  have zf : ∀ i, W.frozen? ⟨w.heap.size, i, none⟩ = false := fun i => by simp [World.frozen?, Hz.out]
  go_enter Try.func12, Try.ntmps12
  go_wp2_with fail
  rw [← HW.out]
  refine bodyPost_ret (v := .tuple #[zPk, .int .i64 4]) ?_ rfl ?_
  · simp [results, Try.results12, go_sem, z0, z1, z2, z3, z4, z5, z6, z7, z8]
  exact hR.out _ _ ⟨rfl, hb.out⟩

set_option maxRecDepth 100000 in
set_option maxHeartbeats 2000000 in
theorem rpar5 (A : Option Addr) (b : List UInt8) (c : Nat) (w : World) (hm : c ≤ maxLen) (hc : b.length ≤ c) (hl : b.length ≤ 100000) (h : RdL Kd.byte (· < w.heap.size) w A b) (h42 : 42 ≤ b.length) (h5 : getN (mid b 0 2) ≠ 16716) :
    Calls Try.prog 12 #[.slice A b.length c] w fun e w' => e = .returned (.tuple #[zPk, .int .i64 5]) ∧ Below w.heap.size w w' := by
  refine cps fun R hR => ?_
  have Hm := hide hm
  unfold maxLen at hm
  obtain ⟨W, hW⟩ : ∃ W, W = w.alloc (.cells #[.int .u64 0, .int .i64 0, .int .i64 0, .int .i64 0, .int .i64 0, .int .i64 0, .int .i64 0, .int .u64 0, .slice none 0 0] 32) := ⟨_, rfl⟩
  have hz : W.heap[w.heap.size]? = some (.cells #[.int .u64 0, .int .i64 0, .int .i64 0, .int .i64 0, .int .i64 0, .int .i64 0, .int .i64 0, .int .u64 0, .slice none 0 0] 32 (0, 0)) := by rw [hW]; exact heap_alloc_new w _
  have hb := hide (show Below w.heap.size w W by rw [hW]; exact balloc w _)
  have hs := hide (show w.heap.size < W.heap.size by rw [hW]; simp)
  have Hz := hide hz
  have HW := hide hW
  have Hr := hide ((h.below hb.out).mono (S' := (· < W.heap.size)) fun k hk => Nat.lt_trans hk hs.out)
  clear hz hW h
  obtain ⟨z0, z1, z2, z3, z4, z5, z6, z7, z8⟩ := ret9 (w := W) (u := undef) Hz.out
  have zf : ∀ i, W.frozen? ⟨w.heap.size, i, none⟩ = false := fun i => by simp [World.frozen?, Hz.out]
  have n0 := hide (fun (y : World) (hy : Below W.heap.size W y) => (show Calls Try.prog 28 #[.slice A b.length c, .int .i64 0, .int .i64 2] y fun e w' => e = .returned (.int .i64 (wrap64 ((getN (mid b 0 2) : Nat) : Int))) ∧ y = w' from rnumber_calls A b c 0 2 _ y Hm.out hc (by omega) (by omega) (Hr.out.below hy)))
  rw [wrap_small (Nat.le_trans (Nat.le_of_eq (mid_len (by omega))) (by omega))] at n0
  generalize getN (mid b 0 2) = x0 at *
  have hq : ((x0 : Int) != 16716) = true := by simp; omega
  have hl42 : (42 : Int) ≤ (b.length : Int) := by omega
  go_enter Try.func12, Try.ntmps12
  go_wp2_with fail
  rw [← HW.out]
  refine (n0.out W (Below.refl _ _)).mono ?_
  rintro e w' ⟨rfl, rfl⟩
  go_wp2_with fail
  obtain ⟨Z, hZ⟩ : ∃ Z, Z = (((((((((W.setCell ⟨w.heap.size, 0, none⟩ (.int .u64 0)).setCell ⟨w.heap.size, 1, none⟩ (.int .i64 0)).setCell ⟨w.heap.size, 2, none⟩ (.int .i64 0)).setCell ⟨w.heap.size, 3, none⟩ (.int .i64 0)).setCell ⟨w.heap.size, 4, none⟩ (.int .i64 0)).setCell ⟨w.heap.size, 5, none⟩ (.int .i64 0)).setCell ⟨w.heap.size, 6, none⟩ (.int .i64 0)).setCell ⟨w.heap.size, 7, none⟩ (.int .u64 0)).setCell ⟨w.heap.size, 8, none⟩ (.slice none 0 0)) := ⟨_, rfl⟩
  obtain ⟨hhZ, hcZ⟩ := set9 _ _ _ _ _ _ _ _ _ Hz.out hZ
  obtain ⟨p0, p1, p2, p3, p4, p5, p6, p7, p8⟩ := ret9 (w := Z) (u := undef) hhZ
  rw [← hZ]
  refine bodyPost_ret (v := .tuple #[zPk, .int .i64 5]) ?_ rfl ?_
  · simp [results, Try.results12, go_sem, p0, p1, p2, p3, p4, p5, p6, p7, p8]
  exact hR.out _ _ ⟨rfl, hcZ.below hb.out (by have := (hb.out).size; omega) (fun b hb => by omega)⟩

set_option maxRecDepth 100000 in
set_option maxHeartbeats 2000000 in
theorem rpar6 (A : Option Addr) (b : List UInt8) (c : Nat) (w : World) (hm : c ≤ maxLen) (hc : b.length ≤ c) (hl : b.length ≤ 100000) (h : RdL Kd.byte (· < w.heap.size) w A b) (h42 : 42 ≤ b.length) (h5 : getN (mid b 0 2) = 16716) (h6 : b.getD 2 0 ≠ 1) :
    Calls Try.prog 12 #[.slice A b.length c] w fun e w' => e = .returned (.tuple #[zPk, .int .i64 6]) ∧ Below w.heap.size w w' := by
  refine cps fun R hR => ?_
  have Hm := hide hm
  unfold maxLen at hm
  obtain ⟨W, hW⟩ : ∃ W, W = w.alloc (.cells #[.int .u64 0, .int .i64 0, .int .i64 0, .int .i64 0, .int .i64 0, .int .i64 0, .int .i64 0, .int .u64 0, .slice none 0 0] 32) := ⟨_, rfl⟩
  have hz : W.heap[w.heap.size]? = some (.cells #[.int .u64 0, .int .i64 0, .int .i64 0, .int .i64 0, .int .i64 0, .int .i64 0, .int .i64 0, .int .u64 0, .slice none 0 0] 32 (0, 0)) := by rw [hW]; exact heap_alloc_new w _
  have hb := hide (show Below w.heap.size w W by rw [hW]; exact balloc w _)
  have hs := hide (show w.heap.size < W.heap.size by rw [hW]; simp)
  have Hz := hide hz
  have HW := hide hW
  have Hr := hide ((h.below hb.out).mono (S' := (· < W.heap.size)) fun k hk => Nat.lt_trans hk hs.out)
  clear hz hW h
  obtain ⟨z0, z1, z2, z3, z4, z5, z6, z7, z8⟩ := ret9 (w := W) (u := undef) Hz.out
  have zf : ∀ i, W.frozen? ⟨w.heap.size, i, none⟩ = false := fun i => by simp [World.frozen?, Hz.out]
  have n0 := hide (fun (y : World) (hy : Below W.heap.size W y) => (show Calls Try.prog 28 #[.slice A b.length c, .int .i64 0, .int .i64 2] y fun e w' => e = .returned (.int .i64 (wrap64 ((getN (mid b 0 2) : Nat) : Int))) ∧ y = w' from rnumber_calls A b c 0 2 _ y Hm.out hc (by omega) (by omega) (Hr.out.below hy)))
  rw [wrap_small (Nat.le_trans (Nat.le_of_eq (mid_len (by omega))) (by omega))] at n0
  obtain ⟨bb, ob, u, rfl, hsb, hu, hcl⟩ := Hr.out.at1 rfl (show 2 < b.length by omega)
  obtain rfl := Kd.byte_cell hu
  have hx2 := hide (show b.getD 2 0 = b[2] by simp [List.getD, show 2 < b.length by omega])
  rw [hx2.out] at h6
  rw [h5] at n0
  have n0' := hide (show ∀ (y : World), Below W.heap.size W y → Calls Try.prog 28 #[.slice (some ⟨bb, ob, none⟩) b.length c, .int .i64 0, .int .i64 2] y fun e w' => e = .returned (.int .i64 16716) ∧ y = w' from n0.out)
  have hl42 : (42 : Int) ≤ (b.length : Int) := by omega
  have hl3 : (2 : Int) < (b.length : Int) := by omega
  clear hu n0
  have hq : ((b[2].toNat : Int) != 1) = true := by have := eq8 b[2] 1; rw [bne, show ((b[2].toNat : Int) == 1) = (b[2] == 1) from this]; simpa using h6
  generalize (b[2].toNat : Int) = x2 at *
  clear h6
  go_enter Try.func12, Try.ntmps12
  go_wp2_with fail
  rw [← HW.out]
  refine (n0'.out W (Below.refl _ _)).mono ?_
  rintro e w' ⟨rfl, rfl⟩
  go_wp2_with fail
  obtain ⟨Z, hZ⟩ : ∃ Z, Z = (((((((((W.setCell ⟨w.heap.size, 0, none⟩ (.int .u64 0)).setCell ⟨w.heap.size, 1, none⟩ (.int .i64 0)).setCell ⟨w.heap.size, 2, none⟩ (.int .i64 0)).setCell ⟨w.heap.size, 3, none⟩ (.int .i64 0)).setCell ⟨w.heap.size, 4, none⟩ (.int .i64 0)).setCell ⟨w.heap.size, 5, none⟩ (.int .i64 0)).setCell ⟨w.heap.size, 6, none⟩ (.int .i64 0)).setCell ⟨w.heap.size, 7, none⟩ (.int .u64 0)).setCell ⟨w.heap.size, 8, none⟩ (.slice none 0 0)) := ⟨_, rfl⟩
  obtain ⟨hhZ, hcZ⟩ := set9 _ _ _ _ _ _ _ _ _ Hz.out hZ
  obtain ⟨p0, p1, p2, p3, p4, p5, p6, p7, p8⟩ := ret9 (w := Z) (u := undef) hhZ
  rw [← hZ]
  refine bodyPost_ret (v := .tuple #[zPk, .int .i64 6]) ?_ rfl ?_
  · simp [results, Try.results12, go_sem, p0, p1, p2, p3, p4, p5, p6, p7, p8]
  exact hR.out _ _ ⟨rfl, hcZ.below hb.out (by have := (hb.out).size; omega) (fun b hb => by omega)⟩

end Go.Proofs.Ytopfpadfjfmmiaa
