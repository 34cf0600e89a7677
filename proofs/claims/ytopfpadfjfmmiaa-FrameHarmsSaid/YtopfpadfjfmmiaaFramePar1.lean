/- The program's reading of bytes as a packet: walked. -/
import Derived.Test.YtopfpadfjfmmiaaFrameRpar1
set_option linter.unusedVariables false
set_option linter.unusedSimpArgs false
namespace Go.Proofs.Ytopfpadfjfmmiaa
open Go.RowKit

theorem getN_one (b : List UInt8) (h : 2 < b.length) : getN (mid b 2 1) = (b.getD 2 0).toNat := by
  have e0 : b.getD 2 0 = b[2] := by simp [List.getD, h]
  have e : mid b 2 1 = [b[2]] := by
    unfold mid
    rw [List.drop_eq_getElem_cons h]
    rfl
  have hx := (b[2]).toNat_lt
  rw [e, e0]
  simp [getN]
theorem mid_drop (b : List UInt8) (q p n : Nat) : mid (b.drop q) p n = mid b (q + p) n := by simp [mid, List.drop_drop]

set_option maxRecDepth 100000 in
set_option maxHeartbeats 2000000 in
theorem fpar4 (gc gt : Nat) (A : Option Addr) (b : List UInt8) (c : Nat) (w : World) (hgc : w.heap[gc]? = some (.cells #[.pointer (some ⟨gt, 0, none⟩)] 62 (0, 0))) (ht : TabAt w gt 256) (hm : c ≤ maxLen) (hc : b.length ≤ c) (hl : b.length ≤ 100000) (h : RdL Kd.byte (· < w.heap.size) w A b) (h4 : b.length < 42) :
    Calls Try.prog 11 #[.pointer (some ⟨gc, 0, none⟩), .slice A b.length c] w fun e w' => e = .returned (.tuple #[zPk, .int .i64 4]) ∧ Below w.heap.size w w' := by
  refine cps fun R hR => ?_
  have Hm := hide hm
  unfold maxLen at hm
  obtain ⟨W, hW⟩ : ∃ W, W = w.alloc (.cells #[.int .u64 0, .int .i64 0, .int .i64 0, .int .i64 0, .int .i64 0, .int .i64 0, .int .i64 0, .int .u64 0, .slice none 0 0] 32) := ⟨_, rfl⟩
  have hz : W.heap[w.heap.size]? = some (.cells #[.int .u64 0, .int .i64 0, .int .i64 0, .int .i64 0, .int .i64 0, .int .i64 0, .int .i64 0, .int .u64 0, .slice none 0 0] 32 (0, 0)) := by rw [hW]; exact heap_alloc_new w _
  have hb := hide (show Below w.heap.size w W by rw [hW]; exact balloc w _)
  have hs := hide (show w.heap.size < W.heap.size by rw [hW]; simp)
  have hgl := hide (Array.getElem?_eq_some_iff.1 hgc).1
  have htl := hide ht.lt
  have Hgc := hide ((hb.out.block gc hgl.out).trans hgc)
  have Ht := hide (ht.keep (hb.out.block gt htl.out))
  have Hz := hide hz
  have HW := hide hW
  have Hr := hide ((h.below hb.out).mono (S' := (· < W.heap.size)) fun k hk => Nat.lt_trans hk hs.out)
  clear hz hW h hgc ht
  obtain ⟨z0, z1, z2, z3, z4, z5, z6, z7, z8⟩ := ret9 (w := W) (u := undef) Hz.out
  have zf : ∀ i, W.frozen? ⟨w.heap.size, i, none⟩ = false := fun i => by simp [World.frozen?, Hz.out]
  go_enter Try.func11, Try.ntmps11
  go_wp2_with fail
  rw [← HW.out]
  refine bodyPost_ret (v := .tuple #[zPk, .int .i64 4]) ?_ rfl ?_
  · simp [results, Try.results11, go_sem, z0, z1, z2, z3, z4, z5, z6, z7, z8]
  exact hR.out _ _ ⟨rfl, hb.out⟩

set_option maxRecDepth 100000 in
set_option maxHeartbeats 2000000 in
theorem fpar5 (gc gt : Nat) (A : Option Addr) (b : List UInt8) (c : Nat) (w : World) (hgc : w.heap[gc]? = some (.cells #[.pointer (some ⟨gt, 0, none⟩)] 62 (0, 0))) (ht : TabAt w gt 256) (hm : c ≤ maxLen) (hc : b.length ≤ c) (hl : b.length ≤ 100000) (h : RdL Kd.byte (· < w.heap.size) w A b) (h42 : 42 ≤ b.length) (h5 : getN (mid b 0 2) ≠ 16716) :
    Calls Try.prog 11 #[.pointer (some ⟨gc, 0, none⟩), .slice A b.length c] w fun e w' => e = .returned (.tuple #[zPk, .int .i64 5]) ∧ Below w.heap.size w w' := by
  refine cps fun R hR => ?_
  have Hm := hide hm
  unfold maxLen at hm
  obtain ⟨W, hW⟩ : ∃ W, W = w.alloc (.cells #[.int .u64 0, .int .i64 0, .int .i64 0, .int .i64 0, .int .i64 0, .int .i64 0, .int .i64 0, .int .u64 0, .slice none 0 0] 32) := ⟨_, rfl⟩
  have hz : W.heap[w.heap.size]? = some (.cells #[.int .u64 0, .int .i64 0, .int .i64 0, .int .i64 0, .int .i64 0, .int .i64 0, .int .i64 0, .int .u64 0, .slice none 0 0] 32 (0, 0)) := by rw [hW]; exact heap_alloc_new w _
  have hb := hide (show Below w.heap.size w W by rw [hW]; exact balloc w _)
  have hs := hide (show w.heap.size < W.heap.size by rw [hW]; simp)
  have hgl := hide (Array.getElem?_eq_some_iff.1 hgc).1
  have htl := hide ht.lt
  have Hgc := hide ((hb.out.block gc hgl.out).trans hgc)
  have Ht := hide (ht.keep (hb.out.block gt htl.out))
  have Hz := hide hz
  have HW := hide hW
  have Hr := hide ((h.below hb.out).mono (S' := (· < W.heap.size)) fun k hk => Nat.lt_trans hk hs.out)
  clear hz hW h hgc ht
  have hrd := hide (read_calls A b c _ W Hm.out hc hl Hr.out)
  have hl42 : (42 : Int) ≤ (b.length : Int) := by omega
  go_enter Try.func11, Try.ntmps11
  go_wp2_with fail
  rw [← HW.out]
  refine hrd.out.mono ?_
  rintro e w1 ⟨g, A1, c1, S1, rfl, hrea, hb1, hown⟩
  have Hrea1 := hide hrea
  have hown' := hide hown
  have hgz := hide (show g ≠ w.heap.size by have := hown g (.inl rfl); have := hs.out; omega)
  have hbw1 := hide (hb.out.trans (hb1.mono hb.out.size))
  have hz1 := hide ((hb1.block w.heap.size hs.out).trans Hz.out)
  have hbW1 := hide hb1
  clear hrea hown hb1 hrd
  go_wp2_with fail
  have htk1 := hide (show Calls Try.prog 24 #[.pointer (some ⟨g, 0, none⟩), .int .i64 2] w1 fun e w' => e = .returned (.tuple #[.int .u64 ((getN ((b).take 2) : Nat) : Int), .bool true]) ∧ Rea w' g (dropA A1 c1 2) (c1 - 2) ((b).drop 2) S1 ∧ Ch (· = g) w1 w' from take_calls g A1 c1 (b) S1 2 w1 Hrea1.out (by omega) (by omega) (by first | omega | (simp only [List.length_drop]; omega)))
  rw [show (b.take 2) = mid b 0 2 from rfl] at htk1
  generalize getN (mid b 0 2) = x0 at *
  have hq : ((x0 : Int) != 16716) = true := by simp; omega
  refine htk1.out.mono ?_
  rintro e w2 ⟨rfl, hrea, hch⟩
  have Hrea2 := hide hrea
  have hbw2 := hide (hch.below hbw1.out hbw1.out.size (fun b hb => by subst hb; have := hown'.out b (.inl rfl); have := hs.out; omega))
  have hz2 := hide ((hch.block w.heap.size (by have := hs.out; have := hbW1.out.size; omega) (fun e => hgz.out e.symm)).trans hz1.out)
  have hbW2 := hide (hch.below hbW1.out hbW1.out.size (fun b hb => by subst hb; exact hown'.out b (.inl rfl)))
  obtain ⟨A2, hA2⟩ : ∃ x, x = dropA A1 c1 2 := ⟨_, rfl⟩
  obtain ⟨c2, hc2⟩ : ∃ x, x = c1 - 2 := ⟨_, rfl⟩
  rw [← hA2, ← hc2] at Hrea2
  clear hrea hch htk1 hA2 hc2 Hrea1
  obtain ⟨z0, z1, z2, z3, z4, z5, z6, z7, z8⟩ := ret9 (w := w2) (u := undef) hz2.out
  have zf : ∀ i, w2.frozen? ⟨w.heap.size, i, none⟩ = false := fun i => by simp [World.frozen?, hz2.out]
  go_wp2_with fail
  obtain ⟨Z, hZ⟩ : ∃ Z, Z = (((((((((w2.setCell ⟨w.heap.size, 0, none⟩ (.int .u64 0)).setCell ⟨w.heap.size, 1, none⟩ (.int .i64 0)).setCell ⟨w.heap.size, 2, none⟩ (.int .i64 0)).setCell ⟨w.heap.size, 3, none⟩ (.int .i64 0)).setCell ⟨w.heap.size, 4, none⟩ (.int .i64 0)).setCell ⟨w.heap.size, 5, none⟩ (.int .i64 0)).setCell ⟨w.heap.size, 6, none⟩ (.int .i64 0)).setCell ⟨w.heap.size, 7, none⟩ (.int .u64 0)).setCell ⟨w.heap.size, 8, none⟩ (.slice none 0 0)) := ⟨_, rfl⟩
  obtain ⟨hhZ, hcZ⟩ := set9 _ _ _ _ _ _ _ _ _ hz2.out hZ
  obtain ⟨p0, p1, p2, p3, p4, p5, p6, p7, p8⟩ := ret9 (w := Z) (u := undef) hhZ
  rw [← hZ]
  refine bodyPost_ret (v := .tuple #[zPk, .int .i64 5]) ?_ rfl ?_
  · simp [results, Try.results11, go_sem, p0, p1, p2, p3, p4, p5, p6, p7, p8]
  exact hR.out _ _ ⟨rfl, hcZ.below hbw2.out (by have := (hbw2.out).size; omega) (fun b hb => by omega)⟩

set_option maxRecDepth 100000 in
set_option maxHeartbeats 2000000 in
theorem fpar6 (gc gt : Nat) (A : Option Addr) (b : List UInt8) (c : Nat) (w : World) (hgc : w.heap[gc]? = some (.cells #[.pointer (some ⟨gt, 0, none⟩)] 62 (0, 0))) (ht : TabAt w gt 256) (hm : c ≤ maxLen) (hc : b.length ≤ c) (hl : b.length ≤ 100000) (h : RdL Kd.byte (· < w.heap.size) w A b) (h42 : 42 ≤ b.length) (h5 : getN (mid b 0 2) = 16716) (h6 : b.getD 2 0 ≠ 1) :
    Calls Try.prog 11 #[.pointer (some ⟨gc, 0, none⟩), .slice A b.length c] w fun e w' => e = .returned (.tuple #[zPk, .int .i64 6]) ∧ Below w.heap.size w w' := by
  refine cps fun R hR => ?_
  have Hm := hide hm
  unfold maxLen at hm
  obtain ⟨W, hW⟩ : ∃ W, W = w.alloc (.cells #[.int .u64 0, .int .i64 0, .int .i64 0, .int .i64 0, .int .i64 0, .int .i64 0, .int .i64 0, .int .u64 0, .slice none 0 0] 32) := ⟨_, rfl⟩
  have hz : W.heap[w.heap.size]? = some (.cells #[.int .u64 0, .int .i64 0, .int .i64 0, .int .i64 0, .int .i64 0, .int .i64 0, .int .i64 0, .int .u64 0, .slice none 0 0] 32 (0, 0)) := by rw [hW]; exact heap_alloc_new w _
  have hb := hide (show Below w.heap.size w W by rw [hW]; exact balloc w _)
  have hs := hide (show w.heap.size < W.heap.size by rw [hW]; simp)
  have hgl := hide (Array.getElem?_eq_some_iff.1 hgc).1
  have htl := hide ht.lt
  have Hgc := hide ((hb.out.block gc hgl.out).trans hgc)
  have Ht := hide (ht.keep (hb.out.block gt htl.out))
  have Hz := hide hz
  have HW := hide hW
  have Hr := hide ((h.below hb.out).mono (S' := (· < W.heap.size)) fun k hk => Nat.lt_trans hk hs.out)
  clear hz hW h hgc ht
  have hrd := hide (read_calls A b c _ W Hm.out hc hl Hr.out)
  have hl42 : (42 : Int) ≤ (b.length : Int) := by omega
  go_enter Try.func11, Try.ntmps11
  go_wp2_with fail
  rw [← HW.out]
  refine hrd.out.mono ?_
  rintro e w1 ⟨g, A1, c1, S1, rfl, hrea, hb1, hown⟩
  have Hrea1 := hide hrea
  have hown' := hide hown
  have hgz := hide (show g ≠ w.heap.size by have := hown g (.inl rfl); have := hs.out; omega)
  have hbw1 := hide (hb.out.trans (hb1.mono hb.out.size))
  have hz1 := hide ((hb1.block w.heap.size hs.out).trans Hz.out)
  have hbW1 := hide hb1
  clear hrea hown hb1 hrd
  go_wp2_with fail
  have htk1 := hide (show Calls Try.prog 24 #[.pointer (some ⟨g, 0, none⟩), .int .i64 2] w1 fun e w' => e = .returned (.tuple #[.int .u64 ((getN ((b).take 2) : Nat) : Int), .bool true]) ∧ Rea w' g (dropA A1 c1 2) (c1 - 2) ((b).drop 2) S1 ∧ Ch (· = g) w1 w' from take_calls g A1 c1 (b) S1 2 w1 Hrea1.out (by omega) (by omega) (by first | omega | (simp only [List.length_drop]; omega)))
  rw [show (b.take 2) = mid b 0 2 from rfl] at htk1
  rw [h5] at htk1
  refine htk1.out.mono ?_
  rintro e w2 ⟨rfl, hrea, hch⟩
  have Hrea2 := hide hrea
  have hbw2 := hide (hch.below hbw1.out hbw1.out.size (fun b hb => by subst hb; have := hown'.out b (.inl rfl); have := hs.out; omega))
  have hz2 := hide ((hch.block w.heap.size (by have := hs.out; have := hbW1.out.size; omega) (fun e => hgz.out e.symm)).trans hz1.out)
  have hbW2 := hide (hch.below hbW1.out hbW1.out.size (fun b hb => by subst hb; exact hown'.out b (.inl rfl)))
  obtain ⟨A2, hA2⟩ : ∃ x, x = dropA A1 c1 2 := ⟨_, rfl⟩
  obtain ⟨c2, hc2⟩ : ∃ x, x = c1 - 2 := ⟨_, rfl⟩
  rw [← hA2, ← hc2] at Hrea2
  clear hrea hch htk1 hA2 hc2 Hrea1
  go_wp2_with fail
  have htk2 := hide (show Calls Try.prog 24 #[.pointer (some ⟨g, 0, none⟩), .int .i64 1] w2 fun e w' => e = .returned (.tuple #[.int .u64 ((getN ((b.drop 2).take 1) : Nat) : Int), .bool true]) ∧ Rea w' g (dropA A2 c2 1) (c2 - 1) ((b.drop 2).drop 1) S1 ∧ Ch (· = g) w2 w' from take_calls g A2 c2 (b.drop 2) S1 1 w2 Hrea2.out (by omega) (by omega) (by first | omega | (simp only [List.length_drop]; omega)))
  rw [show ((b.drop 2).take 1) = mid b 2 1 from rfl, getN_one b (by omega)] at htk2
  have hq : (((b.getD 2 0).toNat : Int) != 1) = true := by have := eq8 (b.getD 2 0) 1; rw [bne, show (((b.getD 2 0).toNat : Int) == 1) = (b.getD 2 0 == 1) from this]; simpa using h6
  generalize ((b.getD 2 0).toNat : Int) = x2 at *
  refine htk2.out.mono ?_
  rintro e w3 ⟨rfl, hrea, hch⟩
  have Hrea3 := hide hrea
  have hbw3 := hide (hch.below hbw2.out hbw2.out.size (fun b hb => by subst hb; have := hown'.out b (.inl rfl); have := hs.out; omega))
  have hz3 := hide ((hch.block w.heap.size (by have := hs.out; have := hbW2.out.size; omega) (fun e => hgz.out e.symm)).trans hz2.out)
  have hbW3 := hide (hch.below hbW2.out hbW2.out.size (fun b hb => by subst hb; exact hown'.out b (.inl rfl)))
  obtain ⟨A3, hA3⟩ : ∃ x, x = dropA A2 c2 1 := ⟨_, rfl⟩
  obtain ⟨c3, hc3⟩ : ∃ x, x = c2 - 1 := ⟨_, rfl⟩
  rw [← hA3, ← hc3] at Hrea3
  clear hrea hch htk2 hA3 hc3 Hrea2
  obtain ⟨z0, z1, z2, z3, z4, z5, z6, z7, z8⟩ := ret9 (w := w3) (u := undef) hz3.out
  have zf : ∀ i, w3.frozen? ⟨w.heap.size, i, none⟩ = false := fun i => by simp [World.frozen?, hz3.out]
  go_wp2_with fail
  obtain ⟨Z, hZ⟩ : ∃ Z, Z = (((((((((w3.setCell ⟨w.heap.size, 0, none⟩ (.int .u64 0)).setCell ⟨w.heap.size, 1, none⟩ (.int .i64 0)).setCell ⟨w.heap.size, 2, none⟩ (.int .i64 0)).setCell ⟨w.heap.size, 3, none⟩ (.int .i64 0)).setCell ⟨w.heap.size, 4, none⟩ (.int .i64 0)).setCell ⟨w.heap.size, 5, none⟩ (.int .i64 0)).setCell ⟨w.heap.size, 6, none⟩ (.int .i64 0)).setCell ⟨w.heap.size, 7, none⟩ (.int .u64 0)).setCell ⟨w.heap.size, 8, none⟩ (.slice none 0 0)) := ⟨_, rfl⟩
  obtain ⟨hhZ, hcZ⟩ := set9 _ _ _ _ _ _ _ _ _ hz3.out hZ
  obtain ⟨p0, p1, p2, p3, p4, p5, p6, p7, p8⟩ := ret9 (w := Z) (u := undef) hhZ
  rw [← hZ]
  refine bodyPost_ret (v := .tuple #[zPk, .int .i64 6]) ?_ rfl ?_
  · simp [results, Try.results11, go_sem, p0, p1, p2, p3, p4, p5, p6, p7, p8]
  exact hR.out _ _ ⟨rfl, hcZ.below hbw3.out (by have := (hbw3.out).size; omega) (fun b hb => by omega)⟩

end Go.Proofs.Ytopfpadfjfmmiaa
