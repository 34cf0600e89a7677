/- The program's reading of bytes as a packet: the header, and what is behind it. -/
import Derived.Test.YtopfpadfjfmmiaaFramePar1
set_option linter.unusedVariables false
set_option linter.unusedSimpArgs false
namespace Go.Proofs.Ytopfpadfjfmmiaa
open Go.RowKit

set_option maxRecDepth 100000 in
set_option maxHeartbeats 2000000 in
theorem fpar1 (gc gt : Nat) (A : Option Addr) (b : List UInt8) (c : Nat) (w : World) (hgc : w.heap[gc]? = some (.cells #[.pointer (some ⟨gt, 0, none⟩)] 62 (0, 0))) (ht : TabAt w gt 256) (hm : c ≤ maxLen) (hc : b.length ≤ c) (hl : b.length ≤ 100000) (h : RdL Kd.byte (· < w.heap.size) w A b) (h42 : 42 ≤ b.length) (h5 : getN (mid b 0 2) = 16716) (h6 : b.getD 2 0 = 1) (hmay : mayF b = false) :
    Calls Try.prog 11 #[.pointer (some ⟨gc, 0, none⟩), .slice A b.length c] w fun e w' => e = .returned (.tuple #[zPk, .int .i64 1]) ∧ Below w.heap.size w w' := by
  refine cps fun R hR => ?_
  have Hm := hide hm
  unfold maxLen at hm
  obtain ⟨W, hW⟩ : ∃ W, W = w.alloc (.cells #[.int .u64 0, .int .i64 0, .int .i64 0, .int .i64 0, .int .i64 0, .int .i64 0, .int .i64 0, .int .u64 0, .slice none 0 0] 32) := ⟨_, rfl⟩
  have hz : W.heap[w.heap.size]? = some (.cells #[.int .u64 0, .int .i64 0, .int .i64 0, .int .i64 0, .int .i64 0, .int .i64 0, .int .i64 0, .int .u64 0, .slice none 0 0] 32 (0, 0)) := by rw [hW]; exact heap_alloc_new w _
  have hb := hide (show Below w.heap.size w W by rw [hW]; exact balloc w _)
  have hs := hide (show w.heap.size < W.heap.size by rw [hW]; simp)
  have hgl := hide (Array.getElem?_eq_some_iff.1 hgc).1
  have htl := hide ht.lt
  have Hgc := hide ((hb.out.block gc hgl.out).trans hgc)
  have Ht := hide (ht.keep (hb.out.block gt htl.out))
  have Hz := hide hz
  have HW := hide hW
  have Hr := hide ((h.below hb.out).mono (S' := (· < W.heap.size)) fun k hk => Nat.lt_trans hk hs.out)
  clear hz hW h hgc ht
  have hrd := hide (read_calls A b c _ W Hm.out hc hl Hr.out)
  have hl42 : (42 : Int) ≤ (b.length : Int) := by omega
  go_enter Try.func11, Try.ntmps11
  go_wp2_with fail
  rw [← HW.out]
  refine hrd.out.mono ?_
  rintro e w1 ⟨g, A1, c1, S1, rfl, hrea, hb1, hown⟩
  have Hrea1 := hide hrea
  have hown' := hide hown
  have hgz := hide (show g ≠ w.heap.size by have := hown g (.inl rfl); have := hs.out; omega)
  have hbw1 := hide (hb.out.trans (hb1.mono hb.out.size))
  have hz1 := hide ((hb1.block w.heap.size hs.out).trans Hz.out)
  have hbW1 := hide hb1
  clear hrea hown hb1 hrd
  go_wp2_with fail
  have htk1 := hide (show Calls Try.prog 24 #[.pointer (some ⟨g, 0, none⟩), .int .i64 2] w1 fun e w' => e = .returned (.tuple #[.int .u64 ((getN ((b).take 2) : Nat) : Int), .bool true]) ∧ Rea w' g (dropA A1 c1 2) (c1 - 2) ((b).drop 2) S1 ∧ Ch (· = g) w1 w' from take_calls g A1 c1 (b) S1 2 w1 Hrea1.out (by omega) (by omega) (by first | omega | (simp only [List.length_drop]; omega)))
  rw [show (b.take 2) = mid b 0 2 from rfl] at htk1
  rw [h5] at htk1
  refine htk1.out.mono ?_
  rintro e w2 ⟨rfl, hrea, hch⟩
  have Hrea2 := hide hrea
  have hbw2 := hide (hch.below hbw1.out hbw1.out.size (fun b hb => by subst hb; have := hown'.out b (.inl rfl); have := hs.out; omega))
  have hz2 := hide ((hch.block w.heap.size (by have := hs.out; have := hbW1.out.size; omega) (fun e => hgz.out e.symm)).trans hz1.out)
  have hbW2 := hide (hch.below hbW1.out hbW1.out.size (fun b hb => by subst hb; exact hown'.out b (.inl rfl)))
  obtain ⟨A2, hA2⟩ : ∃ x, x = dropA A1 c1 2 := ⟨_, rfl⟩
  obtain ⟨c2, hc2⟩ : ∃ x, x = c1 - 2 := ⟨_, rfl⟩
  rw [← hA2, ← hc2] at Hrea2
  clear hrea hch htk1 hA2 hc2 Hrea1
  go_wp2_with fail
  have htk2 := hide (show Calls Try.prog 24 #[.pointer (some ⟨g, 0, none⟩), .int .i64 1] w2 fun e w' => e = .returned (.tuple #[.int .u64 ((getN ((b.drop 2).take 1) : Nat) : Int), .bool true]) ∧ Rea w' g (dropA A2 c2 1) (c2 - 1) ((b.drop 2).drop 1) S1 ∧ Ch (· = g) w2 w' from take_calls g A2 c2 (b.drop 2) S1 1 w2 Hrea2.out (by omega) (by omega) (by first | omega | (simp only [List.length_drop]; omega)))
  rw [show ((b.drop 2).take 1) = mid b 2 1 from rfl, getN_one b (by omega)] at htk2
  rw [h6] at htk2
  have htk2' := hide (show Calls Try.prog 24 #[.pointer (some ⟨g, 0, none⟩), .int .i64 1] w2 fun e w' => e = .returned (.tuple #[.int .u64 1, .bool true]) ∧ Rea w' g (dropA A2 c2 1) (c2 - 1) ((b.drop 2).drop 1) S1 ∧ Ch (· = g) w2 w' from htk2.out)
  clear htk2
  have htk2 := htk2'
  clear htk2'
  refine htk2.out.mono ?_
  rintro e w3 ⟨rfl, hrea, hch⟩
  have Hrea3 := hide hrea
  have hbw3 := hide (hch.below hbw2.out hbw2.out.size (fun b hb => by subst hb; have := hown'.out b (.inl rfl); have := hs.out; omega))
  have hz3 := hide ((hch.block w.heap.size (by have := hs.out; have := hbW2.out.size; omega) (fun e => hgz.out e.symm)).trans hz2.out)
  have hbW3 := hide (hch.below hbW2.out hbW2.out.size (fun b hb => by subst hb; exact hown'.out b (.inl rfl)))
  obtain ⟨A3, hA3⟩ : ∃ x, x = dropA A2 c2 1 := ⟨_, rfl⟩
  obtain ⟨c3, hc3⟩ : ∃ x, x = c2 - 1 := ⟨_, rfl⟩
  rw [← hA3, ← hc3] at Hrea3
  clear hrea hch htk2 hA3 hc3 Hrea2
  go_wp2_with fail
  rw [show (b.drop 2).drop 1 = b.drop 3 by rw [List.drop_drop]] at Hrea3
  have hhd := hide (show Calls Try.prog 25 #[.pointer (some ⟨g, 0, none⟩)] w3 fun e w' => e = .returned (.agg #[.int .u64 ((getN (mid b 3 8) : Nat) : Int), .int .i64 ((getN (mid b 11 4) : Nat) : Int), .int .i64 ((getN (mid b 15 2) : Nat) : Int), .int .i64 ((getN (mid b 17 1) : Nat) : Int), .int .i64 ((getN (mid b 18 2) : Nat) : Int), .int .i64 ((getN (mid b 20 2) : Nat) : Int), .int .i64 (wrap64 ((getN (mid b 22 8) : Nat) : Int)), .int .u64 ((getN (mid b 30 8) : Nat) : Int)]) ∧ (∃ A', Rea w' g A' (c3 - 35) (b.drop 38) S1) ∧ Ch (· = g) w3 w' from by
    have := header_calls g A3 c3 (b.drop 3) S1 w3 Hrea3.out (by rw [List.length_drop]; omega)
    simp only [mid_drop, List.drop_drop] at this
    exact this)
  unfold mayF at hmay
  generalize getN (mid b 3 8) = x1 at *
  generalize getN (mid b 11 4) = x2 at *
  generalize getN (mid b 15 2) = x3 at *
  generalize getN (mid b 17 1) = x4 at *
  generalize getN (mid b 18 2) = x5 at *
  generalize getN (mid b 20 2) = x6 at *
  generalize wrap64 ((getN (mid b 22 8) : Nat) : Int) = x7 at *
  generalize getN (mid b 30 8) = x8 at *
  have hck := hide (fun w => (show Calls Try.prog 16 #[.agg #[.int .u64 (x1 : Int), .int .i64 (x2 : Int), .int .i64 (x3 : Int), .int .i64 (x4 : Int), .int .i64 (x5 : Int), .int .i64 (x6 : Int), .int .i64 x7, .int .u64 (x8 : Int)]] w fun e w' => e = .returned (.int .i64 1) ∧ Below w.heap.size w w' from by have := fcheck_calls (x1 : Int) (x8 : Int) x2 x3 x4 x5 x6 x7 w; rwa [hmay] at this))
  clear hmay
  refine hhd.out.mono ?_
  rintro e w4 ⟨rfl, ⟨A4, hrea4⟩, hch4⟩
  have Hrea4 := hide hrea4
  have hbw4 := hide (hch4.below hbw3.out hbw3.out.size (fun b hb => by subst hb; have := hown'.out b (.inl rfl); have := hs.out; omega))
  have hz4 := hide ((hch4.block w.heap.size (by have := hs.out; have := hbW3.out.size; omega) (fun e => hgz.out e.symm)).trans hz3.out)
  have hbW4 := hide (hch4.below hbW3.out hbW3.out.size (fun b hb => by subst hb; exact hown'.out b (.inl rfl)))
  clear hrea4 hch4 hhd Hrea3
  go_wp2_with fail
  refine (hck.out _).mono ?_
  rintro e w5 ⟨rfl, hb5'⟩
  have hb5 := hide ((balloc w4 (.cells #[.int .u64 (x1 : Int), .int .i64 (x2 : Int), .int .i64 (x3 : Int), .int .i64 (x4 : Int), .int .i64 (x5 : Int), .int .i64 (x6 : Int), .int .i64 x7, .int .u64 (x8 : Int)] 30)).trans (hb5'.mono (balloc w4 (.cells #[.int .u64 (x1 : Int), .int .i64 (x2 : Int), .int .i64 (x3 : Int), .int .i64 (x4 : Int), .int .i64 (x5 : Int), .int .i64 (x6 : Int), .int .i64 x7, .int .u64 (x8 : Int)] 30)).size))
  have hh5 := hide ((hb5'.block w4.heap.size (by simp)).trans (heap_alloc_new w4 (.cells #[.int .u64 (x1 : Int), .int .i64 (x2 : Int), .int .i64 (x3 : Int), .int .i64 (x4 : Int), .int .i64 (x5 : Int), .int .i64 (x6 : Int), .int .i64 x7, .int .u64 (x8 : Int)] 30)))
  have hbw5 := hide (hbw4.out.trans (hb5.out.mono hbw4.out.size))
  have hbW5 := hide (hbW4.out.trans (hb5.out.mono hbW4.out.size))
  have hz5 := hide ((hb5.out.block w.heap.size (by have := hs.out; have := hbW4.out.size; omega)).trans hz4.out)
  have Hrea5 := hide (Hrea4.out.ch (Ch.of_below (S := fun _ => False) hb5.out) (fun _ _ h => h))
  have y2 : w5.cell? ⟨w4.heap.size, 2, none⟩ = some (.int .i64 (x3 : Int)) := cell_of_row w5 w4.heap.size 2 _ _ (0, 0) hh5.out
  clear hb5' hck Hrea4
  obtain ⟨z0, z1, z2, z3, z4, z5, z6, z7, z8⟩ := ret9 (w := w5) (u := undef) hz5.out
  have zf : ∀ i, w5.frozen? ⟨w.heap.size, i, none⟩ = false := fun i => by simp [World.frozen?, hz5.out]
  go_wp2_with fail
  obtain ⟨Z, hZ⟩ : ∃ Z, Z = (((((((((w5.setCell ⟨w.heap.size, 0, none⟩ (.int .u64 0)).setCell ⟨w.heap.size, 1, none⟩ (.int .i64 0)).setCell ⟨w.heap.size, 2, none⟩ (.int .i64 0)).setCell ⟨w.heap.size, 3, none⟩ (.int .i64 0)).setCell ⟨w.heap.size, 4, none⟩ (.int .i64 0)).setCell ⟨w.heap.size, 5, none⟩ (.int .i64 0)).setCell ⟨w.heap.size, 6, none⟩ (.int .i64 0)).setCell ⟨w.heap.size, 7, none⟩ (.int .u64 0)).setCell ⟨w.heap.size, 8, none⟩ (.slice none 0 0)) := ⟨_, rfl⟩
  obtain ⟨hhZ, hcZ⟩ := set9 _ _ _ _ _ _ _ _ _ hz5.out hZ
  obtain ⟨p0, p1, p2, p3, p4, p5, p6, p7, p8⟩ := ret9 (w := Z) (u := undef) hhZ
  rw [← hZ]
  refine bodyPost_ret (v := .tuple #[zPk, .int .i64 1]) ?_ rfl ?_
  · simp [results, Try.results11, go_sem, p0, p1, p2, p3, p4, p5, p6, p7, p8]
  exact hR.out _ _ ⟨rfl, hcZ.below hbw5.out (by have := (hbw5.out).size; omega) (fun b hb => by omega)⟩

set_option maxRecDepth 100000 in
set_option maxHeartbeats 2000000 in
theorem fpar7 (gc gt : Nat) (A : Option Addr) (b : List UInt8) (c : Nat) (w : World) (hgc : w.heap[gc]? = some (.cells #[.pointer (some ⟨gt, 0, none⟩)] 62 (0, 0))) (ht : TabAt w gt 256) (hm : c ≤ maxLen) (hc : b.length ≤ c) (hl : b.length ≤ 100000) (h : RdL Kd.byte (· < w.heap.size) w A b) (h42 : 42 ≤ b.length) (h5 : getN (mid b 0 2) = 16716) (h6 : b.getD 2 0 = 1) (hmay : mayF b = true) (h7 : b.length ≠ 42 + getN (mid b 15 2)) :
    Calls Try.prog 11 #[.pointer (some ⟨gc, 0, none⟩), .slice A b.length c] w fun e w' => e = .returned (.tuple #[zPk, .int .i64 7]) ∧ Below w.heap.size w w' := by
  refine cps fun R hR => ?_
  have Hm := hide hm
  unfold maxLen at hm
  obtain ⟨W, hW⟩ : ∃ W, W = w.alloc (.cells #[.int .u64 0, .int .i64 0, .int .i64 0, .int .i64 0, .int .i64 0, .int .i64 0, .int .i64 0, .int .u64 0, .slice none 0 0] 32) := ⟨_, rfl⟩
  have hz : W.heap[w.heap.size]? = some (.cells #[.int .u64 0, .int .i64 0, .int .i64 0, .int .i64 0, .int .i64 0, .int .i64 0, .int .i64 0, .int .u64 0, .slice none 0 0] 32 (0, 0)) := by rw [hW]; exact heap_alloc_new w _
  have hb := hide (show Below w.heap.size w W by rw [hW]; exact balloc w _)
  have hs := hide (show w.heap.size < W.heap.size by rw [hW]; simp)
  have hgl := hide (Array.getElem?_eq_some_iff.1 hgc).1
  have htl := hide ht.lt
  have Hgc := hide ((hb.out.block gc hgl.out).trans hgc)
  have Ht := hide (ht.keep (hb.out.block gt htl.out))
  have Hz := hide hz
  have HW := hide hW
  have Hr := hide ((h.below hb.out).mono (S' := (· < W.heap.size)) fun k hk => Nat.lt_trans hk hs.out)
  clear hz hW h hgc ht
  have H7 := hide h7
  clear h7
  have hrd := hide (read_calls A b c _ W Hm.out hc hl Hr.out)
  have hl42 : (42 : Int) ≤ (b.length : Int) := by omega
  go_enter Try.func11, Try.ntmps11
  go_wp2_with fail
  rw [← HW.out]
  refine hrd.out.mono ?_
  rintro e w1 ⟨g, A1, c1, S1, rfl, hrea, hb1, hown⟩
  have Hrea1 := hide hrea
  have hown' := hide hown
  have hgz := hide (show g ≠ w.heap.size by have := hown g (.inl rfl); have := hs.out; omega)
  have hbw1 := hide (hb.out.trans (hb1.mono hb.out.size))
  have hz1 := hide ((hb1.block w.heap.size hs.out).trans Hz.out)
  have hbW1 := hide hb1
  clear hrea hown hb1 hrd
  go_wp2_with fail
  have htk1 := hide (show Calls Try.prog 24 #[.pointer (some ⟨g, 0, none⟩), .int .i64 2] w1 fun e w' => e = .returned (.tuple #[.int .u64 ((getN ((b).take 2) : Nat) : Int), .bool true]) ∧ Rea w' g (dropA A1 c1 2) (c1 - 2) ((b).drop 2) S1 ∧ Ch (· = g) w1 w' from take_calls g A1 c1 (b) S1 2 w1 Hrea1.out (by omega) (by omega) (by first | omega | (simp only [List.length_drop]; omega)))
  rw [show (b.take 2) = mid b 0 2 from rfl] at htk1
  rw [h5] at htk1
  refine htk1.out.mono ?_
  rintro e w2 ⟨rfl, hrea, hch⟩
  have Hrea2 := hide hrea
  have hbw2 := hide (hch.below hbw1.out hbw1.out.size (fun b hb => by subst hb; have := hown'.out b (.inl rfl); have := hs.out; omega))
  have hz2 := hide ((hch.block w.heap.size (by have := hs.out; have := hbW1.out.size; omega) (fun e => hgz.out e.symm)).trans hz1.out)
  have hbW2 := hide (hch.below hbW1.out hbW1.out.size (fun b hb => by subst hb; exact hown'.out b (.inl rfl)))
  obtain ⟨A2, hA2⟩ : ∃ x, x = dropA A1 c1 2 := ⟨_, rfl⟩
  obtain ⟨c2, hc2⟩ : ∃ x, x = c1 - 2 := ⟨_, rfl⟩
  rw [← hA2, ← hc2] at Hrea2
  clear hrea hch htk1 hA2 hc2 Hrea1
  go_wp2_with fail
  have htk2 := hide (show Calls Try.prog 24 #[.pointer (some ⟨g, 0, none⟩), .int .i64 1] w2 fun e w' => e = .returned (.tuple #[.int .u64 ((getN ((b.drop 2).take 1) : Nat) : Int), .bool true]) ∧ Rea w' g (dropA A2 c2 1) (c2 - 1) ((b.drop 2).drop 1) S1 ∧ Ch (· = g) w2 w' from take_calls g A2 c2 (b.drop 2) S1 1 w2 Hrea2.out (by omega) (by omega) (by first | omega | (simp only [List.length_drop]; omega)))
  rw [show ((b.drop 2).take 1) = mid b 2 1 from rfl, getN_one b (by omega)] at htk2
  rw [h6] at htk2
  have htk2' := hide (show Calls Try.prog 24 #[.pointer (some ⟨g, 0, none⟩), .int .i64 1] w2 fun e w' => e = .returned (.tuple #[.int .u64 1, .bool true]) ∧ Rea w' g (dropA A2 c2 1) (c2 - 1) ((b.drop 2).drop 1) S1 ∧ Ch (· = g) w2 w' from htk2.out)
  clear htk2
  have htk2 := htk2'
  clear htk2'
  refine htk2.out.mono ?_
  rintro e w3 ⟨rfl, hrea, hch⟩
  have Hrea3 := hide hrea
  have hbw3 := hide (hch.below hbw2.out hbw2.out.size (fun b hb => by subst hb; have := hown'.out b (.inl rfl); have := hs.out; omega))
  have hz3 := hide ((hch.block w.heap.size (by have := hs.out; have := hbW2.out.size; omega) (fun e => hgz.out e.symm)).trans hz2.out)
  have hbW3 := hide (hch.below hbW2.out hbW2.out.size (fun b hb => by subst hb; exact hown'.out b (.inl rfl)))
  obtain ⟨A3, hA3⟩ : ∃ x, x = dropA A2 c2 1 := ⟨_, rfl⟩
  obtain ⟨c3, hc3⟩ : ∃ x, x = c2 - 1 := ⟨_, rfl⟩
  rw [← hA3, ← hc3] at Hrea3
  clear hrea hch htk2 hA3 hc3 Hrea2
  go_wp2_with fail
  rw [show (b.drop 2).drop 1 = b.drop 3 by rw [List.drop_drop]] at Hrea3
  have hhd := hide (show Calls Try.prog 25 #[.pointer (some ⟨g, 0, none⟩)] w3 fun e w' => e = .returned (.agg #[.int .u64 ((getN (mid b 3 8) : Nat) : Int), .int .i64 ((getN (mid b 11 4) : Nat) : Int), .int .i64 ((getN (mid b 15 2) : Nat) : Int), .int .i64 ((getN (mid b 17 1) : Nat) : Int), .int .i64 ((getN (mid b 18 2) : Nat) : Int), .int .i64 ((getN (mid b 20 2) : Nat) : Int), .int .i64 (wrap64 ((getN (mid b 22 8) : Nat) : Int)), .int .u64 ((getN (mid b 30 8) : Nat) : Int)]) ∧ (∃ A', Rea w' g A' (c3 - 35) (b.drop 38) S1) ∧ Ch (· = g) w3 w' from by
    have := header_calls g A3 c3 (b.drop 3) S1 w3 Hrea3.out (by rw [List.length_drop]; omega)
    simp only [mid_drop, List.drop_drop] at this
    exact this)
  unfold mayF at hmay
  generalize getN (mid b 3 8) = x1 at *
  generalize getN (mid b 11 4) = x2 at *
  generalize getN (mid b 15 2) = x3 at *
  generalize getN (mid b 17 1) = x4 at *
  generalize getN (mid b 18 2) = x5 at *
  generalize getN (mid b 20 2) = x6 at *
  generalize wrap64 ((getN (mid b 22 8) : Nat) : Int) = x7 at *
  generalize getN (mid b 30 8) = x8 at *
  have hck := hide (fun w => (show Calls Try.prog 16 #[.agg #[.int .u64 (x1 : Int), .int .i64 (x2 : Int), .int .i64 (x3 : Int), .int .i64 (x4 : Int), .int .i64 (x5 : Int), .int .i64 (x6 : Int), .int .i64 x7, .int .u64 (x8 : Int)]] w fun e w' => e = .returned (.int .i64 0) ∧ Below w.heap.size w w' from by have := fcheck_calls (x1 : Int) (x8 : Int) x2 x3 x4 x5 x6 x7 w; rwa [hmay] at this))
  refine hhd.out.mono ?_
  rintro e w4 ⟨rfl, ⟨A4, hrea4⟩, hch4⟩
  have Hrea4 := hide hrea4
  have hbw4 := hide (hch4.below hbw3.out hbw3.out.size (fun b hb => by subst hb; have := hown'.out b (.inl rfl); have := hs.out; omega))
  have hz4 := hide ((hch4.block w.heap.size (by have := hs.out; have := hbW3.out.size; omega) (fun e => hgz.out e.symm)).trans hz3.out)
  have hbW4 := hide (hch4.below hbW3.out hbW3.out.size (fun b hb => by subst hb; exact hown'.out b (.inl rfl)))
  clear hrea4 hch4 hhd Hrea3
  go_wp2_with fail
  refine (hck.out _).mono ?_
  rintro e w5 ⟨rfl, hb5'⟩
  have hb5 := hide ((balloc w4 (.cells #[.int .u64 (x1 : Int), .int .i64 (x2 : Int), .int .i64 (x3 : Int), .int .i64 (x4 : Int), .int .i64 (x5 : Int), .int .i64 (x6 : Int), .int .i64 x7, .int .u64 (x8 : Int)] 30)).trans (hb5'.mono (balloc w4 (.cells #[.int .u64 (x1 : Int), .int .i64 (x2 : Int), .int .i64 (x3 : Int), .int .i64 (x4 : Int), .int .i64 (x5 : Int), .int .i64 (x6 : Int), .int .i64 x7, .int .u64 (x8 : Int)] 30)).size))
  have hh5 := hide ((hb5'.block w4.heap.size (by simp)).trans (heap_alloc_new w4 (.cells #[.int .u64 (x1 : Int), .int .i64 (x2 : Int), .int .i64 (x3 : Int), .int .i64 (x4 : Int), .int .i64 (x5 : Int), .int .i64 (x6 : Int), .int .i64 x7, .int .u64 (x8 : Int)] 30)))
  have hbw5 := hide (hbw4.out.trans (hb5.out.mono hbw4.out.size))
  have hbW5 := hide (hbW4.out.trans (hb5.out.mono hbW4.out.size))
  have hz5 := hide ((hb5.out.block w.heap.size (by have := hs.out; have := hbW4.out.size; omega)).trans hz4.out)
  have Hrea5 := hide (Hrea4.out.ch (Ch.of_below (S := fun _ => False) hb5.out) (fun _ _ h => h))
  have y2 : w5.cell? ⟨w4.heap.size, 2, none⟩ = some (.int .i64 (x3 : Int)) := cell_of_row w5 w4.heap.size 2 _ _ (0, 0) hh5.out
  clear hb5' hck Hrea4
  have h7 := H7.out
  have hx3 : x3 ≤ 65535 := by have := (mayH_bd hmay).1; have := may_bd this; omega
  have hx31 : 1 ≤ x3 := by have := (mayH_bd hmay).1; have := may_bd this; omega
  have hne : ((b.length : Int) != 42 + (x3 : Int)) = true := by simp; omega
  clear hmay h7
  obtain ⟨z0, z1, z2, z3, z4, z5, z6, z7, z8⟩ := ret9 (w := w5) (u := undef) hz5.out
  have zf : ∀ i, w5.frozen? ⟨w.heap.size, i, none⟩ = false := fun i => by simp [World.frozen?, hz5.out]
  go_wp2_with fail
  obtain ⟨Z, hZ⟩ : ∃ Z, Z = (((((((((w5.setCell ⟨w.heap.size, 0, none⟩ (.int .u64 0)).setCell ⟨w.heap.size, 1, none⟩ (.int .i64 0)).setCell ⟨w.heap.size, 2, none⟩ (.int .i64 0)).setCell ⟨w.heap.size, 3, none⟩ (.int .i64 0)).setCell ⟨w.heap.size, 4, none⟩ (.int .i64 0)).setCell ⟨w.heap.size, 5, none⟩ (.int .i64 0)).setCell ⟨w.heap.size, 6, none⟩ (.int .i64 0)).setCell ⟨w.heap.size, 7, none⟩ (.int .u64 0)).setCell ⟨w.heap.size, 8, none⟩ (.slice none 0 0)) := ⟨_, rfl⟩
  obtain ⟨hhZ, hcZ⟩ := set9 _ _ _ _ _ _ _ _ _ hz5.out hZ
  obtain ⟨p0, p1, p2, p3, p4, p5, p6, p7, p8⟩ := ret9 (w := Z) (u := undef) hhZ
  rw [← hZ]
  refine bodyPost_ret (v := .tuple #[zPk, .int .i64 7]) ?_ rfl ?_
  · simp [results, Try.results11, go_sem, p0, p1, p2, p3, p4, p5, p6, p7, p8]
  exact hR.out _ _ ⟨rfl, hcZ.below hbw5.out (by have := (hbw5.out).size; omega) (fun b hb => by omega)⟩

set_option maxRecDepth 100000 in
set_option maxHeartbeats 2000000 in
theorem fpar8 (gc gt : Nat) (A : Option Addr) (b : List UInt8) (c : Nat) (w : World) (hgc : w.heap[gc]? = some (.cells #[.pointer (some ⟨gt, 0, none⟩)] 62 (0, 0))) (ht : TabAt w gt 256) (hm : c ≤ maxLen) (hc : b.length ≤ c) (hl : b.length ≤ 100000) (h : RdL Kd.byte (· < w.heap.size) w A b) (h42 : 42 ≤ b.length) (h5 : getN (mid b 0 2) = 16716) (h6 : b.getD 2 0 = 1) (hmay : mayF b = true) (h7 : b.length = 42 + getN (mid b 15 2)) (h8 : rightB b = false) :
    Calls Try.prog 11 #[.pointer (some ⟨gc, 0, none⟩), .slice A b.length c] w fun e w' => e = .returned (.tuple #[zPk, .int .i64 8]) ∧ Below w.heap.size w w' := by
  refine cps fun R hR => ?_
  have Hm := hide hm
  unfold maxLen at hm
  obtain ⟨W, hW⟩ : ∃ W, W = w.alloc (.cells #[.int .u64 0, .int .i64 0, .int .i64 0, .int .i64 0, .int .i64 0, .int .i64 0, .int .i64 0, .int .u64 0, .slice none 0 0] 32) := ⟨_, rfl⟩
  have hz : W.heap[w.heap.size]? = some (.cells #[.int .u64 0, .int .i64 0, .int .i64 0, .int .i64 0, .int .i64 0, .int .i64 0, .int .i64 0, .int .u64 0, .slice none 0 0] 32 (0, 0)) := by rw [hW]; exact heap_alloc_new w _
  have hb := hide (show Below w.heap.size w W by rw [hW]; exact balloc w _)
  have hs := hide (show w.heap.size < W.heap.size by rw [hW]; simp)
  have hgl := hide (Array.getElem?_eq_some_iff.1 hgc).1
  have htl := hide ht.lt
  have Hgc := hide ((hb.out.block gc hgl.out).trans hgc)
  have Ht := hide (ht.keep (hb.out.block gt htl.out))
  have Hz := hide hz
  have HW := hide hW
  have Hr := hide ((h.below hb.out).mono (S' := (· < W.heap.size)) fun k hk => Nat.lt_trans hk hs.out)
  clear hz hW h hgc ht
  have H7 := hide h7
  clear h7
  have hrd := hide (read_calls A b c _ W Hm.out hc hl Hr.out)
  have hl42 : (42 : Int) ≤ (b.length : Int) := by omega
  go_enter Try.func11, Try.ntmps11
  go_wp2_with fail
  rw [← HW.out]
  refine hrd.out.mono ?_
  rintro e w1 ⟨g, A1, c1, S1, rfl, hrea, hb1, hown⟩
  have Hrea1 := hide hrea
  have hown' := hide hown
  have hgz := hide (show g ≠ w.heap.size by have := hown g (.inl rfl); have := hs.out; omega)
  have hbw1 := hide (hb.out.trans (hb1.mono hb.out.size))
  have hz1 := hide ((hb1.block w.heap.size hs.out).trans Hz.out)
  have hbW1 := hide hb1
  clear hrea hown hb1 hrd
  go_wp2_with fail
  have htk1 := hide (show Calls Try.prog 24 #[.pointer (some ⟨g, 0, none⟩), .int .i64 2] w1 fun e w' => e = .returned (.tuple #[.int .u64 ((getN ((b).take 2) : Nat) : Int), .bool true]) ∧ Rea w' g (dropA A1 c1 2) (c1 - 2) ((b).drop 2) S1 ∧ Ch (· = g) w1 w' from take_calls g A1 c1 (b) S1 2 w1 Hrea1.out (by omega) (by omega) (by first | omega | (simp only [List.length_drop]; omega)))
  rw [show (b.take 2) = mid b 0 2 from rfl] at htk1
  rw [h5] at htk1
  refine htk1.out.mono ?_
  rintro e w2 ⟨rfl, hrea, hch⟩
  have Hrea2 := hide hrea
  have hbw2 := hide (hch.below hbw1.out hbw1.out.size (fun b hb => by subst hb; have := hown'.out b (.inl rfl); have := hs.out; omega))
  have hz2 := hide ((hch.block w.heap.size (by have := hs.out; have := hbW1.out.size; omega) (fun e => hgz.out e.symm)).trans hz1.out)
  have hbW2 := hide (hch.below hbW1.out hbW1.out.size (fun b hb => by subst hb; exact hown'.out b (.inl rfl)))
  obtain ⟨A2, hA2⟩ : ∃ x, x = dropA A1 c1 2 := ⟨_, rfl⟩
  obtain ⟨c2, hc2⟩ : ∃ x, x = c1 - 2 := ⟨_, rfl⟩
  rw [← hA2, ← hc2] at Hrea2
  clear hrea hch htk1 hA2 hc2 Hrea1
  go_wp2_with fail
  have htk2 := hide (show Calls Try.prog 24 #[.pointer (some ⟨g, 0, none⟩), .int .i64 1] w2 fun e w' => e = .returned (.tuple #[.int .u64 ((getN ((b.drop 2).take 1) : Nat) : Int), .bool true]) ∧ Rea w' g (dropA A2 c2 1) (c2 - 1) ((b.drop 2).drop 1) S1 ∧ Ch (· = g) w2 w' from take_calls g A2 c2 (b.drop 2) S1 1 w2 Hrea2.out (by omega) (by omega) (by first | omega | (simp only [List.length_drop]; omega)))
  rw [show ((b.drop 2).take 1) = mid b 2 1 from rfl, getN_one b (by omega)] at htk2
  rw [h6] at htk2
  have htk2' := hide (show Calls Try.prog 24 #[.pointer (some ⟨g, 0, none⟩), .int .i64 1] w2 fun e w' => e = .returned (.tuple #[.int .u64 1, .bool true]) ∧ Rea w' g (dropA A2 c2 1) (c2 - 1) ((b.drop 2).drop 1) S1 ∧ Ch (· = g) w2 w' from htk2.out)
  clear htk2
  have htk2 := htk2'
  clear htk2'
  refine htk2.out.mono ?_
  rintro e w3 ⟨rfl, hrea, hch⟩
  have Hrea3 := hide hrea
  have hbw3 := hide (hch.below hbw2.out hbw2.out.size (fun b hb => by subst hb; have := hown'.out b (.inl rfl); have := hs.out; omega))
  have hz3 := hide ((hch.block w.heap.size (by have := hs.out; have := hbW2.out.size; omega) (fun e => hgz.out e.symm)).trans hz2.out)
  have hbW3 := hide (hch.below hbW2.out hbW2.out.size (fun b hb => by subst hb; exact hown'.out b (.inl rfl)))
  obtain ⟨A3, hA3⟩ : ∃ x, x = dropA A2 c2 1 := ⟨_, rfl⟩
  obtain ⟨c3, hc3⟩ : ∃ x, x = c2 - 1 := ⟨_, rfl⟩
  rw [← hA3, ← hc3] at Hrea3
  clear hrea hch htk2 hA3 hc3 Hrea2
  go_wp2_with fail
  rw [show (b.drop 2).drop 1 = b.drop 3 by rw [List.drop_drop]] at Hrea3
  have hhd := hide (show Calls Try.prog 25 #[.pointer (some ⟨g, 0, none⟩)] w3 fun e w' => e = .returned (.agg #[.int .u64 ((getN (mid b 3 8) : Nat) : Int), .int .i64 ((getN (mid b 11 4) : Nat) : Int), .int .i64 ((getN (mid b 15 2) : Nat) : Int), .int .i64 ((getN (mid b 17 1) : Nat) : Int), .int .i64 ((getN (mid b 18 2) : Nat) : Int), .int .i64 ((getN (mid b 20 2) : Nat) : Int), .int .i64 (wrap64 ((getN (mid b 22 8) : Nat) : Int)), .int .u64 ((getN (mid b 30 8) : Nat) : Int)]) ∧ (∃ A', Rea w' g A' (c3 - 35) (b.drop 38) S1) ∧ Ch (· = g) w3 w' from by
    have := header_calls g A3 c3 (b.drop 3) S1 w3 Hrea3.out (by rw [List.length_drop]; omega)
    simp only [mid_drop, List.drop_drop] at this
    exact this)
  unfold mayF at hmay
  generalize getN (mid b 3 8) = x1 at *
  generalize getN (mid b 11 4) = x2 at *
  generalize getN (mid b 15 2) = x3 at *
  generalize getN (mid b 17 1) = x4 at *
  generalize getN (mid b 18 2) = x5 at *
  generalize getN (mid b 20 2) = x6 at *
  generalize wrap64 ((getN (mid b 22 8) : Nat) : Int) = x7 at *
  generalize getN (mid b 30 8) = x8 at *
  have hck := hide (fun w => (show Calls Try.prog 16 #[.agg #[.int .u64 (x1 : Int), .int .i64 (x2 : Int), .int .i64 (x3 : Int), .int .i64 (x4 : Int), .int .i64 (x5 : Int), .int .i64 (x6 : Int), .int .i64 x7, .int .u64 (x8 : Int)]] w fun e w' => e = .returned (.int .i64 0) ∧ Below w.heap.size w w' from by have := fcheck_calls (x1 : Int) (x8 : Int) x2 x3 x4 x5 x6 x7 w; rwa [hmay] at this))
  refine hhd.out.mono ?_
  rintro e w4 ⟨rfl, ⟨A4, hrea4⟩, hch4⟩
  have Hrea4 := hide hrea4
  have hbw4 := hide (hch4.below hbw3.out hbw3.out.size (fun b hb => by subst hb; have := hown'.out b (.inl rfl); have := hs.out; omega))
  have hz4 := hide ((hch4.block w.heap.size (by have := hs.out; have := hbW3.out.size; omega) (fun e => hgz.out e.symm)).trans hz3.out)
  have hbW4 := hide (hch4.below hbW3.out hbW3.out.size (fun b hb => by subst hb; exact hown'.out b (.inl rfl)))
  clear hrea4 hch4 hhd Hrea3
  go_wp2_with fail
  refine (hck.out _).mono ?_
  rintro e w5 ⟨rfl, hb5'⟩
  have hb5 := hide ((balloc w4 (.cells #[.int .u64 (x1 : Int), .int .i64 (x2 : Int), .int .i64 (x3 : Int), .int .i64 (x4 : Int), .int .i64 (x5 : Int), .int .i64 (x6 : Int), .int .i64 x7, .int .u64 (x8 : Int)] 30)).trans (hb5'.mono (balloc w4 (.cells #[.int .u64 (x1 : Int), .int .i64 (x2 : Int), .int .i64 (x3 : Int), .int .i64 (x4 : Int), .int .i64 (x5 : Int), .int .i64 (x6 : Int), .int .i64 x7, .int .u64 (x8 : Int)] 30)).size))
  have hh5 := hide ((hb5'.block w4.heap.size (by simp)).trans (heap_alloc_new w4 (.cells #[.int .u64 (x1 : Int), .int .i64 (x2 : Int), .int .i64 (x3 : Int), .int .i64 (x4 : Int), .int .i64 (x5 : Int), .int .i64 (x6 : Int), .int .i64 x7, .int .u64 (x8 : Int)] 30)))
  have hbw5 := hide (hbw4.out.trans (hb5.out.mono hbw4.out.size))
  have hbW5 := hide (hbW4.out.trans (hb5.out.mono hbW4.out.size))
  have hz5 := hide ((hb5.out.block w.heap.size (by have := hs.out; have := hbW4.out.size; omega)).trans hz4.out)
  have Hrea5 := hide (Hrea4.out.ch (Ch.of_below (S := fun _ => False) hb5.out) (fun _ _ h => h))
  have y2 : w5.cell? ⟨w4.heap.size, 2, none⟩ = some (.int .i64 (x3 : Int)) := cell_of_row w5 w4.heap.size 2 _ _ (0, 0) hh5.out
  clear hb5' hck Hrea4
  have h7 := H7.out
  have hx3 : x3 ≤ 65535 := by have := (mayH_bd hmay).1; have := may_bd this; omega
  have hx31 : 1 ≤ x3 := by have := (mayH_bd hmay).1; have := may_bd this; omega
  have hne : ((b.length : Int) != 42 + (x3 : Int)) = false := by simp; omega
  clear hmay h7
  have k0 : w5.cell? ⟨gc, 0, none⟩ = some (.pointer (some ⟨gt, 0, none⟩)) := (hbW5.out.cell (p := ⟨gc, 0, none⟩) (by have := hgl.out; have := hb.out.size; show gc < W.heap.size; omega)).trans (cell_of_row W gc 0 _ _ (0, 0) Hgc.out)
  have hrt := hide (show Calls Try.prog 26 #[.pointer (some ⟨gt, 0, none⟩), .slice A b.length c] w5 fun e w' => e = .returned (.bool false) ∧ Below w5.heap.size w5 w' from by
    have := right_calls gt A b c _ w5 (Ht.out.keep (hbW5.out.block gt (by have := htl.out; have := hb.out.size; omega))) Hm.out hc hl (Hr.out.below hbW5.out) (fun k hk => Nat.lt_of_lt_of_le hk hbW5.out.size)
    rwa [h8] at this)
  go_wp2_with fail
  refine hrt.out.mono ?_
  rintro e w6 ⟨rfl, hb6⟩
  have hbw6 := hide (hbw5.out.trans (hb6.mono hbw5.out.size))
  have hbW6 := hide (hbW5.out.trans (hb6.mono hbW5.out.size))
  have hz6 := hide ((hb6.block w.heap.size (by have := hs.out; have := hbW5.out.size; omega)).trans hz5.out)
  have hh6 := hide ((hb6.block w4.heap.size (by have := (Array.getElem?_eq_some_iff.1 hh5.out).1; exact this)).trans hh5.out)
  have Hrea6 := hide (Hrea5.out.ch (Ch.of_below (S := fun _ => False) hb6) (fun _ _ h => h))
  clear hb6 hrt y2 Hrea5 k0
  obtain ⟨z0, z1, z2, z3, z4, z5, z6, z7, z8⟩ := ret9 (w := w6) (u := undef) hz6.out
  have zf : ∀ i, w6.frozen? ⟨w.heap.size, i, none⟩ = false := fun i => by simp [World.frozen?, hz6.out]
  go_wp2_with fail
  obtain ⟨Z, hZ⟩ : ∃ Z, Z = (((((((((w6.setCell ⟨w.heap.size, 0, none⟩ (.int .u64 0)).setCell ⟨w.heap.size, 1, none⟩ (.int .i64 0)).setCell ⟨w.heap.size, 2, none⟩ (.int .i64 0)).setCell ⟨w.heap.size, 3, none⟩ (.int .i64 0)).setCell ⟨w.heap.size, 4, none⟩ (.int .i64 0)).setCell ⟨w.heap.size, 5, none⟩ (.int .i64 0)).setCell ⟨w.heap.size, 6, none⟩ (.int .i64 0)).setCell ⟨w.heap.size, 7, none⟩ (.int .u64 0)).setCell ⟨w.heap.size, 8, none⟩ (.slice none 0 0)) := ⟨_, rfl⟩
  obtain ⟨hhZ, hcZ⟩ := set9 _ _ _ _ _ _ _ _ _ hz6.out hZ
  obtain ⟨p0, p1, p2, p3, p4, p5, p6, p7, p8⟩ := ret9 (w := Z) (u := undef) hhZ
  rw [← hZ]
  refine bodyPost_ret (v := .tuple #[zPk, .int .i64 8]) ?_ rfl ?_
  · simp [results, Try.results11, go_sem, p0, p1, p2, p3, p4, p5, p6, p7, p8]
  exact hR.out _ _ ⟨rfl, hcZ.below hbw6.out (by have := (hbw6.out).size; omega) (fun b hb => by omega)⟩

end Go.Proofs.Ytopfpadfjfmmiaa
