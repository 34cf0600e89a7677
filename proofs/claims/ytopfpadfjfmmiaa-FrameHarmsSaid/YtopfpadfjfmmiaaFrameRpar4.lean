/- The reference's reading of bytes as a packet: the packet. -/
import Derived.Test.YtopfpadfjfmmiaaFrameRpar3
import Derived.Test.YtopfpadfjfmmiaaHeld
set_option linter.unusedVariables false
set_option linter.unusedSimpArgs false
namespace Go.Proofs.Ytopfpadfjfmmiaa
open Go.RowKit

theorem named_alloc {X : World} {o : Obj} {C : World → Prop} (h : ∀ w', w'.heap[X.heap.size]? = some o → X.grownBy w' none → X.heap.size + 1 ≤ w'.heap.size → w'.heap.size ≤ X.heap.size + 1 → C w') : C (X.alloc o) :=
  h _ (heap_alloc_new X o) ⟨rfl, rfl, rfl, by simp, fun k hk _ => Below.heap_alloc X o k hk⟩ (by simp) (by simp)
theorem cs9 {w : World} {g : Nat} {t : TypeId} {v0 v1 v2 v3 v4 v5 v6 v7 v8 : Value} (h : w.heap[g]? = some (.cells #[v0, v1, v2, v3, v4, v5, v6, v7, v8] t (0, 0))) :
    w.cell? ⟨g, 0, none⟩ = some v0 ∧ w.cell? ⟨g, 1, none⟩ = some v1 ∧ w.cell? ⟨g, 2, none⟩ = some v2 ∧ w.cell? ⟨g, 3, none⟩ = some v3 ∧ w.cell? ⟨g, 4, none⟩ = some v4 ∧ w.cell? ⟨g, 5, none⟩ = some v5 ∧ w.cell? ⟨g, 6, none⟩ = some v6 ∧ w.cell? ⟨g, 7, none⟩ = some v7 ∧ w.cell? ⟨g, 8, none⟩ = some v8 := by
  refine ⟨?_, ?_, ?_, ?_, ?_, ?_, ?_, ?_, ?_⟩ <;> rw [cell_of_row w g _ _ t (0, 0) h] <;> rfl
theorem at_world {C : World → Prop} {Y Z : World} (e : Y = Z) (h : C Z) : C Y := e ▸ h
theorem there9 {w : World} {g : Nat} {t : TypeId} {v0 v1 v2 v3 v4 v5 v6 v7 v8 : Value} (h : w.heap[g]? = some (.cells #[v0, v1, v2, v3, v4, v5, v6, v7, v8] t (0, 0))) : w.there g 0 9 := fun j hj => by
  rw [Nat.zero_add]
  refine ⟨?_, by simp [World.frozen?, h]⟩
  rw [cell_of_row w g j _ t (0, 0) h, Array.getElem?_eq_getElem (by simpa using hj)]
  rfl
set_option maxRecDepth 100000 in
set_option maxHeartbeats 4000000 in
theorem rpar0 (A : Option Addr) (b : List UInt8) (c : Nat) (w : World) (hm : c ≤ maxLen) (hc : b.length ≤ c) (hl : b.length ≤ 100000) (h : RdL Kd.byte (· < w.heap.size) w A b) (h42 : 42 ≤ b.length) (h5 : getN (mid b 0 2) = 16716) (h6 : b.getD 2 0 = 1) (hmay : mayF b = true) (h7 : b.length = 42 + getN (mid b 15 2)) (h8 : rightB b = true) :
    Calls Try.prog 12 #[.slice A b.length c] w fun e w' => ∃ A' c', e = .returned (.tuple #[.agg #[.int .u64 ((getN (mid b 3 8) : Nat) : Int), .int .i64 ((getN (mid b 11 4) : Nat) : Int), .int .i64 ((getN (mid b 15 2) : Nat) : Int), .int .i64 ((getN (mid b 17 1) : Nat) : Int), .int .i64 ((getN (mid b 18 2) : Nat) : Int), .int .i64 ((getN (mid b 20 2) : Nat) : Int), .int .i64 (wrap64 ((getN (mid b 22 8) : Nat) : Int)), .int .u64 ((getN (mid b 30 8) : Nat) : Int), .slice A' (getN (mid b 15 2)) c'], .int .i64 0]) ∧ getN (mid b 15 2) ≤ c' ∧ c' ≤ maxLen ∧ RdL Kd.byte (fun k => w.heap.size ≤ k ∧ k < w'.heap.size) w' A' (mid b 38 (getN (mid b 15 2))) ∧ Below w.heap.size w w' := by
  refine cps fun R hR => ?_
  have Hm := hide hm
  unfold maxLen at hm
  obtain ⟨W, hW⟩ : ∃ W, W = w.alloc (.cells #[.int .u64 0, .int .i64 0, .int .i64 0, .int .i64 0, .int .i64 0, .int .i64 0, .int .i64 0, .int .u64 0, .slice none 0 0] 32) := ⟨_, rfl⟩
  have hz : W.heap[w.heap.size]? = some (.cells #[.int .u64 0, .int .i64 0, .int .i64 0, .int .i64 0, .int .i64 0, .int .i64 0, .int .i64 0, .int .u64 0, .slice none 0 0] 32 (0, 0)) := by rw [hW]; exact heap_alloc_new w _
  have hb := hide (show Below w.heap.size w W by rw [hW]; exact balloc w _)
  have hs := hide (show w.heap.size < W.heap.size by rw [hW]; simp)
  have Hz := hide hz
  have HW := hide hW
  have Hr := hide ((h.below hb.out).mono (S' := (· < W.heap.size)) fun k hk => Nat.lt_trans hk hs.out)
  clear hz hW h
  obtain ⟨z0, z1, z2, z3, z4, z5, z6, z7, z8⟩ := ret9 (w := W) (u := undef) Hz.out
  have zf : ∀ i, W.frozen? ⟨w.heap.size, i, none⟩ = false := fun i => by simp [World.frozen?, Hz.out]
  have n0 := hide (fun (y : World) (hy : Below W.heap.size W y) => (show Calls Try.prog 28 #[.slice A b.length c, .int .i64 0, .int .i64 2] y fun e w' => e = .returned (.int .i64 (wrap64 ((getN (mid b 0 2) : Nat) : Int))) ∧ y = w' from rnumber_calls A b c 0 2 _ y Hm.out hc (by omega) (by omega) (Hr.out.below hy)))
  rw [wrap_small (Nat.le_trans (Nat.le_of_eq (mid_len (by omega))) (by omega))] at n0
  obtain ⟨bb, ob, u, rfl, hsb, hu, hcl⟩ := Hr.out.at1 rfl (show 2 < b.length by omega)
  obtain rfl := Kd.byte_cell hu
  have hx2 := hide (show b.getD 2 0 = b[2] by simp [List.getD, show 2 < b.length by omega])
  rw [hx2.out] at h6
  rw [h5] at n0
  have n0' := hide (show ∀ (y : World), Below W.heap.size W y → Calls Try.prog 28 #[.slice (some ⟨bb, ob, none⟩) b.length c, .int .i64 0, .int .i64 2] y fun e w' => e = .returned (.int .i64 16716) ∧ y = w' from n0.out)
  have hl42 : (42 : Int) ≤ (b.length : Int) := by omega
  have hl3 : (2 : Int) < (b.length : Int) := by omega
  clear hu n0
  rw [h6] at hcl
  have hcl' : W.cell? ⟨bb, ob + 2, none⟩ = some (.int .u8 1) := hcl
  clear hcl h6 hx2
  have g3 := hide (fun (y : World) (hy : Below W.heap.size W y) => (show Calls Try.prog 29 #[.slice (some ⟨bb, ob + 3, none⟩) 8 (c - 3)] y fun e w' => e = .returned (.int .u64 ((getN (mid b 3 8) : Nat) : Int)) ∧ y = w' from by
    have := refget_calls (some ⟨bb, ob + 3, none⟩) (mid b 3 8) (c - 3) _ y (by have := Hm.out; omega) (by rw [mid_len (by omega)]; omega) (mid_rd' (Hr.out.below hy) 3 8 (by omega) (by omega) hc)
    rwa [mid_len (by omega)] at this))
  have n11 := hide (fun (y : World) (hy : Below W.heap.size W y) => (show Calls Try.prog 28 #[.slice (some ⟨bb, ob, none⟩) b.length c, .int .i64 11, .int .i64 4] y fun e w' => e = .returned (.int .i64 (wrap64 ((getN (mid b 11 4) : Nat) : Int))) ∧ y = w' from rnumber_calls (some ⟨bb, ob, none⟩) b c 11 4 _ y Hm.out hc (by omega) (by omega) (Hr.out.below hy)))
  rw [wrap_small (Nat.le_trans (Nat.le_of_eq (mid_len (by omega))) (by omega))] at n11
  have n15 := hide (fun (y : World) (hy : Below W.heap.size W y) => (show Calls Try.prog 28 #[.slice (some ⟨bb, ob, none⟩) b.length c, .int .i64 15, .int .i64 2] y fun e w' => e = .returned (.int .i64 (wrap64 ((getN (mid b 15 2) : Nat) : Int))) ∧ y = w' from rnumber_calls (some ⟨bb, ob, none⟩) b c 15 2 _ y Hm.out hc (by omega) (by omega) (Hr.out.below hy)))
  rw [wrap_small (Nat.le_trans (Nat.le_of_eq (mid_len (by omega))) (by omega))] at n15
  have n17 := hide (fun (y : World) (hy : Below W.heap.size W y) => (show Calls Try.prog 28 #[.slice (some ⟨bb, ob, none⟩) b.length c, .int .i64 17, .int .i64 1] y fun e w' => e = .returned (.int .i64 (wrap64 ((getN (mid b 17 1) : Nat) : Int))) ∧ y = w' from rnumber_calls (some ⟨bb, ob, none⟩) b c 17 1 _ y Hm.out hc (by omega) (by omega) (Hr.out.below hy)))
  rw [wrap_small (Nat.le_trans (Nat.le_of_eq (mid_len (by omega))) (by omega))] at n17
  have n18 := hide (fun (y : World) (hy : Below W.heap.size W y) => (show Calls Try.prog 28 #[.slice (some ⟨bb, ob, none⟩) b.length c, .int .i64 18, .int .i64 2] y fun e w' => e = .returned (.int .i64 (wrap64 ((getN (mid b 18 2) : Nat) : Int))) ∧ y = w' from rnumber_calls (some ⟨bb, ob, none⟩) b c 18 2 _ y Hm.out hc (by omega) (by omega) (Hr.out.below hy)))
  rw [wrap_small (Nat.le_trans (Nat.le_of_eq (mid_len (by omega))) (by omega))] at n18
  have n20 := hide (fun (y : World) (hy : Below W.heap.size W y) => (show Calls Try.prog 28 #[.slice (some ⟨bb, ob, none⟩) b.length c, .int .i64 20, .int .i64 2] y fun e w' => e = .returned (.int .i64 (wrap64 ((getN (mid b 20 2) : Nat) : Int))) ∧ y = w' from rnumber_calls (some ⟨bb, ob, none⟩) b c 20 2 _ y Hm.out hc (by omega) (by omega) (Hr.out.below hy)))
  rw [wrap_small (Nat.le_trans (Nat.le_of_eq (mid_len (by omega))) (by omega))] at n20
  have n22 := hide (fun (y : World) (hy : Below W.heap.size W y) => (show Calls Try.prog 28 #[.slice (some ⟨bb, ob, none⟩) b.length c, .int .i64 22, .int .i64 8] y fun e w' => e = .returned (.int .i64 (wrap64 ((getN (mid b 22 8) : Nat) : Int))) ∧ y = w' from rnumber_calls (some ⟨bb, ob, none⟩) b c 22 8 _ y Hm.out hc (by omega) (by omega) (Hr.out.below hy)))
  have g30 := hide (fun (y : World) (hy : Below W.heap.size W y) => (show Calls Try.prog 29 #[.slice (some ⟨bb, ob + 30, none⟩) 8 (c - 30)] y fun e w' => e = .returned (.int .u64 ((getN (mid b 30 8) : Nat) : Int)) ∧ y = w' from by
    have := refget_calls (some ⟨bb, ob + 30, none⟩) (mid b 30 8) (c - 30) _ y (by have := Hm.out; omega) (by rw [mid_len (by omega)]; omega) (mid_rd' (Hr.out.below hy) 30 8 (by omega) (by omega) hc)
    rwa [mid_len (by omega)] at this))
  unfold mayF at hmay
  generalize getN (mid b 3 8) = x1 at *
  generalize getN (mid b 11 4) = x2 at *
  generalize getN (mid b 15 2) = x3 at *
  generalize getN (mid b 17 1) = x4 at *
  generalize getN (mid b 18 2) = x5 at *
  generalize getN (mid b 20 2) = x6 at *
  generalize wrap64 ((getN (mid b 22 8) : Nat) : Int) = x7 at *
  generalize getN (mid b 30 8) = x8 at *
  have hmy := hide (fun w => (show Calls Try.prog 17 #[.agg #[.int .u64 (x1 : Int), .int .i64 (x2 : Int), .int .i64 (x3 : Int), .int .i64 (x4 : Int), .int .i64 (x5 : Int), .int .i64 (x6 : Int), .int .i64 x7, .int .u64 (x8 : Int)]] w fun e w' => e = .returned (.bool true) ∧ Below w.heap.size w w' from by have := fmay_calls (x1 : Int) (x8 : Int) x2 x3 x4 x5 x6 x7 w; rwa [hmay] at this))
  clear z0 z1 z2 z3 z4 z5 z6 z7 z8 zf
  have c38 : (38 : Int) ≤ (c : Int) := by omega
  have c11 : (11 : Int) ≤ (c : Int) := by omega
  have eh := hide (fun x => balloc W (.cells x 30))
  have hx3 : x3 ≤ 65535 := by have := (mayH_bd hmay).1; have := may_bd this; omega
  have hx31 : 0 < x3 := by have := (mayH_bd hmay).1; have := may_bd this; omega
  have heq : ((b.length : Int) != 42 + (x3 : Int)) = false := by simp; omega
  obtain ⟨m, hmn⟩ : ∃ m, b.length = m + 4 := ⟨b.length - 4, by omega⟩
  rw [rightB_eq hmn] at h8
  have g2 : IntKind.i64.wrap ((b.length : Int) - 4) = (m : Int) := by rw [IntKind.wrap_i64]; omega
  have g3' : (m : Int) ≤ (c : Int) := by omega
  have Hmn := hide hmn
  have H7 := hide h7
  clear hmay h7 hmn
  rw [beq_iff_eq] at h8
  go_enter Try.func12, Try.ntmps12
  go_wp2_with fail
  rw [← HW.out]
  refine (n0'.out W (Below.refl _ _)).mono ?_
  rintro e w' ⟨rfl, rfl⟩
  go_wp2_with fail
  refine (g3.out W (Below.refl _ _)).mono ?_
  rintro e w' ⟨rfl, rfl⟩
  go_wp2_with fail
  refine (n11.out W (Below.refl _ _)).mono ?_
  rintro e w' ⟨rfl, rfl⟩
  go_wp2_with fail
  refine (n15.out W (Below.refl _ _)).mono ?_
  rintro e w' ⟨rfl, rfl⟩
  go_wp2_with fail
  refine (n17.out W (Below.refl _ _)).mono ?_
  rintro e w' ⟨rfl, rfl⟩
  go_wp2_with fail
  refine (n18.out W (Below.refl _ _)).mono ?_
  rintro e w' ⟨rfl, rfl⟩
  go_wp2_with fail
  refine (n20.out W (Below.refl _ _)).mono ?_
  rintro e w' ⟨rfl, rfl⟩
  go_wp2_with fail
  refine (n22.out _ (eh.out _)).mono ?_
  rintro e w' ⟨rfl, rfl⟩
  go_wp2_with fail
  refine (g30.out _ (eh.out _)).mono ?_
  rintro e w' ⟨rfl, rfl⟩
  go_wp2_with fail
  refine (hmy.out _).mono ?_
  rintro e w4 ⟨rfl, hb4'⟩
  have hb4 := hide ((eh.out #[.int .u64 (x1 : Int), .int .i64 (x2 : Int), .int .i64 (x3 : Int), .int .i64 (x4 : Int), .int .i64 (x5 : Int), .int .i64 (x6 : Int), .int .i64 x7, .int .u64 (x8 : Int)]).trans (hb4'.mono (eh.out #[.int .u64 (x1 : Int), .int .i64 (x2 : Int), .int .i64 (x3 : Int), .int .i64 (x4 : Int), .int .i64 (x5 : Int), .int .i64 (x6 : Int), .int .i64 x7, .int .u64 (x8 : Int)]).size))
  have hbw := hide (hb.out.trans (hb4.out.mono hb.out.size))
  have hz4 := hide ((hb4.out.block w.heap.size hs.out).trans Hz.out)
  have hh4 := hide ((hb4'.block W.heap.size (by simp)).trans (heap_alloc_new W (.cells #[.int .u64 (x1 : Int), .int .i64 (x2 : Int), .int .i64 (x3 : Int), .int .i64 (x4 : Int), .int .i64 (x5 : Int), .int .i64 (x6 : Int), .int .i64 x7, .int .u64 (x8 : Int)] 30)))
  obtain ⟨z0, z1, z2, z3, z4, z5, z6, z7, z8⟩ := ret9 (w := w4) (u := undef) hz4.out
  have zf : ∀ i, w4.frozen? ⟨w.heap.size, i, none⟩ = false := fun i => by simp [World.frozen?, hz4.out]
  have y2 : w4.cell? ⟨W.heap.size, 2, none⟩ = some (.int .i64 (x3 : Int)) := cell_of_row w4 W.heap.size 2 _ _ (0, 0) hh4.out
  clear hb4'
  go_wp2_with fail
  have hrd4 := hide ((Hr.out.below hb4.out).mono (S' := (· < w4.heap.size)) fun k hk => Nat.lt_of_lt_of_le hk hb4.out.size)
  have hse := hide (fun (y : World) (hy : Below w4.heap.size w4 y) => (show Calls Try.prog 18 #[.slice (some ⟨bb, ob, none⟩) m c] y fun e w' => ∃ v', e = .returned v' ∧ Fresh y w' v' (sealL (b.take m)) from by
    have := refseal_calls (some ⟨bb, ob, none⟩) (b.take m) c _ y Hm.out (by rw [List.length_take]; omega) (by rw [List.length_take]; omega) ((hrd4.out.below hy).take m) (fun k hk => Nat.lt_of_lt_of_le hk hy.size)
    rwa [show (b.take m).length = m by rw [List.length_take]; have := Hmn.out; omega] at this))
  have hsb := hide (fun (y : World) (hy : Below w4.heap.size w4 y) => run_str (P := Try.prog) (w := y) Try.underlying22 Try.underlying5 Try.underlying9 (hrd4.out.below hy).srcB c)
  rw [h8] at hse
  generalize hsb0 : bstr b = sb at *
  have Hsb0 := hide hsb0
  clear hsb0
  have s0 := hsb.out w4 (Below.refl _ _)
  go_region_held (fun y => Hid (Below w4.heap.size w4 y) ∧ (convert 22 9 (.slice (some ⟨bb, ob, none⟩) b.length c)).run Try.prog y = .ok (.string sb) y)
    (exact ⟨hide (Hid.out (by repeat (first | assumption | exact hide (Below.refl _ _) | refine held_alloc ?_ | refine held_drew ?_))), hsb.out _ (Hid.out (by repeat (first | assumption | exact hide (Below.refl _ _) | refine held_alloc ?_ | refine held_drew ?_)))⟩) (first
    | (go_at_call 18
       refine (hse.out _ (Hid.out (by repeat (first | assumption | exact hide (Below.refl _ _) | refine held_alloc ?_ | refine held_drew ?_)))).mono ?_
       rintro e w9 ⟨v9, rfl, hf9⟩
       have hb9 : Hid (Below w4.heap.size w4 w9) := hide (Below.trans (Hid.out (by repeat (first | assumption | exact hide (Below.refl _ _) | refine held_alloc ?_ | refine held_drew ?_))) (hf9.2.1.mono (Below.size (Hid.out (by repeat (first | assumption | exact hide (Below.refl _ _) | refine held_alloc ?_ | refine held_drew ?_))))))
       obtain ⟨A9, c9, rfl, -, -⟩ := hf9.shape
       have t9 := run_str (P := Try.prog) (w := w9) Try.underlying22 Try.underlying5 Try.underlying9 hf9.1.src c9
       rw [Hsb0.out] at t9
       clear hf9))
  have hb9w := hide (hbw.out.trans (hb9.out.mono hbw.out.size))
  have hz9 := hide ((hb9.out.block w.heap.size (by have := hs.out; have := hb4.out.size; omega)).trans hz4.out)
  have hh9 := hide ((hb9.out.block W.heap.size (by have := (Array.getElem?_eq_some_iff.1 hh4.out).1; exact this)).trans hh4.out)
  clear z0 z1 z2 z3 z4 z5 z6 z7 z8 zf y2 t9 s0
  obtain ⟨k9, hk9⟩ : ∃ k9, k9 = 38 + x3 := ⟨_, rfl⟩
  have w9k : IntKind.i64.wrap (38 + (x3 : Int)) = (k9 : Int) := by rw [IntKind.wrap_i64]; omega
  have k9a : (38 : Int) ≤ (k9 : Int) := by omega
  have k9b : (k9 : Int) ≤ (c : Int) := by have := H7.out; omega
  have Hk9 := hide hk9
  have c38n : ¬ c = 38 := by omega
  have k9c : k9 - 38 ≤ 65535 := by omega
  clear hk9
  have hcs := hide (fun (y : World) (hy : Below w9.heap.size w9 y) => (⟨(cell_of_row y W.heap.size 0 _ _ (0, 0) ((hy.block W.heap.size (by have := (Array.getElem?_eq_some_iff.1 hh9.out).1; exact this)).trans hh9.out)), (cell_of_row y W.heap.size 1 _ _ (0, 0) ((hy.block W.heap.size (by have := (Array.getElem?_eq_some_iff.1 hh9.out).1; exact this)).trans hh9.out)), (cell_of_row y W.heap.size 2 _ _ (0, 0) ((hy.block W.heap.size (by have := (Array.getElem?_eq_some_iff.1 hh9.out).1; exact this)).trans hh9.out)), (cell_of_row y W.heap.size 3 _ _ (0, 0) ((hy.block W.heap.size (by have := (Array.getElem?_eq_some_iff.1 hh9.out).1; exact this)).trans hh9.out)), (cell_of_row y W.heap.size 4 _ _ (0, 0) ((hy.block W.heap.size (by have := (Array.getElem?_eq_some_iff.1 hh9.out).1; exact this)).trans hh9.out)), (cell_of_row y W.heap.size 5 _ _ (0, 0) ((hy.block W.heap.size (by have := (Array.getElem?_eq_some_iff.1 hh9.out).1; exact this)).trans hh9.out)), (cell_of_row y W.heap.size 6 _ _ (0, 0) ((hy.block W.heap.size (by have := (Array.getElem?_eq_some_iff.1 hh9.out).1; exact this)).trans hh9.out)), (cell_of_row y W.heap.size 7 _ _ (0, 0) ((hy.block W.heap.size (by have := (Array.getElem?_eq_some_iff.1 hh9.out).1; exact this)).trans hh9.out))⟩ : y.cell? ⟨W.heap.size, 0, none⟩ = some (.int .u64 (x1 : Int)) ∧ y.cell? ⟨W.heap.size, 1, none⟩ = some (.int .i64 (x2 : Int)) ∧ y.cell? ⟨W.heap.size, 2, none⟩ = some (.int .i64 (x3 : Int)) ∧ y.cell? ⟨W.heap.size, 3, none⟩ = some (.int .i64 (x4 : Int)) ∧ y.cell? ⟨W.heap.size, 4, none⟩ = some (.int .i64 (x5 : Int)) ∧ y.cell? ⟨W.heap.size, 5, none⟩ = some (.int .i64 (x6 : Int)) ∧ y.cell? ⟨W.heap.size, 6, none⟩ = some (.int .i64 x7) ∧ y.cell? ⟨W.heap.size, 7, none⟩ = some (.int .u64 (x8 : Int))))
  have k0 := hcs.out _ (Below.refl _ _)
  have lk := hide (show ((mid b 38 x3).map encB).length = k9 - 38 by rw [List.length_map, mid_len (by have := H7.out; omega), Hk9.out]; omega)
  have hs71 := hide (fun (y : World) (hy : Below w9.heap.size w9 y) => (mid_rd' (hrd4.out.below (hb9.out.trans (hy.mono hb9.out.size))) 38 x3 (by have := H7.out; omega) hx31 hc).srcB)
  have ho71 := hide (encB_one (mid b 38 x3))
  clear hse
  go_wp2_with fail
  have Hne := hide (show w.heap.size ≠ W.heap.size by have := hs.out; omega)
  refine wp_region_K 10 (fun y => y.cell? ⟨W.heap.size, 0, none⟩ = some (.int .u64 (x1 : Int)) ∧ y.cell? ⟨W.heap.size, 1, none⟩ = some (.int .i64 (x2 : Int)) ∧ y.cell? ⟨W.heap.size, 2, none⟩ = some (.int .i64 (x3 : Int)) ∧ y.cell? ⟨W.heap.size, 3, none⟩ = some (.int .i64 (x4 : Int)) ∧ y.cell? ⟨W.heap.size, 4, none⟩ = some (.int .i64 (x5 : Int)) ∧ y.cell? ⟨W.heap.size, 5, none⟩ = some (.int .i64 (x6 : Int)) ∧ y.cell? ⟨W.heap.size, 6, none⟩ = some (.int .i64 x7) ∧ y.cell? ⟨W.heap.size, 7, none⟩ = some (.int .u64 (x8 : Int))) (by kernel_rfl) (hcs.out _ (Below.refl _ _).drew) (fun hHeld => ?_)
  have d9 := hide (Below.refl w9.heap.size w9).drew
  generalize w9.drew = v9 at *
  have z9 := d9.out.size
  refine wpAnyK_take (i := 0) (v := ?_) rfl (by kernel_rfl) (by kernel_rfl) (by kernel_rfl) (by kernel_rfl) (fun _ _ _ h => h) (Or.inl ⟨by rfl, ?_⟩) (by assumption) ?_
  rotate_left
  (focus (intro y hSw; (try dsimp only at hSw); go_simp; first | done | with_reducible rfl))
  (try simp only [Act.put, List.setIfInBounds_toArray, List.set_cons_zero, List.set_cons_succ])
  refine wpAnyK_take0 (i := 2) (v := ?_) rfl (by kernel_rfl) (by kernel_rfl) (by kernel_rfl) (by decide) (fun _ _ _ h => h) (Or.inl ⟨by rfl, ?_⟩) (fun _ => by assumption) ?_
  rotate_left
  (focus (intro y hSw; go_simp; first | done | with_reducible rfl))
  (try simp only [Act.put, List.setIfInBounds_toArray, List.set_cons_zero, List.set_cons_succ])
  refine wpAnyK_take0 (i := 3) (v := ?_) rfl (by kernel_rfl) (by kernel_rfl) (by kernel_rfl) (by decide) (fun _ _ _ h => h) (Or.inl ⟨by rfl, ?_⟩) (fun _ => by assumption) ?_
  rotate_left
  (focus (intro y hSw; go_simp; first | done | with_reducible rfl))
  (try simp only [Act.put, List.setIfInBounds_toArray, List.set_cons_zero, List.set_cons_succ])
  refine wpAnyK_take0 (i := 4) (v := ?_) rfl (by kernel_rfl) (by kernel_rfl) (by kernel_rfl) (by decide) (fun _ _ _ h => h) (Or.inl ⟨by rfl, ?_⟩) (fun _ => by assumption) ?_
  rotate_left
  (focus (intro y hSw; go_simp; first | done | with_reducible rfl))
  (try simp only [Act.put, List.setIfInBounds_toArray, List.set_cons_zero, List.set_cons_succ])
  refine wpAnyK_take (i := 5) (v := ?_) rfl (by kernel_rfl) (by kernel_rfl) (by kernel_rfl) (by kernel_rfl) (fun _ _ _ h => h) (Or.inl ⟨by rfl, ?_⟩) (by assumption) ?_
  rotate_left
  (focus (intro y hSw; (try dsimp only at hSw); go_simp; first | done | with_reducible rfl))
  (try simp only [Act.put, List.setIfInBounds_toArray, List.set_cons_zero, List.set_cons_succ])
  refine wpAnyK_take0 (i := 6) (v := ?_) rfl (by kernel_rfl) (by kernel_rfl) (by kernel_rfl) (by decide) (fun _ _ _ h => h) (Or.inl ⟨by rfl, ?_⟩) (fun _ => by assumption) ?_
  rotate_left
  (focus (intro y hSw; go_simp; first | done | with_reducible rfl))
  (try simp only [Act.put, List.setIfInBounds_toArray, List.set_cons_zero, List.set_cons_succ])
  refine wpAnyK_take0 (i := 7) (v := ?_) rfl (by kernel_rfl) (by kernel_rfl) (by kernel_rfl) (by decide) (fun _ _ _ h => h) (Or.inl ⟨by rfl, ?_⟩) (fun _ => by assumption) ?_
  rotate_left
  (focus (intro y hSw; go_simp; first | done | with_reducible rfl))
  (try simp only [Act.put, List.setIfInBounds_toArray, List.set_cons_zero, List.set_cons_succ])
  refine wpAnyK_ready (rs := [1]) (by kernel_rfl) (by simp) ?_
  refine AllReadyK.cons rfl (fun K hK => ?_) AllReadyK.nil
  go_simp
  refine named_alloc (C := K _) ?_
  intro v10 h10 g10 y10 y10a
  have b10 := hide (d9.out.trans (Ch.toBelow (B := w9.heap.size) (Ch.of_grown g10) z9 (fun b hb => by cases hb)))
  refine hK.out _ _ (hcs.out _ b10.out) (fun hHeld' => ?_)
  clear hK K hHeld
  have hHeld := hHeld'
  clear hHeld'
  (try simp only [Act.put, List.setIfInBounds_toArray, List.set_cons_zero, List.set_cons_succ])
  refine wpAnyK_ready (rs := [8]) (by kernel_rfl) (by simp) ?_
  refine AllReadyK.cons rfl (fun K hK => ?_) AllReadyK.nil
  rw [if_pos (by rfl)]
  refine op_app_lit 71 rfl (.tmp 64) (.tmp 70) 22 rfl Try.underlying22 infoB rfl (g := v9.heap.size) (news := (mid b 38 x3).map encB) rfl (A := some ⟨bb, ob + 38, none⟩) (c := c - 38) (by rw [lk.out]; rfl) (hs71.out _ b10.out) ho71.out (by rw [lk.out]; omega) (by rw [lk.out]; unfold maxLen; omega) ?_
  intro u10 w10 hn10
  obtain ⟨A10, c10, rfl, hr10, hb10'⟩ := hn10.sl
  have hb10 : Hid (Below w9.heap.size w9 w10) := hide (b10.out.trans (hb10'.mono b10.out.size))
  have hz10 := hide ((hb10.out.block w.heap.size (by have := (Array.getElem?_eq_some_iff.1 hz9.out).1; exact this)).trans hz9.out)
  refine hK.out _ _ (hcs.out _ hb10.out) (fun hHeld' => ?_)
  clear hK K hHeld
  have hHeld := hHeld'
  clear hHeld'
  (try simp only [Act.put, List.setIfInBounds_toArray, List.set_cons_zero, List.set_cons_succ])
  refine wpAnyK_take0 (i := 9) (v := ?_) rfl (by kernel_rfl) (by kernel_rfl) (by kernel_rfl) (by decide) (fun _ _ _ h => h) (Or.inl ⟨by rfl, ?_⟩) (fun _ => by assumption) ?_
  rotate_left
  (focus (intro y hSw; go_simp; first | done | with_reducible rfl))
  (try simp only [Act.put, List.setIfInBounds_toArray, List.set_cons_zero, List.set_cons_succ])
  refine wpAnyK_ready (rs := [10]) (by kernel_rfl) (by simp) ?_
  refine AllReadyK.late rfl (by kernel_rfl) (fun K hK => ?_) AllReadyK.nil
  rw [if_pos (by rfl)]
  refine wp_store_mid 32 (.tmp 2) (.tmp 72) rfl w.heap.size 0 #[.int .u64 (x1 : Int), .int .i64 (x2 : Int), .int .i64 (x3 : Int), .int .i64 (x4 : Int), .int .i64 (x5 : Int), .int .i64 (x6 : Int), .int .i64 x7, .int .u64 (x8 : Int), .slice A10 (mid b 38 x3).length c10] (by rfl) (by rfl) (there9 hz10.out) (by kernel_rfl) (by simp [Value.oneCell']) ?_
  obtain ⟨Z, hZ⟩ : ∃ Z, Z = (((((((((w10.setCell ⟨w.heap.size, 0, none⟩ (.int .u64 (x1 : Int))).setCell ⟨w.heap.size, 1, none⟩ (.int .i64 (x2 : Int))).setCell ⟨w.heap.size, 2, none⟩ (.int .i64 (x3 : Int))).setCell ⟨w.heap.size, 3, none⟩ (.int .i64 (x4 : Int))).setCell ⟨w.heap.size, 4, none⟩ (.int .i64 (x5 : Int))).setCell ⟨w.heap.size, 5, none⟩ (.int .i64 (x6 : Int))).setCell ⟨w.heap.size, 6, none⟩ (.int .i64 x7)).setCell ⟨w.heap.size, 7, none⟩ (.int .u64 (x8 : Int))).setCell ⟨w.heap.size, 8, none⟩ (.slice A10 (mid b 38 x3).length c10)) := ⟨_, rfl⟩
  obtain ⟨hhZ, hcZ⟩ := set9 _ _ _ _ _ _ _ _ _ hz10.out hZ
  have HZ := hide hZ
  refine at_world (C := K _) (Z := Z) (by rw [hZ]; rfl) ?_
  clear hZ
  refine hK.out _ _ ?_
  clear hK K hHeld
  (try simp only [Act.put, List.setIfInBounds_toArray, List.set_cons_zero, List.set_cons_succ])
  refine wpAnyK_ready (rs := [11]) (by kernel_rfl) (by simp) ?_
  refine AllReadyK.late rfl (by kernel_rfl) (fun K hK => ?_) AllReadyK.nil
  go_simp
  refine hK.out _ _ ?_
  clear hK K
  (try simp only [Act.put, List.setIfInBounds_toArray, List.set_cons_zero, List.set_cons_succ])
  refine wpAnyK_done (by kernel_rfl) ?_ _
  obtain ⟨p0, p1, p2, p3, p4, p5, p6, p7, p8⟩ := cs9 hhZ
  go_wp2_with fail
  have lm : (mid b 38 x3).length = x3 := mid_len (by have := H7.out; omega)
  obtain ⟨A', c', e', hc', hm', hrd'⟩ := hr10
  simp only [List.cons.injEq, Value.slice.injEq, and_true, true_and] at e'
  obtain ⟨rfl, rfl⟩ := e'
  have zb := hb9w.out.size
  have z0 : w.heap.size < w9.heap.size := (Array.getElem?_eq_some_iff.1 hz9.out).1
  have z10 := hb10.out.size
  rw [lm] at hc' p8
  refine bodyPost_ret (v := .tuple #[.agg #[.int .u64 (x1 : Int), .int .i64 (x2 : Int), .int .i64 (x3 : Int), .int .i64 (x4 : Int), .int .i64 (x5 : Int), .int .i64 (x6 : Int), .int .i64 x7, .int .u64 (x8 : Int), .slice A10 x3 c10], .int .i64 0]) ?_ rfl ?_
  · simp [results, Try.results12, go_sem, p0, p1, p2, p3, p4, p5, p6, p7, p8]
  refine hR.out _ _ ⟨_, _, rfl, hc', hm', (hrd'.keep fun k hk => hcZ.block k hk.2 (by have := hk.1; omega)).mono fun k hk => ⟨by omega, Nat.lt_of_lt_of_le hk.2 hcZ.size⟩, ?_⟩
  exact hcZ.below (hb9w.out.trans (hb10.out.mono zb)) (by omega) (fun b hb => by omega)
end Go.Proofs.Ytopfpadfjfmmiaa
