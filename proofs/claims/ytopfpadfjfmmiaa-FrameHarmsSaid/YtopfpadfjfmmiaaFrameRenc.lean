/- A packet's frame, by the reference. -/
import Derived.Test.YtopfpadfjfmmiaaFrameEnc
set_option linter.unusedVariables false
set_option linter.unusedSimpArgs false
namespace Go.Proofs.Ytopfpadfjfmmiaa
open Go.RowKit

theorem fieldsL (s N B Q E F len d : Nat) : headL s N B Q E F len d = [] ++ putL 16716 2 ++ putL 1 1 ++ putL s 8 ++ putL N 4 ++ putL B 2 ++ putL Q 1 ++ putL E 2 ++ putL F 2 ++ putL len 8 ++ putL d 8 := by
  simp only [headL, fieldsH, encH, List.map_cons, List.map_nil, List.flatten_cons, List.flatten_nil, List.nil_append, List.append_nil, List.append_assoc]
theorem renc_bad (s d N B Q E F len : Int) (A : Option Addr) (n c : Nat) (w : World) (h : mayH N B Q E F len = false) :
    Calls Try.prog 15 #[.agg #[.int .u64 s, .int .i64 N, .int .i64 B, .int .i64 Q, .int .i64 E, .int .i64 F, .int .i64 len, .int .u64 d, .slice A n c]] w fun e w' => e = .returned (.tuple #[.slice none 0 0, .int .i64 1]) ∧ Below w.heap.size w w' := by
  refine cps fun R hR => ?_
  have hc0 := fun w => fmay_calls s d N B Q E F len w
  rw [h] at hc0
  have Hc := hide hc0
  clear hc0 h
  obtain ⟨W, hW, hb, hs, -⟩ := pbox w s d N B Q E F len (.slice A n c) 32
  have HW := hide hW
  clear hW
  go_enter Try.func15, Try.ntmps15
  go_wp2_with fail
  rw [← HW.out]
  refine (Hc.out _).mono ?_
  rintro e w1 ⟨rfl, hb1⟩
  have hb1' := hb.trans (hb1.mono hb.size)
  clear hb1
  go_wp2_with fail
  exact hR.out _ _ ⟨rfl, hb1'⟩
theorem renc_len (s d N B Q E F len : Int) (A : Option Addr) (n c : Nat) (w : World) (h : mayH N B Q E F len = true) (hn : (n : Int) ≠ B) :
    Calls Try.prog 15 #[.agg #[.int .u64 s, .int .i64 N, .int .i64 B, .int .i64 Q, .int .i64 E, .int .i64 F, .int .i64 len, .int .u64 d, .slice A n c]] w fun e w' => e = .returned (.tuple #[.slice none 0 0, .int .i64 7]) ∧ Below w.heap.size w w' := by
  refine cps fun R hR => ?_
  have hc0 := fun w => fmay_calls s d N B Q E F len w
  rw [h] at hc0
  have Hc := hide hc0
  have hne : ((n : Int) != B) = true := by simpa using hn
  clear hc0 h hn
  obtain ⟨W, hW, hb, hs, c0, c1, c2, c3, c4, c5, c6, c7, c8⟩ := pbox w s d N B Q E F len (.slice A n c) 32
  have HW := hide hW
  clear hW
  go_enter Try.func15, Try.ntmps15
  go_wp2_with fail
  rw [← HW.out]
  refine (Hc.out _).mono ?_
  rintro e w1 ⟨rfl, hb1⟩
  have hb1' := hb.trans (hb1.mono hb.size)
  replace c2 := (hb1.cell (by simpa using hs)).trans c2
  replace c8 := (hb1.cell (by simpa using hs)).trans c8
  clear hb1
  go_wp2_with fail
  exact hR.out _ _ ⟨rfl, hb1'⟩

set_option maxRecDepth 100000 in
set_option maxHeartbeats 4000000 in
theorem renc_yes (se id : UInt64) (N B Q E F len : Nat) (A : Option Addr) (pl : List UInt8) (c : Nat) (S : Nat → Prop) (w : World)
    (h : mayH N B Q E F len = true) (hn : pl.length = B) (hm : c ≤ maxLen) (hc : pl.length ≤ c) (hp : RdL Kd.byte S w A pl) (hS : ∀ k, S k → k < w.heap.size) :
    Calls Try.prog 15 #[.agg #[.int .u64 (se.toNat : Int), .int .i64 (N : Int), .int .i64 (B : Int), .int .i64 (Q : Int), .int .i64 (E : Int), .int .i64 (F : Int), .int .i64 (len : Int), .int .u64 (id.toNat : Int), .slice A B c]] w fun e w' =>
      ∃ v, e = .returned (.tuple #[v, .int .i64 0]) ∧ Fresh w w' v (sealL (headL se.toNat N B Q E F len id.toNat ++ pl)) := by
  refine cps fun R hR => ?_
  have hc0 := fun w => fmay_calls (se.toNat : Int) (id.toNat : Int) N B Q E F len w
  rw [h] at hc0
  have Hc := hide hc0
  obtain ⟨hmay, hl0, hl1⟩ := mayH_bd h
  obtain ⟨hN1, hN2, hB1, hB2, hQ1, hQ2, hE1, hE2, hF1, hF2, -⟩ := may_bd hmay
  have hl2 : len ≤ 1048576 * 65535 := by
    have : N * B ≤ 1048576 * 65535 := Nat.mul_le_mul (by omega) (by omega)
    rw [← Int.natCast_mul] at hl1; omega
  have Hp := hide hp
  have HS := hide hS
  have Hn := hide hn
  have hsd := se.toNat_lt
  have hid := id.toNat_lt
  generalize se.toNat = s at *
  generalize id.toNat = d at *
  have wN : IntKind.u64.wrap (N : Int) = (N : Int) := by rw [wrap_u64']; omega
  have wB : IntKind.u64.wrap (B : Int) = (B : Int) := by rw [wrap_u64']; omega
  have wQ : IntKind.u64.wrap (Q : Int) = (Q : Int) := by rw [wrap_u64']; omega
  have wE : IntKind.u64.wrap (E : Int) = (E : Int) := by rw [wrap_u64']; omega
  have wF : IntKind.u64.wrap (F : Int) = (F : Int) := by rw [wrap_u64']; omega
  have wl : IntKind.u64.wrap (len : Int) = (len : Int) := by rw [wrap_u64']; omega
  have hclB : B ≤ c := by omega
  clear hc0 h hmay hl0 hl1 hp hS hn
  obtain ⟨W, hW, hb, hs, c0, c1, c2, c3, c4, c5, c6, c7, c8⟩ := pbox w s d N B Q E F len (.slice A B c) 32
  have HW := hide hW
  clear hW
  unfold maxLen at hm
  go_enter Try.func15, Try.ntmps15
  go_wp2_with fail
  rw [← HW.out]
  refine (Hc.out _).mono ?_
  rintro e w1 ⟨rfl, hb1⟩
  have hb1' := hide (hb.trans (hb1.mono hb.size))
  replace c0 := (hb1.cell (by simpa using hs)).trans c0
  replace c1 := (hb1.cell (by simpa using hs)).trans c1
  replace c2 := (hb1.cell (by simpa using hs)).trans c2
  replace c3 := (hb1.cell (by simpa using hs)).trans c3
  replace c4 := (hb1.cell (by simpa using hs)).trans c4
  replace c5 := (hb1.cell (by simpa using hs)).trans c5
  replace c6 := (hb1.cell (by simpa using hs)).trans c6
  replace c7 := (hb1.cell (by simpa using hs)).trans c7
  replace c8 := (hb1.cell (by simpa using hs)).trans c8
  have hs1 := hide (Nat.lt_of_lt_of_le hs hb1.size)
  clear hb1 hb hs
  go_wp2_with fail
  refine (refput_calls (.slice none 0 0) [] 16716 2 w1 (by omega) (by omega) (by simp) Row.nil).mono ?_
  rintro e w2 ⟨v2, rfl, hf2⟩
  have hb2 := hide (show Below w1.heap.size w1 w2 from hf2.2.1)
  have hr2 := hide hf2.1
  clear hf2
  go_wp2_with fail
  refine (refput_calls v2 _ 1 1 w2 (by omega) (by omega) (by simp [putL_len]) hr2.out).mono ?_
  rintro e w3 ⟨v3, rfl, hf3⟩
  have hb3 := hide (show Below w1.heap.size w1 w3 from hb2.out.trans (hf3.2.1.mono hb2.out.size))
  have hr3 := hide hf3.1
  have hfs := hide (fieldsL s N B Q E F len d)
  clear hf3 hr2 hb2
  generalize hz3 : [] ++ putL 16716 2 ++ putL 1 1 = z3 at hr3
  have Hz3 := hide hz3
  have hl3 : Hid (z3.length ≤ 3) := hide (by rw [← hz3]; simp [putL_len])
  have hcs := hide (fun (y : World) (hy : Below w1.heap.size w1 y) => (⟨hide hy, (hy.cell (by simpa using hs1.out)).trans c0, (hy.cell (by simpa using hs1.out)).trans c1, (hy.cell (by simpa using hs1.out)).trans c2, (hy.cell (by simpa using hs1.out)).trans c3, (hy.cell (by simpa using hs1.out)).trans c4, (hy.cell (by simpa using hs1.out)).trans c5, (hy.cell (by simpa using hs1.out)).trans c6, (hy.cell (by simpa using hs1.out)).trans c7, (hy.cell (by simpa using hs1.out)).trans c8⟩ :
    Hid (Below w1.heap.size w1 y) ∧ y.cell? ⟨w.heap.size, 0, none⟩ = some (.int .u64 (s : Int)) ∧ y.cell? ⟨w.heap.size, 1, none⟩ = some (.int .i64 (N : Int)) ∧ y.cell? ⟨w.heap.size, 2, none⟩ = some (.int .i64 (B : Int)) ∧ y.cell? ⟨w.heap.size, 3, none⟩ = some (.int .i64 (Q : Int)) ∧ y.cell? ⟨w.heap.size, 4, none⟩ = some (.int .i64 (E : Int)) ∧ y.cell? ⟨w.heap.size, 5, none⟩ = some (.int .i64 (F : Int)) ∧ y.cell? ⟨w.heap.size, 6, none⟩ = some (.int .i64 (len : Int)) ∧ y.cell? ⟨w.heap.size, 7, none⟩ = some (.int .u64 (d : Int)) ∧ y.cell? ⟨w.heap.size, 8, none⟩ = some (.slice A B c)))
  clear hz3 c0 c1 c2 c3 c4 c5 c6 c7 c8
  have hp4 := hide (fun (y : World) (hy : Below w3.heap.size w3 y) => (show Calls Try.prog 34 #[v3, .int .u64 (s : Int), .int .i64 8] y fun e w' => ∃ v', e = .returned v' ∧ Fresh y w' v' (z3 ++ putL s 8) from refput_calls v3 z3 s 8 y (by omega) (by omega) (by have := hl3.out; omega) (hr3.out.keep fun k hk => hy.block k (hr3.out.lt hk))))
  have k0 := hcs.out _ hb3.out
  go_wp2_with fail
  go_region_held (fun y => Hid (Below w1.heap.size w1 y) ∧ y.cell? ⟨w.heap.size, 0, none⟩ = some (.int .u64 (s : Int)) ∧ y.cell? ⟨w.heap.size, 1, none⟩ = some (.int .i64 (N : Int)) ∧ y.cell? ⟨w.heap.size, 2, none⟩ = some (.int .i64 (B : Int)) ∧ y.cell? ⟨w.heap.size, 3, none⟩ = some (.int .i64 (Q : Int)) ∧ y.cell? ⟨w.heap.size, 4, none⟩ = some (.int .i64 (E : Int)) ∧ y.cell? ⟨w.heap.size, 5, none⟩ = some (.int .i64 (F : Int)) ∧ y.cell? ⟨w.heap.size, 6, none⟩ = some (.int .i64 (len : Int)) ∧ y.cell? ⟨w.heap.size, 7, none⟩ = some (.int .u64 (d : Int)) ∧ y.cell? ⟨w.heap.size, 8, none⟩ = some (.slice A B c))
    (exact hcs.out _ (Hid.out (by first | assumption | exact hide (hb3.out.drew)))) (first
    | (go_at_call 34
       with_reducible refine (hp4.out _ (Below.refl _ _).drew).mono ?_
       rintro e w4 ⟨v4, rfl, hf4⟩
       have hb4 : Hid (Below w1.heap.size w1 w4) := hide (hb3.out.trans (Below.mono (B := w3.heap.size) ⟨hf4.2.1.os, hf4.2.1.tape, hf4.2.1.output, hf4.2.1.size, hf4.2.1.block⟩ hb3.out.size))
       have hq4 := hide (show Calls Try.prog 34 #[v4, .int .u64 (N : Int), .int .i64 4] w4 fun e w' => ∃ v', e = .returned v' ∧ Fresh w4 w' v' ((z3 ++ putL s 8) ++ putL N 4) from refput_calls v4 _ N 4 w4 (by omega) (by omega) (by have := hl3.out; simp [putL_len]; omega) hf4.1)
       have hfa := hide hf4
       clear hf4)
    | (go_at_call 34
       with_reducible refine hq4.out.mono ?_
       rintro e w5 ⟨v5, rfl, hf5⟩
       have hb5 : Hid (Below w1.heap.size w1 w5) := hide (hb4.out.trans (hf5.2.1.mono hb4.out.size))
       have hr5 := hide hf5.1
       have ho5 := hide (show ∀ k, v5.ownBlock = some k → w1.heap.size ≤ k from fun k hk => Nat.le_trans hb4.out.size (hf5.2.2 k hk))
       clear hf5))
  generalize hz5 : z3 ++ putL s 8 ++ putL N 4 = z5 at hr5
  have Hz5 := hide hz5
  have hl5 : Hid (z5.length ≤ 15) := hide (by rw [← hz5]; have := hl3.out; simp [putL_len]; omega)
  clear hz5 hp4 hq4 hfa hr3 k0
  have hp6 := hide (fun (y : World) (hy : Below w5.heap.size w5 y) => (show Calls Try.prog 34 #[v5, .int .u64 (B : Int), .int .i64 2] y fun e w' => ∃ v', e = .returned v' ∧ Fresh y w' v' (z5 ++ putL B 2) from refput_calls v5 z5 B 2 y (by omega) (by omega) (by have := hl5.out; omega) (hr5.out.keep fun k hk => hy.block k (hr5.out.lt hk))))
  have k0 := hcs.out _ hb5.out
  go_wp2_with fail
  go_region_held (fun y => Hid (Below w1.heap.size w1 y) ∧ y.cell? ⟨w.heap.size, 0, none⟩ = some (.int .u64 (s : Int)) ∧ y.cell? ⟨w.heap.size, 1, none⟩ = some (.int .i64 (N : Int)) ∧ y.cell? ⟨w.heap.size, 2, none⟩ = some (.int .i64 (B : Int)) ∧ y.cell? ⟨w.heap.size, 3, none⟩ = some (.int .i64 (Q : Int)) ∧ y.cell? ⟨w.heap.size, 4, none⟩ = some (.int .i64 (E : Int)) ∧ y.cell? ⟨w.heap.size, 5, none⟩ = some (.int .i64 (F : Int)) ∧ y.cell? ⟨w.heap.size, 6, none⟩ = some (.int .i64 (len : Int)) ∧ y.cell? ⟨w.heap.size, 7, none⟩ = some (.int .u64 (d : Int)) ∧ y.cell? ⟨w.heap.size, 8, none⟩ = some (.slice A B c))
    (exact hcs.out _ (Hid.out (by first | assumption | exact hide (hb5.out.drew)))) (first
    | (go_at_call 34
       with_reducible refine (hp6.out _ (Below.refl _ _).drew).mono ?_
       rintro e w6 ⟨v6, rfl, hf6⟩
       have hb6 : Hid (Below w1.heap.size w1 w6) := hide (hb5.out.trans (Below.mono (B := w5.heap.size) ⟨hf6.2.1.os, hf6.2.1.tape, hf6.2.1.output, hf6.2.1.size, hf6.2.1.block⟩ hb5.out.size))
       have hq6 := hide (show Calls Try.prog 34 #[v6, .int .u64 (Q : Int), .int .i64 1] w6 fun e w' => ∃ v', e = .returned v' ∧ Fresh w6 w' v' ((z5 ++ putL B 2) ++ putL Q 1) from refput_calls v6 _ Q 1 w6 (by omega) (by omega) (by have := hl5.out; simp [putL_len]; omega) hf6.1)
       have hfa := hide hf6
       clear hf6)
    | (go_at_call 34
       with_reducible refine hq6.out.mono ?_
       rintro e w7 ⟨v7, rfl, hf7⟩
       have hb7 : Hid (Below w1.heap.size w1 w7) := hide (hb6.out.trans (hf7.2.1.mono hb6.out.size))
       have hr7 := hide hf7.1
       have ho7 := hide (show ∀ k, v7.ownBlock = some k → w1.heap.size ≤ k from fun k hk => Nat.le_trans hb6.out.size (hf7.2.2 k hk))
       clear hf7))
  generalize hz7 : z5 ++ putL B 2 ++ putL Q 1 = z7 at hr7
  have Hz7 := hide hz7
  have hl7 : Hid (z7.length ≤ 18) := hide (by rw [← hz7]; have := hl5.out; simp [putL_len]; omega)
  clear hz7 hp6 hq6 hfa hr5 k0
  have hp8 := hide (fun (y : World) (hy : Below w7.heap.size w7 y) => (show Calls Try.prog 34 #[v7, .int .u64 (E : Int), .int .i64 2] y fun e w' => ∃ v', e = .returned v' ∧ Fresh y w' v' (z7 ++ putL E 2) from refput_calls v7 z7 E 2 y (by omega) (by omega) (by have := hl7.out; omega) (hr7.out.keep fun k hk => hy.block k (hr7.out.lt hk))))
  have k0 := hcs.out _ hb7.out
  go_wp2_with fail
  go_region_held (fun y => Hid (Below w1.heap.size w1 y) ∧ y.cell? ⟨w.heap.size, 0, none⟩ = some (.int .u64 (s : Int)) ∧ y.cell? ⟨w.heap.size, 1, none⟩ = some (.int .i64 (N : Int)) ∧ y.cell? ⟨w.heap.size, 2, none⟩ = some (.int .i64 (B : Int)) ∧ y.cell? ⟨w.heap.size, 3, none⟩ = some (.int .i64 (Q : Int)) ∧ y.cell? ⟨w.heap.size, 4, none⟩ = some (.int .i64 (E : Int)) ∧ y.cell? ⟨w.heap.size, 5, none⟩ = some (.int .i64 (F : Int)) ∧ y.cell? ⟨w.heap.size, 6, none⟩ = some (.int .i64 (len : Int)) ∧ y.cell? ⟨w.heap.size, 7, none⟩ = some (.int .u64 (d : Int)) ∧ y.cell? ⟨w.heap.size, 8, none⟩ = some (.slice A B c))
    (exact hcs.out _ (Hid.out (by first | assumption | exact hide (hb7.out.drew)))) (first
    | (go_at_call 34
       with_reducible refine (hp8.out _ (Below.refl _ _).drew).mono ?_
       rintro e w8 ⟨v8, rfl, hf8⟩
       have hb8 : Hid (Below w1.heap.size w1 w8) := hide (hb7.out.trans (Below.mono (B := w7.heap.size) ⟨hf8.2.1.os, hf8.2.1.tape, hf8.2.1.output, hf8.2.1.size, hf8.2.1.block⟩ hb7.out.size))
       have hq8 := hide (show Calls Try.prog 34 #[v8, .int .u64 (F : Int), .int .i64 2] w8 fun e w' => ∃ v', e = .returned v' ∧ Fresh w8 w' v' ((z7 ++ putL E 2) ++ putL F 2) from refput_calls v8 _ F 2 w8 (by omega) (by omega) (by have := hl7.out; simp [putL_len]; omega) hf8.1)
       have hfa := hide hf8
       clear hf8)
    | (go_at_call 34
       with_reducible refine hq8.out.mono ?_
       rintro e w9 ⟨v9, rfl, hf9⟩
       have hb9 : Hid (Below w1.heap.size w1 w9) := hide (hb8.out.trans (hf9.2.1.mono hb8.out.size))
       have hr9 := hide hf9.1
       have ho9 := hide (show ∀ k, v9.ownBlock = some k → w1.heap.size ≤ k from fun k hk => Nat.le_trans hb8.out.size (hf9.2.2 k hk))
       clear hf9))
  generalize hz9 : z7 ++ putL E 2 ++ putL F 2 = z9 at hr9
  have Hz9 := hide hz9
  have hl9 : Hid (z9.length ≤ 22) := hide (by rw [← hz9]; have := hl7.out; simp [putL_len]; omega)
  clear hz9 hp8 hq8 hfa hr7 k0
  have hp10 := hide (fun (y : World) (hy : Below w9.heap.size w9 y) => (show Calls Try.prog 34 #[v9, .int .u64 (len : Int), .int .i64 8] y fun e w' => ∃ v', e = .returned v' ∧ Fresh y w' v' (z9 ++ putL len 8) from refput_calls v9 z9 len 8 y (by omega) (by omega) (by have := hl9.out; omega) (hr9.out.keep fun k hk => hy.block k (hr9.out.lt hk))))
  have k0 := hcs.out _ hb9.out
  go_wp2_with fail
  go_region_held (fun y => Hid (Below w1.heap.size w1 y) ∧ y.cell? ⟨w.heap.size, 0, none⟩ = some (.int .u64 (s : Int)) ∧ y.cell? ⟨w.heap.size, 1, none⟩ = some (.int .i64 (N : Int)) ∧ y.cell? ⟨w.heap.size, 2, none⟩ = some (.int .i64 (B : Int)) ∧ y.cell? ⟨w.heap.size, 3, none⟩ = some (.int .i64 (Q : Int)) ∧ y.cell? ⟨w.heap.size, 4, none⟩ = some (.int .i64 (E : Int)) ∧ y.cell? ⟨w.heap.size, 5, none⟩ = some (.int .i64 (F : Int)) ∧ y.cell? ⟨w.heap.size, 6, none⟩ = some (.int .i64 (len : Int)) ∧ y.cell? ⟨w.heap.size, 7, none⟩ = some (.int .u64 (d : Int)) ∧ y.cell? ⟨w.heap.size, 8, none⟩ = some (.slice A B c))
    (exact hcs.out _ (Hid.out (by first | assumption | exact hide (hb9.out.drew)))) (first
    | (go_at_call 34
       with_reducible refine (hp10.out _ (Below.refl _ _).drew).mono ?_
       rintro e w10 ⟨v10, rfl, hf10⟩
       have hb10 : Hid (Below w1.heap.size w1 w10) := hide (hb9.out.trans (Below.mono (B := w9.heap.size) ⟨hf10.2.1.os, hf10.2.1.tape, hf10.2.1.output, hf10.2.1.size, hf10.2.1.block⟩ hb9.out.size))
       have hq10 := hide (show Calls Try.prog 34 #[v10, .int .u64 (d : Int), .int .i64 8] w10 fun e w' => ∃ v', e = .returned v' ∧ Fresh w10 w' v' ((z9 ++ putL len 8) ++ putL d 8) from refput_calls v10 _ d 8 w10 (by omega) (by omega) (by have := hl9.out; simp [putL_len]; omega) hf10.1)
       have hfa := hide hf10
       clear hf10)
    | (go_at_call 34
       with_reducible refine hq10.out.mono ?_
       rintro e w11 ⟨v11, rfl, hf11⟩
       have hb11 : Hid (Below w1.heap.size w1 w11) := hide (hb10.out.trans (hf11.2.1.mono hb10.out.size))
       have hr11 := hide hf11.1
       have ho11 := hide (show ∀ k, v11.ownBlock = some k → w1.heap.size ≤ k from fun k hk => Nat.le_trans hb10.out.size (hf11.2.2 k hk))
       clear hf11))
  generalize hz11 : z9 ++ putL len 8 ++ putL d 8 = z11 at hr11
  have Hz11 := hide hz11
  have hl11 : Hid (z11.length ≤ 38) := hide (by rw [← hz11]; have := hl9.out; simp [putL_len]; omega)
  clear hz11 hp10 hq10 hfa hr9 k0
  have k0 := (hcs.out _ hb11.out).2.2.2.2.2.2.2.2.2
  have hpS := hide ((Hp.out.keep (w' := w11) fun k hk => (hb1'.out.trans (hb11.out.mono hb1'.out.size)).block k (HS.out k hk)).srcB)
  have hpo := hide (encB_one pl)
  have lpl := hide (show (pl.map encB).length = B by rw [List.length_map, Hn.out])
  go_wp2_with (at_builtin; with_reducible refine wp_app 69 rfl rfl (.tmp 66) (.tmp 68) 22 rfl Try.underlying22 infoB ?_ (us := z11.map encB) ?_ hr11.out (A := A) (c := c) (news := pl.map encB) ?_ hpS.out hpo.out ?_ ?_ ?_)
  case refine_1 => rfl
  case refine_2 => rfl
  case refine_3 => rw [lpl.out]; rfl
  case refine_4 => rw [lpl.out, List.length_map]; have := hl11.out; omega
  case refine_5 => rw [lpl.out, List.length_map]; have := hl11.out; unfold maxLen; omega
  intro v12 w12 h12 g12 a12
  rw [← List.map_append] at h12
  have hb12 := hide ((Ch.of_grown g12).below hb11.out hb11.out.size (fun k hk => ho11.out k hk))
  obtain ⟨A12, c12, rfl, hc12, hm12⟩ := h12.shape
  rw [List.length_map] at h12 hc12 ⊢
  have hlb : (z11 ++ pl).length ≤ 100000 := by rw [List.length_append]; have := hl11.out; have := Hn.out; omega
  have hsl := hide (refseal_calls A12 (z11 ++ pl) c12 _ w12 hm12 hc12 hlb (h12.rd rfl (fun k => (Value.slice A12 (z11 ++ pl).length c12).ownBlock = some k) (fun _ h => h) (fun x => ⟨_, rfl, rfl⟩)) (fun k hk => h12.lt hk))
  have hze := hide (show z11 ++ pl = headL s N B Q E F len d ++ pl by rw [hfs.out, ← Hz11.out, ← Hz9.out, ← Hz7.out, ← Hz5.out, ← Hz3.out])
  generalize z11 ++ pl = z at *
  generalize z.length = zl at *
  clear h12 g12 a12 hlb k0
  go_wp2_with fail
  refine hsl.out.mono ?_
  rintro e w13 ⟨v13, rfl, hf13⟩
  have hbf := hide (hb1'.out.trans ((hb12.out.trans (hf13.2.1.mono hb12.out.size)).mono hb1'.out.size))
  have hs12 := hide (Nat.le_trans hb1'.out.size hb12.out.size)
  have Hf13 := hide hf13
  clear hf13
  go_wp2_with fail
  refine hR.out _ _ ⟨_, rfl, ?_, hbf.out, fun k hk => Nat.le_trans hs12.out (Hf13.out.2.2 k hk)⟩
  rw [← hze.out]
  exact Hf13.out.1
end Go.Proofs.Ytopfpadfjfmmiaa
