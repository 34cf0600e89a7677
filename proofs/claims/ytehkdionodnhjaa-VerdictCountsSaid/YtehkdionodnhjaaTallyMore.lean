/- A tally: how many admit; two compared; the reference's count. -/
import Derived.Test.YtehkdionodnhjaaTallyOf
set_option linter.unusedVariables false
set_option linter.unusedSimpArgs false
namespace Go.Proofs.Ytehkdionodnhjaa
open Go.RowKit

theorem count_take_succ (xs : List Int) (v : Int) (k : Nat) (hk : k < xs.length) : (xs.take (k + 1)).count v = (xs.take k).count v + if xs[k] = v then 1 else 0 := by
  rw [List.take_succ_eq_append_getElem hk, List.count_append, List.count_singleton]
  simp
theorem refcount_calls (A : Option Addr) (xs : List Int) (c : Nat) (v : Int) (S : Nat → Prop) (w : World) (hl : xs.length ≤ 1000000) (h : RdL (Kd.int .i64) S w A xs) :
    Calls Try.prog 23 #[.slice A xs.length c, .int .i64 v] w fun e w' => e = .returned (.int .i64 (xs.count v : Int)) ∧ w = w' := by
  refine cps fun R hR => ?_
  have Hr := hide h
  clear h
  go_enter Try.func23, Try.ntmps23
  go_wp2_with fail
  go_loop [5, 6] (fun s i => ∃ k : Nat, k ≤ xs.length ∧ i = .int .i64 (k : Int) ∧ s = .int .i64 ((xs.take k).count v : Int)) (fun _ i => xs.length - (intOf i).toNat)
  case atStart => exact ⟨0, by omega, rfl, rfl⟩
  case round =>
    obtain ⟨k, hk, rfl, rfl⟩ := hrel
    by_cases hlt : k < xs.length
    · obtain ⟨b, off, u, rfl, hsb, hu, hcell⟩ := Hr.out.at1 rfl hlt
      obtain ⟨rfl, wf⟩ := Kd.int_cell hu
      have e := hide (count_take_succ xs v k hlt)
      have hle : (xs.take k).count v ≤ k := by
        have := List.count_le_length (a := v) (l := xs.take k)
        rw [List.length_take] at this; omega
      clear hu wf
      generalize (xs.take k).count v = s at hle e
      generalize hxx : xs[k] = x at hcell e
      clear hxx
      by_cases hv : x = v
      · subst hv
        have e2 := hide (e.out.trans (by rw [if_pos rfl]))
        clear e
        go_wp2_with fail
        go_round
        case rel => exact ⟨k + 1, by omega, by go_num, by rw [e2.out]; go_num⟩
        case measure => simp [intOf]; omega
      · have e2 := hide (e.out.trans (by rw [if_neg hv]))
        have hb : (x == v) = false := by simpa using hv
        clear e hv
        go_wp2_with fail
        go_round
        case rel => exact ⟨k + 1, by omega, by go_num, by rw [e2.out]; rfl⟩
        case measure => simp [intOf]; omega
    · obtain rfl : k = xs.length := by omega
      go_wp2_with fail
      exact hR.out _ _ ⟨rfl, rfl⟩

/-- The counts from 5 on. -/
def admTo (f : Nat → Nat) : Nat → Nat
  | 0 => 0
  | k + 1 => admTo f k + if 5 ≤ k then f k else 0
theorem admTo_le (f : Nat → Nat) (m : Nat) (h : ∀ i, f i ≤ m) : ∀ k, admTo f k ≤ k * m
  | 0 => by simp [admTo]
  | k + 1 => by
    have := admTo_le f m h k
    have := h k
    rw [admTo, Nat.add_mul]; split <;> omega
theorem admitted_calls (g : Nat) (f : Nat → Nat) (w : World) (h : Tl w g f) (hb : ∀ i, f i ≤ 1000000) :
    Calls Try.prog 26 #[.pointer (some ⟨g, 0, none⟩)] w fun e w' => e = .returned (.int .i64 (admTo f 9 : Int)) ∧ w' = w := by
  refine cps fun R hR => ?_
  have c0 := h.cell (show 0 < 9 by omega)
  have c1 := h.cell (show 1 < 9 by omega)
  have c2 := h.cell (show 2 < 9 by omega)
  have c3 := h.cell (show 3 < 9 by omega)
  have c4 := h.cell (show 4 < 9 by omega)
  have c5 := h.cell (show 5 < 9 by omega)
  have c6 := h.cell (show 6 < 9 by omega)
  have c7 := h.cell (show 7 < 9 by omega)
  have c8 := h.cell (show 8 < 9 by omega)
  have Hb := hide hb
  clear h hb
  go_enter Try.func26, Try.ntmps26
  go_wp2_with fail
  clear c0 c1 c2 c3 c4 c5 c6 c7 c8
  go_loop [3, 10] (fun s i => ∃ k : Nat, k ≤ 9 ∧ i = .int .i64 (k : Int) ∧ s = .int .i64 (admTo f k : Int)) (fun _ i => 9 - (intOf i).toNat)
  case atStart => exact ⟨0, by omega, rfl, rfl⟩
  case round =>
    obtain ⟨k, hk, rfl, rfl⟩ := hrel
    by_cases hlt : k < 9
    · have hix := tix f k hlt
      have hsum := admTo_le f 1000000 Hb.out k
      have hfk := Hb.out k
      have ha := hide (admits_calls (k : Int) w)
      have hk' : k * 1000000 ≤ 9000000 := by omega
      by_cases h5 : 5 ≤ k
      · have e := hide (show admTo f (k + 1) = admTo f k + f k by rw [admTo, if_pos h5])
        have hd := hide (show (decide (5 ≤ (k : Int)) && decide ((k : Int) ≤ 8)) = true by simp; omega)
        generalize admTo f k = s at hsum e
        generalize hx : f k = x at hix e hfk
        have e1 : IntKind.i64.wrap ((s : Int) + (x : Int)) = (s : Int) + (x : Int) := by rw [IntKind.wrap_i64]; omega
        clear hx
        go_wp2_with fail
        refine ha.out.mono ?_
        rintro e w3 ⟨rfl, hw3⟩
        subst hw3
        rw [hd.out]
        go_wp2_with fail
        go_round
        case rel => exact ⟨k + 1, by omega, by go_num, by rw [e.out]; simp⟩
        case measure => simp [intOf]; omega
      · have e := hide (show admTo f (k + 1) = admTo f k by rw [admTo, if_neg h5]; rfl)
        have hd := hide (show (decide (5 ≤ (k : Int)) && decide ((k : Int) ≤ 8)) = false by simp; omega)
        generalize admTo f k = s at hsum e
        generalize hx : f k = x at hix hfk
        clear hx
        go_wp2_with fail
        refine ha.out.mono ?_
        rintro e w3 ⟨rfl, hw3⟩
        subst hw3
        rw [hd.out]
        go_wp2_with fail
        go_round
        case rel => exact ⟨k + 1, by omega, by go_num, by rw [e.out]⟩
        case measure => simp [intOf]; omega
    · obtain rfl : k = 9 := by omega
      go_wp2_with fail
      exact hR.out _ _ ⟨rfl, rfl⟩

theorem all_range_eqI : ∀ (xs ys : List Int), xs.length = ys.length → ((List.range xs.length).all fun i => xs.getD i 0 == ys.getD i 0) = (xs == ys)
  | [], [], _ => rfl
  | x :: xs, y :: ys, h => by
    have ih := all_range_eqI xs ys (by simpa using h)
    rw [List.length_cons, List.range_succ_eq_map, List.all_cons, List.all_map]
    simp only [List.getD_cons_zero, Function.comp_def, List.getD_cons_succ, ih]
    simp [List.cons_beq_cons]
  | [], _ :: _, h => by simp at h
  | _ :: _, [], h => by simp at h
/-- == of two arrays of numbers. -/
theorem run_eql_ints {P : Program} (w : World) (t e : TypeId) (n : Nat) (ht : P.underlying t = some (.array n e)) (he : P.underlying e = some (.int .i64)) (hsz : ∀ w, (sizeOf e).run P w = .ok 1 w)
    (xs ys : List Int) (hx : xs.length = n) (hy : ys.length = n) :
    (binOp .eql t (.agg (xs.map (Value.int .i64)).toArray) (.agg (ys.map (Value.int .i64)).toArray)).run P w = .ok (.bool (xs == ys)) w := by
  rw [run_eql_struct]
  have key : (Op.equalIn (9998 + 2) t (.agg (xs.map (Value.int .i64)).toArray) (.agg (ys.map (Value.int .i64)).toArray)).run P w = .ok (xs == ys) w := by
    rw [← all_range_eqI xs ys (hx.trans hy.symm), hx, List.range_eq_range', Op.equalIn]
    simp only [Sem.run_bind, run_underlying ht, Result.andThen_ok, hsz, Std.Legacy.Range.forIn_eq_forIn_range', Std.Legacy.Range.size, Nat.sub_zero, Nat.add_sub_cancel, Nat.div_one]
    have hl : ∀ i ∈ List.range' 0 n 1, i < n := fun i hi => by simpa using (List.mem_range'_1.1 hi).2
    generalize List.range' 0 n 1 = l at hl ⊢
    induction l with
    | nil => simp
    | cons i l ih =>
      have hi : i < n := hl i (by simp)
      have px : (part e (xs.map (Value.int .i64)).toArray (i * 1)).run P w = .ok (.int .i64 (xs.getD i 0)) w := by
        simp [part, isAgg, run_underlying he, List.getD, List.getElem?_eq_getElem (show i < xs.length by omega)]
      have py : (part e (ys.map (Value.int .i64)).toArray (i * 1)).run P w = .ok (.int .i64 (ys.getD i 0)) w := by
        simp [part, isAgg, run_underlying he, List.getD, List.getElem?_eq_getElem (show i < ys.length by omega)]
      have pe : (Op.equalIn (9998 + 1) e (.int .i64 (xs.getD i 0)) (.int .i64 (ys.getD i 0))).run P w = .ok (xs.getD i 0 == ys.getD i 0) w := by
        rw [run_equalIn_int w 9998 e .i64 .i64 _ _ he]
      simp only [List.forIn_cons, Sem.run_bind, px, py, pe, Result.andThen_ok, List.all_cons]
      cases hb : (xs.getD i 0 == ys.getD i 0)
      · simp
      · simp only [Bool.not_true, Bool.false_eq_true, if_false, Sem.run_pure, Result.andThen_ok, Bool.true_and]
        exact ih fun j hj => hl j (by simp [hj])
  rw [show (10000 : Nat) = 9998 + 2 from rfl, key]
  rfl

def tlL (f : Nat → Nat) : List Int := (List.range 9).map fun i => (f i : Int)
theorem tlL_out (f : Nat → Nat) : tlL f = [(f 0 : Int), f 1, f 2, f 3, f 4, f 5, f 6, f 7, f 8] := rfl
theorem same_calls (a0 a1 a2 a3 a4 a5 a6 a7 a8 b0 b1 b2 b3 b4 b5 b6 b7 b8 : Int) (w : World) :
    Calls Try.prog 27 #[.agg #[.int .i64 a0, .int .i64 a1, .int .i64 a2, .int .i64 a3, .int .i64 a4, .int .i64 a5, .int .i64 a6, .int .i64 a7, .int .i64 a8], .agg #[.int .i64 b0, .int .i64 b1, .int .i64 b2, .int .i64 b3, .int .i64 b4, .int .i64 b5, .int .i64 b6, .int .i64 b7, .int .i64 b8]] w fun e w' =>
      e = .returned (.bool ([a0, a1, a2, a3, a4, a5, a6, a7, a8] == [b0, b1, b2, b3, b4, b5, b6, b7, b8])) ∧ Below w.heap.size w w' := by
  refine cps fun R hR => ?_
  have hq := fun w => run_eql_ints (P := Try.prog) w 47 3 9 (by kernel_rfl) (by kernel_rfl) (fun w => by kernel_rfl) [a0, a1, a2, a3, a4, a5, a6, a7, a8] [b0, b1, b2, b3, b4, b5, b6, b7, b8] rfl rfl
  simp only [List.map_cons, List.map_nil] at hq
  have hm : Try.prog.eqGuardType Try.prog.depth 47 = false := by kernel_rfl
  generalize ([a0, a1, a2, a3, a4, a5, a6, a7, a8] == [b0, b1, b2, b3, b4, b5, b6, b7, b8]) = r at hR hq
  go_enter Try.func27, Try.ntmps27
  go_wp2_with fail
  exact hR.out _ _ ⟨rfl, (Below.refl _ _).alloc (Nat.le_refl _) _ |>.alloc (by simp) _⟩
end Go.Proofs.Ytehkdionodnhjaa
