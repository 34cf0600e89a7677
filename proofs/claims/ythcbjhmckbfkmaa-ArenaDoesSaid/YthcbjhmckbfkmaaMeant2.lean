/- The numbers that are meant by an act: of what was given out. -/
import Derived.Test.YthcbjhmckbfkmaaMeant
set_option linter.unusedVariables false
set_option linter.unusedSimpArgs false
namespace Go.Proofs.Ythcbjhmckbfkmaa
open Go.RowKit

theorem wrap_small {s : Int} (h : -100000 ≤ s ∧ s ≤ 100000) : IntKind.i64.wrap s = s := by
  simp [IntKind.wrap, IntKind.min, IntKind.max, IntKind.signed, IntKind.bits]
  split <;> omega
/-- The steps of one number: letters for all that the walk meets. -/
theorem meant_num (x : Int) {n : Nat} (hn : 1 ≤ n) (hm : n ≤ 1000) : ∃ (r s t : Int) (j : Nat), x.tmod (n : Int) = r ∧ IntKind.i64.wrap (r + (n : Int)) = s ∧ s.tmod (n : Int) = t ∧ s % (n : Int) = t ∧ IntKind.i64.wrap (IntKind.i64.wrap ((n : Int) - 1) - t) = (j : Int) ∧ j < n ∧ j = n - 1 - (x % (n : Int)).toNat := by
  have hp : (0 : Int) < (n : Int) := by omega
  have h1 := Int.tmod_lt_of_pos x hp
  have h2 : -(n : Int) < x.tmod n := Int.lt_tmod_of_pos x hp
  have h3 := mod_twice x hp
  have h4 := Int.emod_nonneg x (by omega : (n : Int) ≠ 0)
  have h5 := Int.emod_lt_of_pos x hp
  refine ⟨x.tmod n, x.tmod n + n, x % n, n - 1 - (x % (n : Int)).toNat, rfl, wrap_small (by omega), h3, ?_, ?_, by omega, rfl⟩
  · exact (Int.tmod_eq_emod_of_nonneg (a := x.tmod n + n) (b := n) (by omega)).symm.trans h3
  · rw [wrap_small (s := (n : Int) - 1) (by omega), wrap_small (by omega)]
    omega
theorem evr_cell {w : World} {E : List Int} {Eo : Option Addr} {ce j : Nat} (h : Row w 3 (.slice Eo E.length ce) (E.map fun x => .int .i64 x)) (hj : j < E.length) : ∃ b, Eo = some ⟨b, 0, none⟩ ∧ w.cell? ⟨b, j, none⟩ = some (.int .i64 E[j]) := by
  obtain ⟨b, c, e, hc, -, -, -⟩ := h.set (i := j) (by simpa using hj) (.bool true)
  injection e with e1 e2 e3
  exact ⟨b, e1, by rw [hc, List.getElem_map]⟩
set_option maxHeartbeats 2000000 in
theorem meant_ever (kd I K : Int) (Bv : Option Addr) (lx cx : Nat) (E : List Int) (Eo : Option Addr) (ce : Nat) (w : World) (h1 : 1 ≤ E.length) (hm : E.length ≤ 1000) (hE : Row w 3 (.slice Eo E.length ce) (E.map fun x => .int .i64 x)) :
    Calls Try.prog 29 #[.agg #[.int .i64 kd, .int .i64 I, .int .i64 K, .bool true, .slice Bv lx cx], .slice Eo E.length ce] w fun e w' => e = .returned (.tuple #[.int .i64 (meantI true E I), .int .i64 (meantI true E K)]) ∧ Below w.heap.size w w' := by
  refine cps fun R hR => ?_
  obtain ⟨r1, s1, t1, j1, a1, a2, a3, a4, a5, a6, a7⟩ := meant_num I h1 hm
  obtain ⟨r2, s2, t2, j2, b1, b2, b3, b4, b5, b6, b7⟩ := meant_num K h1 hm
  have hne : E ≠ [] := fun h => by rw [h] at h1; simp at h1
  have m1 : meantI true E I = E[j1] := by
    have : E.isEmpty = false := by simpa using hne
    simp only [meantI, this, ← a7]; simp [List.getD, a6]
  have m2 : meantI true E K = E[j2] := by
    have : E.isEmpty = false := by simpa using hne
    simp only [meantI, this, ← b7]; simp [List.getD, b6]
  obtain ⟨b, hEo, d1⟩ := evr_cell hE a6
  obtain ⟨b', hEo', d2⟩ := evr_cell hE b6
  obtain rfl : b = b' := by rw [hEo] at hEo'; injection hEo' with h; injection h
  subst hEo
  obtain ⟨u1, hu1⟩ : ∃ u1, u1 = E[j1] := ⟨_, rfl⟩
  obtain ⟨u2, hu2⟩ : ∃ u2, u2 = E[j2] := ⟨_, rfl⟩
  rw [← hu1] at d1 m1
  rw [← hu2] at d2 m2
  have hbl := World.block_lt_of_cell? _ _ d1
  have Hm := hide (And.intro m1 m2)
  clear m1 m2 hu1 hu2 hne a7 b7 hEo' hE
  obtain ⟨L, hL⟩ : ∃ L, L = E.length := ⟨_, rfl⟩
  rw [← hL] at h1 hm a1 a2 a3 a4 a5 a6 b1 b2 b3 b4 b5 b6 ⊢
  clear hL
  obtain ⟨w1, hw1⟩ : ∃ w1, w1 = w.alloc (.cells #[.int .i64 kd, .int .i64 I, .int .i64 K, .bool true, .slice Bv lx cx] 48) := ⟨_, rfl⟩
  have hb1 : Below w.heap.size w w1 := by rw [hw1]; exact balloc w _
  have hh : w1.heap[w.heap.size]? = some (.cells #[.int .i64 kd, .int .i64 I, .int .i64 K, .bool true, .slice Bv lx cx] 48 (0, 0)) := by rw [hw1]; exact heap_alloc_new w _
  have c1 : w1.cell? ⟨w.heap.size, 1, none⟩ = some (.int .i64 I) := by rw [cell_of_row _ _ 1 _ _ _ hh]; rfl
  have c2 : w1.cell? ⟨w.heap.size, 2, none⟩ = some (.int .i64 K) := by rw [cell_of_row _ _ 2 _ _ _ hh]; rfl
  have c3 : w1.cell? ⟨w.heap.size, 3, none⟩ = some (.bool true) := by rw [cell_of_row _ _ 3 _ _ _ hh]; rfl
  have c4 := (hb1.cell hbl).trans d1
  have c5 := (hb1.cell (World.block_lt_of_cell? _ _ d2)).trans d2
  have z1 : ((L : Int) == 0) = false := by simp; omega
  have z2 : ¬ (L : Int) = 0 := by omega
  have z3 : ¬ L = 0 := by omega
  have i1 : (0 : Int) ≤ (j1 : Int) ∧ (j1 : Int) < (L : Int) := by omega
  have i2 : (0 : Int) ≤ (j2 : Int) ∧ (j2 : Int) < (L : Int) := by omega
  obtain ⟨i1a, i1b⟩ := i1
  obtain ⟨i2a, i2b⟩ := i2
  have Hw1 := hide hw1
  have Hb1 := hide hb1
  clear hw1 hb1 hh d1 d2 hbl
  go_enter Try.func29, Try.ntmps29
  go_upto_region 1 with fail
  rw [← Hw1.out]
  clear Hw1
  go_upto_region 4 with fail
  go_quiet (fail)
  go_wp2_with fail
  exact hR.out _ _ ⟨by rw [Hm.out.1, Hm.out.2]; rfl, ⟨Hb1.out.os, Hb1.out.tape, Hb1.out.output, Hb1.out.size, Hb1.out.block⟩⟩
end Go.Proofs.Ythcbjhmckbfkmaa
