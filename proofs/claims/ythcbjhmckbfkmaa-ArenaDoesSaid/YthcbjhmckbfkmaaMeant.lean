/- The numbers that are meant by an act. -/
import Derived.Test.YthcbjhmckbfkmaaBlk
import Derived.Deep.QuietTactic
import Derived.BigQuiet
import Derived.Deep.Cut
import Derived.Deep.CutRange
set_option linter.unusedVariables false
set_option linter.unusedSimpArgs false
namespace Go.Proofs.Ythcbjhmckbfkmaa
open Go.RowKit

def meantI (ev : Bool) (E : List Int) (x : Int) : Int := if ev && !E.isEmpty then E.getD (E.length - 1 - (x % (E.length : Int)).toNat) 0 else x
theorem mod_twice (x : Int) {n : Int} (hn : 0 < n) : (x.tmod n + n).tmod n = x % n := by
  have h1 := Int.tmod_lt_of_pos x hn
  have h2 : -n < x.tmod n := Int.lt_tmod_of_pos x hn
  rw [Int.tmod_eq_emod_of_nonneg (by omega), Int.add_emod_right]
  have h3 : x.tmod n = x - n * x.tdiv n := by have := Int.mul_tdiv_add_tmod x n; omega
  rw [h3, Int.sub_mul_emod_self_left]
set_option maxHeartbeats 2000000 in
theorem meant_look (kd I K : Int) (ev : Bool) (Bv : Option Addr) (lx cx : Nat) (E : List Int) (Eo : Option Addr) (ce : Nat) (w : World) (hev : ev = false ∨ E = []) :
    Calls Try.prog 29 #[.agg #[.int .i64 kd, .int .i64 I, .int .i64 K, .bool ev, .slice Bv lx cx], .slice Eo E.length ce] w fun e w' => e = .returned (.tuple #[.int .i64 (meantI ev E I), .int .i64 (meantI ev E K)]) ∧ Below w.heap.size w w' := by
  refine cps fun R hR => ?_
  have hm : ∀ x, meantI ev E x = x := fun x => by
    rcases hev with rfl | rfl <;> simp [meantI]
  have Hm := hide hm
  clear hm
  obtain ⟨L, hL⟩ : ∃ L, L = E.length := ⟨_, rfl⟩
  have hev' : ev = false ∨ L = 0 := hev.imp id fun h => by rw [hL, h]; rfl
  rw [← hL]
  clear hL hev
  obtain ⟨w1, hw1⟩ : ∃ w1, w1 = w.alloc (.cells #[.int .i64 kd, .int .i64 I, .int .i64 K, .bool ev, .slice Bv lx cx] 48) := ⟨_, rfl⟩
  have hb1 : Below w.heap.size w w1 := by rw [hw1]; exact balloc w _
  have hh : w1.heap[w.heap.size]? = some (.cells #[.int .i64 kd, .int .i64 I, .int .i64 K, .bool ev, .slice Bv lx cx] 48 (0, 0)) := by rw [hw1]; exact heap_alloc_new w _
  have c1 : w1.cell? ⟨w.heap.size, 1, none⟩ = some (.int .i64 I) := by rw [cell_of_row _ _ 1 _ _ _ hh]; rfl
  have c2 : w1.cell? ⟨w.heap.size, 2, none⟩ = some (.int .i64 K) := by rw [cell_of_row _ _ 2 _ _ _ hh]; rfl
  have c3 : w1.cell? ⟨w.heap.size, 3, none⟩ = some (.bool ev) := by rw [cell_of_row _ _ 3 _ _ _ hh]; rfl
  have Hw1 := hide hw1
  have Hb1 := hide hb1
  clear hw1 hb1 hh
  go_enter Try.func29, Try.ntmps29
  go_upto_region 1 with fail
  rw [← Hw1.out]
  clear Hw1
  cases ev
  · go_upto_region 2 with fail
    go_quiet (fail)
    go_wp2_with fail
    have := Hm.out
    exact hR.out _ _ ⟨by rw [this, this], ⟨Hb1.out.os, Hb1.out.tape, Hb1.out.output, Hb1.out.size, Hb1.out.block⟩⟩
  · obtain rfl : L = 0 := by rcases hev' with h | h; cases h; exact h
    go_upto_region 2 with fail
    go_quiet (fail)
    go_wp2_with fail
    have := Hm.out
    exact hR.out _ _ ⟨by rw [this, this], ⟨Hb1.out.os, Hb1.out.tape, Hb1.out.output, Hb1.out.size, Hb1.out.block⟩⟩
end Go.Proofs.Ythcbjhmckbfkmaa
