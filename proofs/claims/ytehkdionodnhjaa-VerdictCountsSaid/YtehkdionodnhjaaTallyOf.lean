/- A tally read: how many of a kind, and of all. -/
import Derived.Test.YtehkdionodnhjaaTally
set_option linter.unusedVariables false
set_option linter.unusedSimpArgs false
namespace Go.Proofs.Ytehkdionodnhjaa
open Go.RowKit

def tget (f : Nat → Nat) (v : Int) : Nat := if 1 ≤ v ∧ v ≤ 8 then f v.toNat else 0
theorem tget_out {f : Nat → Nat} {v : Int} (h : v < 1 ∨ 8 < v) : tget f v = 0 := if_neg (by omega)
theorem tget_in {f : Nat → Nat} {k : Nat} (h1 : 1 ≤ k) (h8 : k ≤ 8) : tget f (k : Int) = f k := by rw [tget, if_pos (by omega)]; rfl
theorem empty_str : (⟨#[]⟩ : ByteArray).toList.isEmpty = true := by rw [ByteArray.toList_eq]; rfl

theorem tallyof_calls (g : Nat) (f : Nat → Nat) (v : Int) (w : World) (h : Tl w g f) :
    Calls Try.prog 24 #[.pointer (some ⟨g, 0, none⟩), .int .i64 v] w fun e w' => e = .returned (.int .i64 (tget f v : Int)) ∧ Below w.heap.size w w' := by
  refine cps fun R hR => ?_
  have Ht := hide h
  clear h
  by_cases hv : v < 1 ∨ 8 < v
  · have e := hide (nmI_out hv)
    have e' := hide (tget_out (f := f) hv)
    clear hv
    go_enter Try.func24, Try.ntmps24
    go_wp2_with fail
    refine (name_calls v w).mono ?_
    rintro e1 w1 ⟨rfl, hb1⟩
    rw [e.out]
    go_wp2_with fail
    exact hR.out _ _ ⟨by rw [e'.out]; rfl, hb1⟩
  · obtain ⟨k, rfl⟩ := Int.eq_ofNat_of_zero_le (show 0 ≤ v by omega)
    have e := hide (nmI_nat (k := k) (by omega) (by omega))
    have e' := hide (tget_in (f := f) (k := k) (by omega) (by omega))
    have hne := hide (nm_some k (by omega) (by omega))
    have hix := tally_at g k (by omega)
    have hk9 : k < 9 := by omega
    clear hv
    go_enter Try.func24, Try.ntmps24
    go_wp2_with fail
    refine (name_calls (k : Int) w).mono ?_
    rintro e1 w1 ⟨rfl, hb1⟩
    rw [e.out]
    have hne1 := hne.out
    have hc := (Ht.out.below hb1).cell hk9
    go_wp2_with fail
    exact hR.out _ _ ⟨by rw [e'.out]; rfl, hb1⟩

def sumTo (f : Nat → Nat) : Nat → Nat
  | 0 => 0
  | k + 1 => sumTo f k + f k
theorem sumTo_le (f : Nat → Nat) (m : Nat) (h : ∀ i, f i ≤ m) : ∀ k, sumTo f k ≤ k * m
  | 0 => by simp [sumTo]
  | k + 1 => by
    have := sumTo_le f m h k
    have := h k
    rw [sumTo, Nat.add_mul]; omega
theorem tix (f : Nat → Nat) (k : Nat) (hk : k < 9) : ∀ w, (Instr.index 47 (.agg #[.int .i64 (f 0 : Int), .int .i64 (f 1 : Int), .int .i64 (f 2 : Int), .int .i64 (f 3 : Int), .int .i64 (f 4 : Int), .int .i64 (f 5 : Int), .int .i64 (f 6 : Int), .int .i64 (f 7 : Int), .int .i64 (f 8 : Int)]) (.int .i64 (k : Int))).run Try.prog w = .ok (.int .i64 (f k : Int)) w := by
  have : k = 0 ∨ k = 1 ∨ k = 2 ∨ k = 3 ∨ k = 4 ∨ k = 5 ∨ k = 6 ∨ k = 7 ∨ k = 8 := by omega
  rcases this with rfl | rfl | rfl | rfl | rfl | rfl | rfl | rfl | rfl <;> exact fun _ => by kernel_rfl

theorem all_calls (g : Nat) (f : Nat → Nat) (w : World) (h : Tl w g f) (hb : ∀ i, f i ≤ 1000000) :
    Calls Try.prog 25 #[.pointer (some ⟨g, 0, none⟩)] w fun e w' => e = .returned (.int .i64 (sumTo f 9 : Int)) ∧ w' = w := by
  refine cps fun R hR => ?_
  have c0 := h.cell (show 0 < 9 by omega)
  have c1 := h.cell (show 1 < 9 by omega)
  have c2 := h.cell (show 2 < 9 by omega)
  have c3 := h.cell (show 3 < 9 by omega)
  have c4 := h.cell (show 4 < 9 by omega)
  have c5 := h.cell (show 5 < 9 by omega)
  have c6 := h.cell (show 6 < 9 by omega)
  have c7 := h.cell (show 7 < 9 by omega)
  have c8 := h.cell (show 8 < 9 by omega)
  have Hb := hide hb
  clear h hb
  go_enter Try.func25, Try.ntmps25
  go_wp2_with fail
  clear c0 c1 c2 c3 c4 c5 c6 c7 c8
  go_loop [3, 10] (fun s i => ∃ k : Nat, k ≤ 9 ∧ i = .int .i64 (k : Int) ∧ s = .int .i64 (sumTo f k : Int)) (fun _ i => 9 - (intOf i).toNat)
  case atStart => exact ⟨0, by omega, rfl, rfl⟩
  case round =>
    obtain ⟨k, hk, rfl, rfl⟩ := hrel
    by_cases hlt : k < 9
    · have hix := tix f k hlt
      have hsum := sumTo_le f 1000000 Hb.out k
      have hfk := Hb.out k
      have e := hide (show sumTo f (k + 1) = sumTo f k + f k from rfl)
      generalize sumTo f k = s at hsum e
      generalize hx : f k = x at hix e hfk
      have hk' : k * 1000000 ≤ 9000000 := by omega
      have e1 : IntKind.i64.wrap ((s : Int) + (x : Int)) = (s : Int) + (x : Int) := by rw [IntKind.wrap_i64]; omega
      clear hx
      go_wp2_with fail
      go_round
      case rel => exact ⟨k + 1, by omega, by go_num, by rw [e.out]; simp⟩
      case measure => simp [intOf]; omega
    · obtain rfl : k = 9 := by omega
      go_wp2_with fail
      exact hR.out _ _ ⟨rfl, rfl⟩

end Go.Proofs.Ytehkdionodnhjaa
