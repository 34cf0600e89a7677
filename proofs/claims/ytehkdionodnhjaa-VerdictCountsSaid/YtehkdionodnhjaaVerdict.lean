/- The verdicts' names: each function, told. -/
import Derived.Test.YtehkdionodnhjaaCh
import Derived.Laws.StructEq
import Derived.WideShapes
set_option linter.unusedVariables false
set_option linter.unusedSimpArgs false
namespace Go.Proofs.Ytehkdionodnhjaa
open Go.RowKit

theorem str_eq (a b : ByteArray) : (a.toList == b.toList) = decide (a = b) := by
  by_cases h : a = b
  · subst h; simp
  · have : a.toList ≠ b.toList := fun e => h (Go.WideShapes.bytes_inj (by rwa [ByteArray.toList_eq, ByteArray.toList_eq] at e))
    simp [h, this]
/-- What a verdict is called, by its number. -/
def nm : Nat → ByteArray
  | 1 => ⟨#[109, 97, 108, 102, 111, 114, 109, 101, 100]⟩
  | 2 => ⟨#[102, 111, 114, 101, 105, 103, 110]⟩
  | 3 => ⟨#[115, 117, 114, 112, 108, 117, 115]⟩
  | 4 => ⟨#[102, 117, 108, 108]⟩
  | 5 => ⟨#[107, 110, 111, 119, 110]⟩
  | 6 => ⟨#[104, 101, 108, 100]⟩
  | 7 => ⟨#[115, 111, 108, 118, 101, 100]⟩
  | 8 => ⟨#[99, 111, 110, 102, 108, 105, 99, 116]⟩
  | _ => ⟨#[]⟩
def nmI (v : Int) : ByteArray := if 1 ≤ v ∧ v ≤ 8 then nm v.toNat else ⟨#[]⟩
theorem nmI_out {v : Int} (h : v < 1 ∨ 8 < v) : nmI v = ⟨#[]⟩ := if_neg (by omega)
theorem nmI_nat {k : Nat} (h1 : 1 ≤ k) (h8 : k ≤ 8) : nmI (k : Int) = nm k := by rw [nmI, if_pos (by omega)]; rfl
def nmsV : Array Value := #[.string (nm 0), .string (nm 1), .string (nm 2), .string (nm 3), .string (nm 4), .string (nm 5), .string (nm 6), .string (nm 7), .string (nm 8)]

theorem names_calls (w : World) : Calls Try.prog 37 #[] w fun e w' => e = .returned (.agg nmsV) ∧ Below w.heap.size w w' := by
  refine cps fun R hR => ?_
  go_enter Try.func37, Try.ntmps37
  go_wp2_with fail
  refine bodyPost_ret (v := .agg nmsV) ?_ rfl ?_
  · simp [results, Try.results37, go_sem]
    rfl
  exact hR.out _ _ ⟨rfl, balloc _ _⟩
theorem nms_at : ∀ k : Nat, k < 9 → ∀ w, (Instr.index 79 (.agg nmsV) (.int .i64 ((k : Nat) : Int))).run Try.prog w = .ok (.string (nm k)) w := by
  intro k hk
  have : k = 0 ∨ k = 1 ∨ k = 2 ∨ k = 3 ∨ k = 4 ∨ k = 5 ∨ k = 6 ∨ k = 7 ∨ k = 8 := by omega
  rcases this with rfl | rfl | rfl | rfl | rfl | rfl | rfl | rfl | rfl <;> exact fun _ => by kernel_rfl

theorem refname_calls (v : Int) (w : World) : Calls Try.prog 19 #[.int .i64 v] w fun e w' => e = .returned (.string (nmI v)) ∧ w' = w := by
  refine cps fun R hR => ?_
  by_cases hv : 1 ≤ v ∧ v ≤ 8
  · obtain ⟨h1, h2⟩ := hv
    have : v = 1 ∨ v = 2 ∨ v = 3 ∨ v = 4 ∨ v = 5 ∨ v = 6 ∨ v = 7 ∨ v = 8 := by omega
    rcases this with rfl | rfl | rfl | rfl | rfl | rfl | rfl | rfl
    all_goals
      clear h1 h2
      go_enter Try.func19, Try.ntmps19
      go_wp2_with fail
      exact hR.out _ _ ⟨rfl, rfl⟩
  · have b1 : (v == 1) = false := by simp; omega
    have b2 : (v == 2) = false := by simp; omega
    have b3 : (v == 3) = false := by simp; omega
    have b4 : (v == 4) = false := by simp; omega
    have b5 : (v == 5) = false := by simp; omega
    have b6 : (v == 6) = false := by simp; omega
    have b7 : (v == 7) = false := by simp; omega
    have b8 : (v == 8) = false := by simp; omega
    have e := hide (nmI_out (v := v) (by omega))
    clear hv
    go_enter Try.func19, Try.ntmps19
    go_wp2_with fail
    exact hR.out _ _ ⟨by rw [e.out]; rfl, rfl⟩

theorem name_calls (v : Int) (w : World) : Calls Try.prog 20 #[.int .i64 v] w fun e w' => e = .returned (.string (nmI v)) ∧ Below w.heap.size w w' := by
  refine cps fun R hR => ?_
  by_cases h1 : v < 1
  · have e := hide (nmI_out (v := v) (by omega))
    go_enter Try.func20, Try.ntmps20
    go_wp2_with fail
    exact hR.out _ _ ⟨by rw [e.out]; rfl, Below.refl _ _⟩
  by_cases h8 : 8 < v
  · have e := hide (nmI_out (v := v) (by omega))
    have h9 : 9 ≤ v := by omega
    clear h8
    go_enter Try.func20, Try.ntmps20
    go_wp2_with fail
    refine (names_calls w).mono ?_
    rintro e1 w1 ⟨rfl, hb1⟩
    go_wp2_with fail
    exact hR.out _ _ ⟨by rw [e.out]; rfl, hb1⟩
  obtain ⟨k, rfl⟩ := Int.eq_ofNat_of_zero_le (show 0 ≤ v by omega)
  have hi := nms_at k (by omega)
  have e := hide (nmI_nat (k := k) (by omega) (by omega))
  have h9 : decide ((k : Int) ≥ 9) = false := by simp; omega
  go_enter Try.func20, Try.ntmps20
  go_wp2_with fail
  refine (names_calls w).mono ?_
  rintro e1 w1 ⟨rfl, hb1⟩
  go_wp2_with fail
  refine (names_calls w1).mono ?_
  rintro e2 w2 ⟨rfl, hb2⟩
  go_wp2_with fail
  exact hR.out _ _ ⟨by rw [e.out]; rfl, hb1.trans (hb2.mono hb1.size)⟩

theorem admits_calls (v : Int) (w : World) : Calls Try.prog 21 #[.int .i64 v] w fun e w' => e = .returned (.bool (decide (5 ≤ v) && decide (v ≤ 8))) ∧ w' = w := by
  refine cps fun R hR => ?_
  by_cases h5 : 5 ≤ v
  · have e : decide (5 ≤ v) = true := decide_eq_true h5
    have E := hide e
    clear e
    go_enter Try.func21, Try.ntmps21
    go_wp2_with fail
    exact hR.out _ _ ⟨by simp [h5], rfl⟩
  · have e := hide (show (decide (5 ≤ v) && decide (v ≤ 8)) = false by rw [decide_eq_false h5]; rfl)
    go_enter Try.func21, Try.ntmps21
    go_wp2_with fail
    exact hR.out _ _ ⟨by rw [e.out], rfl⟩

/-- Which verdict a name is; 0: none. -/
def ofN (s : ByteArray) : Nat := if s = nm 1 then 1 else if s = nm 2 then 2 else if s = nm 3 then 3 else if s = nm 4 then 4 else if s = nm 5 then 5 else if s = nm 6 then 6 else if s = nm 7 then 7 else if s = nm 8 then 8 else 0
theorem nm_inj : ∀ i, 1 ≤ i → i ≤ 8 → ∀ j, 1 ≤ j → j ≤ 8 → nm i = nm j → i = j := by
  intro i h1 h2 j h3 h4 h
  have hi : i = 1 ∨ i = 2 ∨ i = 3 ∨ i = 4 ∨ i = 5 ∨ i = 6 ∨ i = 7 ∨ i = 8 := by omega
  have hj : j = 1 ∨ j = 2 ∨ j = 3 ∨ j = 4 ∨ j = 5 ∨ j = 6 ∨ j = 7 ∨ j = 8 := by omega
  rcases hi with rfl | rfl | rfl | rfl | rfl | rfl | rfl | rfl <;> rcases hj with rfl | rfl | rfl | rfl | rfl | rfl | rfl | rfl <;> first | rfl | exact absurd h (by decide)
theorem ofN_hit {s : ByteArray} {k : Nat} (h1 : 1 ≤ k) (h8 : k ≤ 8) (h : nm k = s) : ofN s = k := by
  subst h
  have hi : k = 1 ∨ k = 2 ∨ k = 3 ∨ k = 4 ∨ k = 5 ∨ k = 6 ∨ k = 7 ∨ k = 8 := by omega
  rcases hi with rfl | rfl | rfl | rfl | rfl | rfl | rfl | rfl <;> rfl
theorem ofN_miss {s : ByteArray} (h : ∀ j, 1 ≤ j → j < 9 → nm j ≠ s) : ofN s = 0 := by
  unfold ofN
  rw [if_neg (fun e => h 1 (by omega) (by omega) e.symm), if_neg (fun e => h 2 (by omega) (by omega) e.symm), if_neg (fun e => h 3 (by omega) (by omega) e.symm), if_neg (fun e => h 4 (by omega) (by omega) e.symm),
    if_neg (fun e => h 5 (by omega) (by omega) e.symm), if_neg (fun e => h 6 (by omega) (by omega) e.symm), if_neg (fun e => h 7 (by omega) (by omega) e.symm), if_neg (fun e => h 8 (by omega) (by omega) e.symm)]
theorem ofN_cases (s : ByteArray) : (∃ k, 1 ≤ k ∧ k ≤ 8 ∧ nm k = s ∧ ofN s = k) ∨ (ofN s = 0 ∧ ∀ j, 1 ≤ j → j < 9 → nm j ≠ s) := by
  by_cases h : ∃ k, 1 ≤ k ∧ k ≤ 8 ∧ nm k = s
  · obtain ⟨k, h1, h2, h3⟩ := h
    exact .inl ⟨k, h1, h2, h3, ofN_hit h1 h2 h3⟩
  · have hm : ∀ j, 1 ≤ j → j < 9 → nm j ≠ s := fun j h1 h2 e => h ⟨j, h1, by omega, e⟩
    exact .inr ⟨ofN_miss hm, hm⟩

theorem of_calls (s : ByteArray) (w : World) : Calls Try.prog 18 #[.string s] w fun e w' => e = .returned (.tuple #[.int .i64 (ofN s : Int), .bool (decide (ofN s ≠ 0))]) ∧ Below w.heap.size w w' := by
  refine cps fun R hR => ?_
  go_enter Try.func18, Try.ntmps18
  go_wp2_with fail
  refine (names_calls w).mono ?_
  rintro e1 w1 ⟨rfl, hb1⟩
  go_wp2_with fail
  go_loop [7] (fun i => ∃ k : Nat, k ≤ 9 ∧ i = .int .i64 (k : Int) ∧ ∀ j, 1 ≤ j → j < k → nm j ≠ s) (fun i => 9 - (intOf i).toNat)
  case atStart => exact ⟨0, by omega, rfl, fun j h1 h2 => by omega⟩
  case round =>
    obtain ⟨k, hk, rfl, hno⟩ := hrel
    have Hno := hide hno
    clear hno
    by_cases hlt : k < 9
    · have hi := nms_at k hlt
      by_cases h0 : k = 0
      · subst h0
        have hi0 : ∀ w, (Instr.index 79 (.agg nmsV) (.int .i64 0)).run Try.prog w = .ok (.string (nm 0)) w := hi
        clear hi
        go_wp2_with fail
        go_round
        case rel => exact ⟨1, by omega, rfl, fun j h1 h2 => by omega⟩
        case measure => simp [intOf]
      · have hpos : 0 < k := by omega
        clear h0
        by_cases hs : nm k = s
        · have e := hide (ofN_hit (by omega) (by omega) hs)
          have hne := hide (show decide (ofN s ≠ 0) = true by rw [e.out]; simp; omega)
          have hb : ((nm k).toList == s.toList) = true := by rw [str_eq]; simpa using hs
          clear hs
          go_wp2_with fail
          exact hR.out _ _ ⟨by rw [hne.out, e.out], hb1⟩
        · have hb : ((nm k).toList == s.toList) = false := by rw [str_eq]; simpa using hs
          have Hs := hide hs
          clear hs
          go_wp2_with fail
          go_round
          case rel => exact ⟨k + 1, by omega, by go_num, fun j h1 h2 => by
            by_cases hj : j = k
            · subst hj; exact Hs.out
            · exact Hno.out j h1 (by omega)⟩
          case measure => simp [intOf]; omega
    · have h9 : k = 9 := by omega
      subst h9
      go_wp2_with fail
      exact hR.out _ _ ⟨by rw [ofN_miss Hno.out]; rfl, hb1⟩
end Go.Proofs.Ytehkdionodnhjaa
