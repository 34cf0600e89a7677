/- The blocks of any object are the document's. -/
import Derived.Test.YtkmnlelfofebfaaSegBack
import Derived.Test.YtkmnlelfofebfaaWb
set_option linter.unusedVariables false
set_option linter.unusedSimpArgs false
namespace Go.Proofs.Ytkmnlelfofebfaa
open Go.RowKit

/-- Too many numbers to be looked at. -/
theorem splits_big (N B Q E F : Int) (A : Option Addr) (n c : Nat) (w : World) (hm : c ≤ maxLen) (hc : n ≤ c) (h : (100 < N ∧ N ≤ 1048576) ∨ ((N ≤ 100 ∨ 1048576 < N) ∧ 100 < B ∧ B ≤ 65535) ∨ ((N ≤ 100 ∨ 1048576 < N) ∧ (B ≤ 100 ∨ 65535 < B) ∧ 10001 < n)) :
    Calls Try.prog 3 #[pV N B Q E F, .slice A n c] w fun e w' => e = .returned (.bool true) ∧ Below w.heap.size w w' := by
  refine cps fun R hR => ?_
  unfold maxLen at hm
  rcases h with ⟨h1, h2⟩ | ⟨h1 | h1, h2, h3⟩ | ⟨h1 | h1, h2 | h2, h3⟩
  all_goals
    try have g1 : decide (100 < N) = false := by simp; omega
    try have g2 : decide (N ≤ 1048576) = false := by simp; omega
    try have g3 : decide (100 < B) = false := by simp; omega
    try have g4 : decide (B ≤ 65535) = false := by simp; omega
    try have k1 : (100 : Int) < N := by omega
    try have k2 : (100 : Int) < B := by omega
    go_enter Try.func3, Try.ntmps3
    go_wp2_with fail
    refine (speaks_calls _).mono ?_
    rintro e w1 ⟨rfl, hb1⟩
    obtain ⟨W, hW, hb, hs, ⟨c0, c1, c2, c3, c4⟩⟩ := box5 w N B Q E F 23
    rw [← hW] at hb1
    replace c0 := (hb1.cell (by simpa using hs)).trans c0
    replace c1 := (hb1.cell (by simpa using hs)).trans c1
    replace c2 := (hb1.cell (by simpa using hs)).trans c2
    replace c3 := (hb1.cell (by simpa using hs)).trans c3
    replace c4 := (hb1.cell (by simpa using hs)).trans c4
    have hb1' := hb.trans (hb1.mono hb.size)
    have hs1 := Nat.lt_of_lt_of_le hs hb1.size
    clear hW hb hb1 hs
    go_wp2_with fail
    exact hR.out _ _ ⟨rfl, hb1'⟩
/-- No Params that may be. -/
theorem splits_bad (N B Q E F : Int) (A : Option Addr) (n c : Nat) (w : World) (hm : c ≤ maxLen) (hc : n ≤ c) (h : (N ≤ 100 ∨ 1048576 < N) ∧ (B ≤ 100 ∨ 65535 < B) ∧ n ≤ 10001) (hmay : mayB N B Q E F = false) :
    Calls Try.prog 3 #[pV N B Q E F, .slice A n c] w fun e w' => e = .returned (.bool true) ∧ Below w.heap.size w w' := by
  refine cps fun R hR => ?_
  unfold maxLen at hm
  have hsb := hide (fun w => split_bad N B Q E F A n c w hmay)
  have hmy := hide (by have := fun w => refmay_calls N B Q E F w; rwa [hmay] at this)
  clear hmay
  have g5 : decide (10001 < n) = false := by simp; omega
  rcases h with ⟨h1 | h1, h2 | h2, h3⟩
  all_goals
    try have g1 : decide (100 < N) = false := by simp; omega
    try have g2 : decide (N ≤ 1048576) = false := by simp; omega
    try have g3 : decide (100 < B) = false := by simp; omega
    try have g4 : decide (B ≤ 65535) = false := by simp; omega
    try have k1 : (100 : Int) < N := by omega
    try have k2 : (100 : Int) < B := by omega
    go_enter Try.func3, Try.ntmps3
    go_wp2_with fail
    refine (speaks_calls _).mono ?_
    rintro e w1 ⟨rfl, hb1⟩
    obtain ⟨W, hW, hb, hs, ⟨c0, c1, c2, c3, c4⟩⟩ := box5 w N B Q E F 23
    rw [← hW] at hb1
    replace c0 := (hb1.cell (by simpa using hs)).trans c0
    replace c1 := (hb1.cell (by simpa using hs)).trans c1
    replace c2 := (hb1.cell (by simpa using hs)).trans c2
    replace c3 := (hb1.cell (by simpa using hs)).trans c3
    replace c4 := (hb1.cell (by simpa using hs)).trans c4
    have hb1' := hb.trans (hb1.mono hb.size)
    have hs1 := Nat.lt_of_lt_of_le hs hb1.size
    clear hW hb hb1 hs
    go_wp2_with fail
    refine (hsb.out _).mono ?_
    rintro e w2 ⟨rfl, hbx⟩
    replace c0 := (hbx.cell (by simpa using hs1)).trans c0
    replace c1 := (hbx.cell (by simpa using hs1)).trans c1
    replace c2 := (hbx.cell (by simpa using hs1)).trans c2
    replace c3 := (hbx.cell (by simpa using hs1)).trans c3
    replace c4 := (hbx.cell (by simpa using hs1)).trans c4
    have hb2' := hb1'.trans (hbx.mono hb1'.size)
    have hs2 := Nat.lt_of_lt_of_le hs1 hbx.size
    clear hbx hb1' hs1
    go_wp2_with fail
    refine (hmy.out _).mono ?_
    rintro e w3 ⟨rfl, hbx⟩
    have hb3' := hb2'.trans (hbx.mono hb2'.size)
    have hs3 := Nat.lt_of_lt_of_le hs2 hbx.size
    clear hbx hb2' hs2
    go_wp2_with fail
    exact hR.out _ _ ⟨rfl, hb3'⟩
/-- More bytes than may be. -/
theorem splits_long (N B : Nat) (Q E F : Int) (A : Option Addr) (n c : Nat) (w : World) (hm : c ≤ maxLen) (hc : n ≤ c) (hN : N ≤ 100) (hB : B ≤ 100) (hn : n ≤ 10001) (hl : N * B < n) (hmay : mayB N B Q E F = true) :
    Calls Try.prog 3 #[pV N B Q E F, .slice A n c] w fun e w' => e = .returned (.bool true) ∧ Below w.heap.size w w' := by
  refine cps fun R hR => ?_
  have hsb := hide (fun w => split_long N B Q E F A n c w hmay (by rw [← Int.natCast_mul]; omega) (Nat.le_trans hc hm))
  have hmy := hide (by have := fun w => refmay_calls N B Q E F w; rwa [hmay] at this)
  unfold maxLen at hm
  obtain ⟨M, hM⟩ : ∃ M, M = N * B := ⟨_, rfl⟩
  have hMb : M ≤ 10000 := by rw [hM]; exact Nat.mul_le_mul hN hB
  have eMw : IntKind.i64.wrap ((N : Int) * (B : Int)) = (M : Int) := by rw [show (N : Int) * (B : Int) = (M : Int) by rw [hM]; simp, IntKind.wrap_i64]; omega
  rw [← hM] at hl
  clear hmay hM
  have g5 : decide (10001 < n) = false := by simp; omega
  have g1 : decide (100 < N) = false := by simp; omega
  have g3 : decide (100 < B) = false := by simp; omega
  go_enter Try.func3, Try.ntmps3
  go_wp2_with fail
  refine (speaks_calls _).mono ?_
  rintro e w1 ⟨rfl, hb1⟩
  obtain ⟨W, hW, hb, hs, ⟨c0, c1, c2, c3, c4⟩⟩ := box5 w N B Q E F 23
  rw [← hW] at hb1
  replace c0 := (hb1.cell (by simpa using hs)).trans c0
  replace c1 := (hb1.cell (by simpa using hs)).trans c1
  replace c2 := (hb1.cell (by simpa using hs)).trans c2
  replace c3 := (hb1.cell (by simpa using hs)).trans c3
  replace c4 := (hb1.cell (by simpa using hs)).trans c4
  have hb1' := hb.trans (hb1.mono hb.size)
  have hs1 := Nat.lt_of_lt_of_le hs hb1.size
  clear hW hb hb1 hs
  go_wp2_with fail
  refine (hsb.out _).mono ?_
  rintro e w2 ⟨rfl, hbx⟩
  replace c0 := (hbx.cell (by simpa using hs1)).trans c0
  replace c1 := (hbx.cell (by simpa using hs1)).trans c1
  replace c2 := (hbx.cell (by simpa using hs1)).trans c2
  replace c3 := (hbx.cell (by simpa using hs1)).trans c3
  replace c4 := (hbx.cell (by simpa using hs1)).trans c4
  have hb2' := hb1'.trans (hbx.mono hb1'.size)
  have hs2 := Nat.lt_of_lt_of_le hs1 hbx.size
  clear hbx hb1' hs1
  go_wp2_with fail
  refine (hmy.out _).mono ?_
  rintro e w3 ⟨rfl, hbx⟩
  replace c0 := (hbx.cell (by simpa using hs2)).trans c0
  replace c1 := (hbx.cell (by simpa using hs2)).trans c1
  replace c2 := (hbx.cell (by simpa using hs2)).trans c2
  replace c3 := (hbx.cell (by simpa using hs2)).trans c3
  replace c4 := (hbx.cell (by simpa using hs2)).trans c4
  have hb3' := hb2'.trans (hbx.mono hb2'.size)
  have hs3 := Nat.lt_of_lt_of_le hs2 hbx.size
  clear hbx hb2' hs2
  go_wp2_with fail
  exact hR.out _ _ ⟨rfl, hb3'⟩
end Go.Proofs.Ytkmnlelfofebfaa
