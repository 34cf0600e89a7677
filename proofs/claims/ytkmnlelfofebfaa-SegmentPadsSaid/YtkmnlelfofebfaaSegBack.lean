/- There and back: an object cut, and put together again. -/
import Derived.Test.YtkmnlelfofebfaaSegSpeaks
set_option linter.unusedVariables false
set_option linter.unusedSimpArgs false
namespace Go.Proofs.Ytkmnlelfofebfaa
open Go.RowKit

theorem cutL_cut (o : List UInt8) (p a b : Nat) : cutL o p a ++ cutL o (p + a) b = cutL o p (a + b) := by
  apply List.ext_getElem?
  intro i
  by_cases h : i < a
  · rw [List.getElem?_append_left (by rw [cutL_len]; exact h), cutL_get? _ _ _ _ h, cutL_get? _ _ _ _ (by omega)]
  · rw [List.getElem?_append_right (by rw [cutL_len]; omega), cutL_len]
    by_cases h' : i < a + b
    · rw [cutL_get? _ _ _ _ (by omega), cutL_get? _ _ _ _ h', show p + a + (i - a) = p + i by omega]
    · rw [List.getElem?_eq_none (by rw [cutL_len]; omega), List.getElem?_eq_none (by rw [cutL_len]; omega)]
theorem split_flat (N B : Nat) (o : List UInt8) : ∀ k, k ≤ N → ((splitL N B o).take k).flatten = cutL o 0 (k * B)
  | 0, _ => by simp [cutL]
  | k + 1, h => by
    rw [splitL_succ N B o k (by omega), List.flatten_append, split_flat N B o k (by omega)]
    have := cutL_cut o 0 (k * B) B
    rw [Nat.zero_add] at this
    rw [show (k + 1) * B = k * B + B from Nat.succ_mul k B, ← this]
    simp
theorem join_split {N B : Nat} {o : List UInt8} (h : o.length ≤ N * B) : joinL o.length (splitL N B o) = o := by
  have h1 := split_flat N B o N (Nat.le_refl _)
  rw [List.take_of_length_le (Nat.le_of_eq (splitL_len N B o))] at h1
  rw [joinL, h1, cutL, List.drop_zero, List.take_append_of_le_length (by rw [List.length_take]; omega), List.take_take, List.take_of_length_le (by omega)]
theorem split_lens {N B : Nat} {o : List UInt8} : ∀ b ∈ splitL N B o, b.length = B := fun b hb => by
  obtain ⟨i, hi, rfl⟩ := List.mem_map.1 hb
  exact cutL_len _ _ _
/-- What Split gives, as it is read. -/
theorem split_rd (N B : Nat) (Q E F : Int) (A : Option Addr) (o : List UInt8) (c : Nat) (w : World) (h : mayB N B Q E F = true) (hN : N ≤ 100) (hB : B ≤ 100) (hl : o.length ≤ N * B) (hm : c ≤ maxLen) (hc : o.length ≤ c)
    (ho : RdL Kd.byte (· < w.heap.size) w A o) :
    Calls Try.prog 8 #[pV N B Q E F, .slice A o.length c] w fun e w' => ∃ g, e = .returned (.tuple #[.slice (some ⟨g, 0, none⟩) N N, .int .i64 0]) ∧
      ORow Kd.ow (fun k => g < k ∧ k < w'.heap.size) w' 24 (.slice (some ⟨g, 0, none⟩) N N) (splitL N B o) ∧ RdL (Kd.sl Kd.byte) (· < w'.heap.size) w' (some ⟨g, 0, none⟩) (splitL N B o) ∧ w.heap.size ≤ g ∧ g < w'.heap.size ∧ Below w.heap.size w w' := by
  refine (split_yes N B Q E F A o c w h hN hB hl hm hc ho).mono fun e w' ⟨g, h1, h2, h3, h4, h5⟩ => ⟨g, h1, h2, h2.rdsl.mono fun k hk => ?_, h3, h4, h5⟩
  rcases hk with hk | hk
  · exact hk.2
  · simp [Value.ownBlock] at hk; omega
/-- What Join makes of it. -/
theorem back_calls (N B : Nat) (Q E F : Int) (A : Option Addr) (o : List UInt8) (w : World) (h : mayB N B Q E F = true) (hN : N ≤ 100) (hB : B ≤ 100) (hl : o.length ≤ N * B) (hA : RdL (Kd.sl Kd.byte) (· < w.heap.size) w A (splitL N B o)) :
    Calls Try.prog 12 #[pV N B Q E F, .int .i64 (o.length : Int), .slice A N N] w fun e w' => ∃ v, e = .returned (.tuple #[v, .int .i64 0]) ∧ Row w' 5 v (o.map encB) ∧ Below w.heap.size w w' := by
  have hb : o.length ≤ 10000 := Nat.le_trans hl (Nat.mul_le_mul hN hB)
  have hj := join_calls N B Q E F (o.length : Int) A (splitL N B o) N w h (by rw [splitL_len]; omega) (fun b hb => by rw [split_lens b hb]; omega) (by omega) hA
  rw [splitL_len] at hj
  refine hj.mono fun e w' ⟨h1, h2⟩ => ?_
  rcases h1 with ⟨v, h3, _, h4, _⟩ | ⟨_, h3⟩
  · rw [Int.toNat_natCast, join_split hl] at h4
    exact ⟨v, h3, h4, h2⟩
  · exact absurd ⟨rfl, by omega, by rw [← Int.natCast_mul]; omega, split_lens⟩ h3

set_option maxHeartbeats 2000000 in
theorem Back_calls (N B Q E F : Int) (A : Option Addr) (o : List UInt8) (c : Nat) (w : World) (hm : c ≤ maxLen) (hc : o.length ≤ c) (ho : RdL Kd.byte (· < w.heap.size) w A o) :
    Calls Try.prog 5 #[pV N B Q E F, .slice A o.length c] w fun e w' => e = .returned (.bool true) ∧ Below w.heap.size w w' := by
  refine cps fun R hR => ?_
  have Ho := hide ho
  have hc0 := fun w => refmay_calls N B Q E F w
  clear ho
  cases hmay : mayB N B Q E F
  · rw [hmay] at hc0
    have Hc := hide hc0
    clear hc0 hmay
    go_enter Try.func5, Try.ntmps5
    go_wp2_with fail
    refine (speaks_calls _).mono ?_
    rintro e w1 ⟨rfl, hb1⟩
    obtain ⟨W, hW, hb, hs, ⟨c0, c1, c2, c3, c4⟩⟩ := box5 w N B Q E F 23
    rw [← hW] at hb1
    replace c0 := (hb1.cell (by simpa using hs)).trans c0
    replace c1 := (hb1.cell (by simpa using hs)).trans c1
    replace c2 := (hb1.cell (by simpa using hs)).trans c2
    replace c3 := (hb1.cell (by simpa using hs)).trans c3
    replace c4 := (hb1.cell (by simpa using hs)).trans c4
    have hb1' := hb.trans (hb1.mono hb.size)
    have hs1 := Nat.lt_of_lt_of_le hs hb1.size
    clear hW hb hb1 hs
    go_wp2_with fail
    refine (Hc.out _).mono ?_
    rintro e w2 ⟨rfl, hb2⟩
    have hb2' := hb1'.trans (hb2.mono hb1'.size)
    have hs2 := Nat.lt_of_lt_of_le hs1 hb2.size
    replace c0 := (hb2.cell (by simpa using hs1)).trans c0
    replace c1 := (hb2.cell (by simpa using hs1)).trans c1
    replace c2 := (hb2.cell (by simpa using hs1)).trans c2
    replace c3 := (hb2.cell (by simpa using hs1)).trans c3
    replace c4 := (hb2.cell (by simpa using hs1)).trans c4
    clear hb2 hb1' hs1
    go_wp2_with fail
    exact hR.out _ _ ⟨rfl, hb2'⟩
  · rw [hmay] at hc0
    have Hc := hide hc0
    have Hmay := hide hmay
    obtain ⟨hN1, hN2, hB1, hB2, -⟩ := may_bd hmay
    obtain ⟨N, rfl⟩ := Int.eq_ofNat_of_zero_le (show 0 ≤ N by omega)
    obtain ⟨B, rfl⟩ := Int.eq_ofNat_of_zero_le (show 0 ≤ B by omega)
    clear hc0 hmay
    unfold maxLen at hm
    by_cases h1 : 100 < N
    · 
      go_enter Try.func5, Try.ntmps5
      go_wp2_with fail
      refine (speaks_calls _).mono ?_
      rintro e w1 ⟨rfl, hb1⟩
      obtain ⟨W, hW, hb, hs, ⟨c0, c1, c2, c3, c4⟩⟩ := box5 w N B Q E F 23
      rw [← hW] at hb1
      replace c0 := (hb1.cell (by simpa using hs)).trans c0
      replace c1 := (hb1.cell (by simpa using hs)).trans c1
      replace c2 := (hb1.cell (by simpa using hs)).trans c2
      replace c3 := (hb1.cell (by simpa using hs)).trans c3
      replace c4 := (hb1.cell (by simpa using hs)).trans c4
      have hb1' := hb.trans (hb1.mono hb.size)
      have hs1 := Nat.lt_of_lt_of_le hs hb1.size
      clear hW hb hb1 hs
      go_wp2_with fail
      refine (Hc.out _).mono ?_
      rintro e w2 ⟨rfl, hb2⟩
      have hb2' := hb1'.trans (hb2.mono hb1'.size)
      have hs2 := Nat.lt_of_lt_of_le hs1 hb2.size
      replace c0 := (hb2.cell (by simpa using hs1)).trans c0
      replace c1 := (hb2.cell (by simpa using hs1)).trans c1
      replace c2 := (hb2.cell (by simpa using hs1)).trans c2
      replace c3 := (hb2.cell (by simpa using hs1)).trans c3
      replace c4 := (hb2.cell (by simpa using hs1)).trans c4
      clear hb2 hb1' hs1
      go_wp2_with fail
      exact hR.out _ _ ⟨rfl, hb2'⟩
    by_cases h2 : 100 < B
    · have h1' : decide (100 < N) = false := by simpa using h1
      go_enter Try.func5, Try.ntmps5
      go_wp2_with fail
      refine (speaks_calls _).mono ?_
      rintro e w1 ⟨rfl, hb1⟩
      obtain ⟨W, hW, hb, hs, ⟨c0, c1, c2, c3, c4⟩⟩ := box5 w N B Q E F 23
      rw [← hW] at hb1
      replace c0 := (hb1.cell (by simpa using hs)).trans c0
      replace c1 := (hb1.cell (by simpa using hs)).trans c1
      replace c2 := (hb1.cell (by simpa using hs)).trans c2
      replace c3 := (hb1.cell (by simpa using hs)).trans c3
      replace c4 := (hb1.cell (by simpa using hs)).trans c4
      have hb1' := hb.trans (hb1.mono hb.size)
      have hs1 := Nat.lt_of_lt_of_le hs hb1.size
      clear hW hb hb1 hs
      go_wp2_with fail
      refine (Hc.out _).mono ?_
      rintro e w2 ⟨rfl, hb2⟩
      have hb2' := hb1'.trans (hb2.mono hb1'.size)
      have hs2 := Nat.lt_of_lt_of_le hs1 hb2.size
      replace c0 := (hb2.cell (by simpa using hs1)).trans c0
      replace c1 := (hb2.cell (by simpa using hs1)).trans c1
      replace c2 := (hb2.cell (by simpa using hs1)).trans c2
      replace c3 := (hb2.cell (by simpa using hs1)).trans c3
      replace c4 := (hb2.cell (by simpa using hs1)).trans c4
      clear hb2 hb1' hs1
      go_wp2_with fail
      exact hR.out _ _ ⟨rfl, hb2'⟩
    obtain ⟨M, hM⟩ : ∃ M, M = N * B := ⟨_, rfl⟩
    have eM : (N : Int) * (B : Int) = (M : Int) := by rw [hM]; simp
    have hMb : M ≤ 10000 := by rw [hM]; exact Nat.mul_le_mul (show N ≤ 100 by omega) (show B ≤ 100 by omega)
    have eMw : IntKind.i64.wrap ((N : Int) * (B : Int)) = (M : Int) := by rw [eM, IntKind.wrap_i64]; omega
    have hN : N ≤ 100 := by omega
    have hB : B ≤ 100 := by omega
    have HM := hide hM
    clear hM eM h1 h2
    have h1b : decide (100 < N) = false := by simp; omega
    have h2b : decide (100 < B) = false := by simp; omega
    by_cases h3 : M < o.length
    · 
      go_enter Try.func5, Try.ntmps5
      go_wp2_with fail
      refine (speaks_calls _).mono ?_
      rintro e w1 ⟨rfl, hb1⟩
      obtain ⟨W, hW, hb, hs, ⟨c0, c1, c2, c3, c4⟩⟩ := box5 w N B Q E F 23
      rw [← hW] at hb1
      replace c0 := (hb1.cell (by simpa using hs)).trans c0
      replace c1 := (hb1.cell (by simpa using hs)).trans c1
      replace c2 := (hb1.cell (by simpa using hs)).trans c2
      replace c3 := (hb1.cell (by simpa using hs)).trans c3
      replace c4 := (hb1.cell (by simpa using hs)).trans c4
      have hb1' := hb.trans (hb1.mono hb.size)
      have hs1 := Nat.lt_of_lt_of_le hs hb1.size
      clear hW hb hb1 hs
      go_wp2_with fail
      refine (Hc.out _).mono ?_
      rintro e w2 ⟨rfl, hb2⟩
      have hb2' := hb1'.trans (hb2.mono hb1'.size)
      have hs2 := Nat.lt_of_lt_of_le hs1 hb2.size
      replace c0 := (hb2.cell (by simpa using hs1)).trans c0
      replace c1 := (hb2.cell (by simpa using hs1)).trans c1
      replace c2 := (hb2.cell (by simpa using hs1)).trans c2
      replace c3 := (hb2.cell (by simpa using hs1)).trans c3
      replace c4 := (hb2.cell (by simpa using hs1)).trans c4
      clear hb2 hb1' hs1
      go_wp2_with fail
      exact hR.out _ _ ⟨rfl, hb2'⟩
    · have h3b : decide (M < o.length) = false := by simpa using h3
      have hsp := hide (fun w ho => split_rd N B Q E F A o c w Hmay.out hN hB (by rw [← HM.out]; omega) hm hc ho)
      have hjn := hide (fun A w hA => back_calls N B Q E F A o w Hmay.out hN hB (by rw [← HM.out]; omega) hA)
      go_enter Try.func5, Try.ntmps5
      go_wp2_with fail
      refine (speaks_calls _).mono ?_
      rintro e w1 ⟨rfl, hb1⟩
      obtain ⟨W, hW, hb, hs, ⟨c0, c1, c2, c3, c4⟩⟩ := box5 w N B Q E F 23
      rw [← hW] at hb1
      replace c0 := (hb1.cell (by simpa using hs)).trans c0
      replace c1 := (hb1.cell (by simpa using hs)).trans c1
      replace c2 := (hb1.cell (by simpa using hs)).trans c2
      replace c3 := (hb1.cell (by simpa using hs)).trans c3
      replace c4 := (hb1.cell (by simpa using hs)).trans c4
      have hb1' := hb.trans (hb1.mono hb.size)
      have hs1 := Nat.lt_of_lt_of_le hs hb1.size
      clear hW hb hb1 hs
      go_wp2_with fail
      refine (Hc.out _).mono ?_
      rintro e w2 ⟨rfl, hb2⟩
      have hb2' := hb1'.trans (hb2.mono hb1'.size)
      have hs2 := Nat.lt_of_lt_of_le hs1 hb2.size
      replace c0 := (hb2.cell (by simpa using hs1)).trans c0
      replace c1 := (hb2.cell (by simpa using hs1)).trans c1
      replace c2 := (hb2.cell (by simpa using hs1)).trans c2
      replace c3 := (hb2.cell (by simpa using hs1)).trans c3
      replace c4 := (hb2.cell (by simpa using hs1)).trans c4
      clear hb2 hb1' hs1
      go_wp2_with fail
      refine (hsp.out w2 ((Ho.out.below hb2').mono fun k hk => Nat.lt_of_lt_of_le hk hb2'.size)).mono ?_
      rintro e w3 ⟨g, rfl, -, hrd, -, -, hb3⟩
      replace c0 := (hb3.cell (by simpa using hs2)).trans c0
      replace c1 := (hb3.cell (by simpa using hs2)).trans c1
      replace c2 := (hb3.cell (by simpa using hs2)).trans c2
      replace c3 := (hb3.cell (by simpa using hs2)).trans c3
      replace c4 := (hb3.cell (by simpa using hs2)).trans c4
      have hb3' := hide (hb2'.trans (hb3.mono hb2'.size))
      have Hrd := hide hrd
      clear hb3 hb2' hrd
      go_wp2_with fail
      refine (hjn.out _ _ Hrd.out).mono ?_
      rintro e w4 ⟨v, rfl, hrow, hb4⟩
      have hb4' := hide (hb3'.out.trans (hb4.mono hb3'.out.size))
      obtain ⟨Av, cv, rfl, hcv, hmv⟩ := hrow.shape
      rw [List.length_map] at hrow ⊢
      have r1 := run_str (P := Try.prog) (w := w4) Try.underlying24 Try.underlying5 Try.underlying9 hrow.src cv
      have r2 := run_str (P := Try.prog) (w := w4) Try.underlying24 Try.underlying5 Try.underlying9 (Ho.out.below hb4'.out).srcB c
      generalize bstr o = str at r1 r2
      clear hrow hb4
      go_wp2_with fail
      exact hR.out _ _ ⟨rfl, hb4'.out⟩
end Go.Proofs.Ytkmnlelfofebfaa
