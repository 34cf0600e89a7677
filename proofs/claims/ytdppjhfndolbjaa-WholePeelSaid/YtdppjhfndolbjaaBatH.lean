/- The laws' own helpers of layers 9, 17: Same, big. -/
import Derived.Test.YtdppjhfndolbjaaBatG
set_option linter.unusedVariables false
set_option linter.unusedSimpArgs false
namespace Go.Proofs.Ytdppjhfndolbjaa
open Go.RowKit

def sameN (a b : List Int) : Int := if a = b then 1 else 0
theorem sameN_no {a b : List Int} (h : a ≠ b) : sameN a b = 0 := by simp [sameN, h]
theorem sameN_yes (a : List Int) : sameN a a = 1 := by simp [sameN]
set_option maxHeartbeats 2000000 in
theorem same_calls (A : Option Addr) (a : List Int) (ca : Nat) (B : Option Addr) (b : List Int) (cb : Nat) (S : Nat → Prop) (w : World) (h1 : ca ≤ maxLen) (h2 : a.length ≤ ca) (ha : RdL kInt S w A a) (h3 : cb ≤ maxLen) (h4 : b.length ≤ cb) (hb : RdL kInt S w B b) (hS : ∀ k, S k → k < w.heap.size) :
    Calls Try.prog 13 #[.slice A a.length ca, .slice B b.length cb] w fun e w' => e = .returned (.int .i64 (sameN a b)) ∧ Below w.heap.size w w' := by
  refine cps fun R hR => ?_
  unfold maxLen at h1 h3
  have Ha := hide ha
  have Hb := hide hb
  have HS := hide hS
  clear ha hb hS
  obtain ⟨L, hL⟩ : ∃ L, L = a.length := ⟨_, rfl⟩
  obtain ⟨M, hM⟩ : ∃ M, M = b.length := ⟨_, rfl⟩
  rw [← hL] at h2 ⊢
  rw [← hM] at h4 ⊢
  have HL := hide hL
  have HM := hide hM
  clear hL hM
  by_cases hLM : L = M
  · have e1 : ((L : Int) != (M : Int)) = false := by simp; omega
    have HLM := hide hLM
    clear hLM
    go_enter Try.func13, Try.ntmps13
    go_wp2_with fail
    go_loopw [13] (fun i wr => ∃ k : Nat, k ≤ L ∧ i = .int .i64 (k : Int) ∧ Below w.heap.size w wr ∧ a.take k = b.take k) (fun i _ => L - (intOf i).toNat)
    case atStart => exact ⟨0, Nat.zero_le _, rfl, Below.refl _ _, by simp⟩
    case round =>
      obtain ⟨k, hk, rfl, hbw, htk⟩ := hrel
      by_cases hlt : k < L
      · have hka : k < a.length := by rw [← HL.out]; exact hlt
        have hkb : k < b.length := by rw [← HM.out, ← HLM.out]; exact hlt
        obtain ⟨b1, o1, u1, rfl, -, q1, c1⟩ := (Ha.out.keep (w' := wr) fun z hz => hbw.block z (HS.out z hz)).at1 rfl hka
        obtain ⟨b2, o2, u2, rfl, -, q2, c2⟩ := (Hb.out.keep (w' := wr) fun z hz => hbw.block z (HS.out z hz)).at1 rfl hkb
        obtain rfl := (Kd.int_cell q1).1
        obtain rfl := (Kd.int_cell q2).1
        have hnext := List.take_succ_eq_append_getElem hka
        have hnextb := List.take_succ_eq_append_getElem hkb
        obtain ⟨x, hx⟩ : ∃ x, x = a[k] := ⟨_, rfl⟩
        obtain ⟨y, hy⟩ : ∃ y, y = b[k] := ⟨_, rfl⟩
        have i1 : (0 : Int) ≤ (k : Int) := by omega
        have i2 : (k : Int) < (L : Int) := by omega
        have i3 : (k : Int) < (M : Int) := by have := HLM.out; omega
        rw [← hx] at c1 hnext
        rw [← hy] at c2 hnextb
        by_cases hxy : x = y
        · have e2 : (x != y) = false := by simp [hxy]
          have Hn := hide (show a.take (k + 1) = b.take (k + 1) by rw [hnext, hnextb, htk, hxy])
          have Hbw := hide hbw
          clear hxy hx hy hnext hnextb htk hbw q1 q2
          go_wp2_with fail
          go_quiet (fail)
          go_wp2_with fail
          exact ⟨⟨k + 1, by omega, by rw [Int.natCast_succ], ⟨Hbw.out.os, Hbw.out.tape, Hbw.out.output, Hbw.out.size, Hbw.out.block⟩, Hn.out⟩, by simp only [intOf]; omega⟩
        · have e2 : (x != y) = true := by simp [hxy]
          have Hno := hide (sameN_no (show a ≠ b from fun e => hxy (by rw [hx, hy]; simp only [e])))
          have Hbw := hide hbw
          clear hxy hx hy hnext hnextb htk hbw q1 q2
          go_wp2_with fail
          go_quiet (fail)
          go_wp2_with fail
          exact hR.out _ _ ⟨by rw [Hno.out]; rfl, ⟨Hbw.out.os, Hbw.out.tape, Hbw.out.output, Hbw.out.size, Hbw.out.block⟩⟩
      · obtain rfl : k = L := by omega
        have hab : a = b := by
          rwa [List.take_of_length_le (by rw [← HL.out]; exact Nat.le_refl _), List.take_of_length_le (by rw [← HM.out, ← HLM.out]; exact Nat.le_refl _)] at htk
        have Hy := hide (show sameN a b = 1 by rw [hab]; exact sameN_yes b)
        have Hbw := hide hbw
        clear hab htk hbw
        go_wp2_with fail
        exact hR.out _ _ ⟨by rw [Hy.out]; rfl, Hbw.out⟩
  · have e1 : ((L : Int) != (M : Int)) = true := by simp; omega
    have Hno := hide (sameN_no (show a ≠ b from fun e => hLM (by rw [HL.out, HM.out, e])))
    clear hLM
    go_enter Try.func13, Try.ntmps13
    go_wp2_with fail
    exact hR.out _ _ ⟨by rw [Hno.out]; rfl, Below.refl _ _⟩
/-- What is let in: not more than 300 numbers. -/
def sumO (of : List (List Int)) : Nat := (of.map fun o => o.length + 1).sum
theorem sumO_take {of : List (List Int)} {k : Nat} (hk : k < of.length) : sumO (of.take (k + 1)) = sumO (of.take k) + (of[k].length + 1) := by
  rw [List.take_succ_eq_append_getElem hk]
  simp only [sumO, List.map_append, List.sum_append, List.map_cons, List.map_nil, List.sum_cons, List.sum_nil, Nat.add_zero]
theorem sumO_len : ∀ (of : List (List Int)), of.length ≤ sumO of ∧ ∀ o ∈ of, o.length ≤ sumO of
  | [] => ⟨by simp [sumO], fun o ho => by cases ho⟩
  | x :: r => by
    obtain ⟨h1, h2⟩ := sumO_len r
    have e : sumO (x :: r) = (x.length + 1) + sumO r := by simp [sumO]
    refine ⟨by rw [List.length_cons, e]; omega, fun o ho => ?_⟩
    rcases List.mem_cons.1 ho with rfl | ho
    · omega
    · have := h2 o ho; omega
set_option maxHeartbeats 2000000 in
theorem big_calls (A : Option Addr) (of : List (List Int)) (ca : Nat) (S : Nat → Prop) (w : World) (h1 : ca ≤ maxLen) (h2 : of.length ≤ ca) (ha : RdL (Kd.sl kInt) S w A of) (hbd : ∀ o ∈ of, o.length ≤ 1000000000000000000) :
    Calls Try.prog 9 #[.slice A of.length ca] w fun e w' => ∃ bb, e = .returned (.bool bb) ∧ (bb = false → sumO of ≤ 300) ∧ w = w' := by
  refine cps fun R hR => ?_
  unfold maxLen at h1
  have Ha := hide ha
  have Hbd := hide hbd
  clear ha hbd
  obtain ⟨L, hL⟩ : ∃ L, L = of.length := ⟨_, rfl⟩
  rw [← hL] at h2 ⊢
  have HL := hide hL
  clear hL
  have h0 := hide (show sumO (of.take 0) = 0 from rfl)
  go_enter Try.func9, Try.ntmps9
  go_wp2_with fail
  go_loop [3, 8] (fun n i => ∃ (k m : Nat), k ≤ L ∧ i = .int .i64 (k : Int) ∧ n = .int .i64 (m : Int) ∧ m = sumO (of.take k) ∧ m ≤ 300) (fun _ i => L - (intOf i).toNat)
  case atStart => exact ⟨0, 0, Nat.zero_le _, rfl, rfl, h0.out.symm, by omega⟩
  case round =>
    obtain ⟨k, m, hk, rfl, rfl, hm, hm3⟩ := hrel
    have Hm := hide hm
    clear hm
    by_cases hlt : k < L
    · have hko : k < of.length := by rw [← HL.out]; exact hlt
      obtain ⟨b, off, Ai, ci, rfl, -, q0, a1, a2, -⟩ := sl_at Ha.out hko
      have htk := sumO_take hko
      rw [← Hm.out] at htk
      have hlb := Hbd.out of[k] (List.getElem_mem hko)
      generalize of[k].length = li at q0 a1 htk hlb
      obtain ⟨m2, hm2⟩ : ∃ m2, m2 = m + (li + 1) := ⟨_, rfl⟩
      rw [← hm2] at htk
      have Htk := hide htk
      have i1 : IntKind.i64.wrap ((li : Int) + 1) = (li : Int) + 1 := by rw [IntKind.wrap_i64]; omega
      have i2 : IntKind.i64.wrap ((m : Int) + ((li : Int) + 1)) = (m2 : Int) := by rw [IntKind.wrap_i64, hm2]; omega
      clear htk hm2 hlb
      by_cases h3 : 300 < m2
      · have i3 : decide ((300 : Int) < (m2 : Int)) = true := by simp; omega
        go_wp2_with fail
        exact hR.out _ _ ⟨true, rfl, (fun h => by cases h), rfl⟩
      · have i3 : decide ((300 : Int) < (m2 : Int)) = false := by simp; omega
        go_wp2_with fail
        go_round
        case rel => exact ⟨k + 1, m2, by omega, by go_num, rfl, Htk.out.symm, by omega⟩
        case measure => simp [intOf]; omega
    · obtain rfl : k = L := by omega
      have hfull : of.take k = of := List.take_of_length_le (by rw [← HL.out]; exact Nat.le_refl _)
      rw [hfull] at Hm
      have Hf := hide (show sumO of ≤ 300 by rw [← Hm.out]; exact hm3)
      clear hfull
      go_wp2_with fail
      exact hR.out _ _ ⟨false, rfl, fun _ => Hf.out, rfl⟩
end Go.Proofs.Ytdppjhfndolbjaa
