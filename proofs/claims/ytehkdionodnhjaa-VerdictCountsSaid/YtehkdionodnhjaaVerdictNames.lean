/- VerdictNames, walked. -/
import Derived.Test.YtehkdionodnhjaaTallyOf
set_option linter.unusedVariables false
set_option linter.unusedSimpArgs false
namespace Go.Proofs.Ytehkdionodnhjaa
open Go.RowKit

theorem Tl.new (w : World) : Tl (w.alloc (.cells #[.int .i64 0, .int .i64 0, .int .i64 0, .int .i64 0, .int .i64 0, .int .i64 0, .int .i64 0, .int .i64 0, .int .i64 0] 49)) w.heap.size (fun _ => 0) := heap_alloc_new w _
theorem lit3 (w : World) (a b c : Int) (t : TypeId) (ha : (Lit.int .i64 a).wf = true) (hb : (Lit.int .i64 b).wf = true) (hc : (Lit.int .i64 c).wf = true) : RdL (Kd.int .i64) (· = w.heap.size) (w.alloc (.cells #[.int .i64 a, .int .i64 b, .int .i64 c] t)) (some ⟨w.heap.size, 0, none⟩) [a, b, c] :=
  RdL.block1 rfl (heap_alloc_new w _) rfl fun i x hx => by
    match i, hx with
    | 0, hx => exact ⟨_, rfl, _, rfl, by injection hx with hx; subst hx; exact ⟨rfl, ha⟩⟩
    | 1, hx => exact ⟨_, rfl, _, rfl, by injection hx with hx; subst hx; exact ⟨rfl, hb⟩⟩
    | 2, hx => exact ⟨_, rfl, _, rfl, by injection hx with hx; subst hx; exact ⟨rfl, hc⟩⟩
    | n + 3, hx => simp at hx

theorem speaks_calls (w : World) : Calls Try.prog 17 #[] w fun e w' => e = .returned (.bool true) ∧ Below w.heap.size w w' := by
  refine cps fun R hR => ?_
  go_enter Try.func17, Try.ntmps17
  go_wp2_with fail
  have h1 := Tl.new w
  have hb0 := hide (balloc w (.cells #[.int .i64 0, .int .i64 0, .int .i64 0, .int .i64 0, .int .i64 0, .int .i64 0, .int .i64 0, .int .i64 0, .int .i64 0] 49))
  generalize hw1 : w.alloc (.cells #[.int .i64 0, .int .i64 0, .int .i64 0, .int .i64 0, .int .i64 0, .int .i64 0, .int .i64 0, .int .i64 0, .int .i64 0] 49) = w1 at *
  have hs1 : w1.heap.size = w.heap.size + 1 := by rw [← hw1]; simp
  have Hs1 := hide hs1
  have hl := lit3 w1 6 6 9 40 (by decide) (by decide) (by decide)
  rw [hs1] at hl
  have hk1 : ∀ k, k = w.heap.size + 1 → k ≠ w.heap.size ∧ k < (w1.alloc (.cells #[.int .i64 6, .int .i64 6, .int .i64 9] 40)).heap.size := fun k hk => by subst hk; simp [hs1]
  clear hs1 hw1
  refine (add_calls w.heap.size (fun _ => 0) _ [6, 6, 9] 3 _ _ (by decide) (by decide) hl hk1 (h1.below (balloc _ _)) (by simp)).mono ?_
  rintro e w2 ⟨rfl, ht2, hc2⟩
  have hb2 : Below w.heap.size w w2 := by
    have := Hs1.out
    exact hc2.below (hb0.out.trans ((balloc w1 _).mono (by omega))) (by simp; omega) (fun b hb => by omega)
  have hf2 : addT (fun _ => 0) [6, 6, 9] = fun i => if i = 6 then 2 else 0 := by
    funext i
    unfold addT
    by_cases h6 : i = 6
    · subst h6; decide
    · have e1 : ¬ ((6 : Int) = (i : Int)) := by omega
      by_cases h18 : 1 ≤ i ∧ i ≤ 8
      · have e2 : ¬ ((9 : Int) = (i : Int)) := by omega
        simp [h6, e1, e2, List.count_cons]
      · simp [h6, h18]
  rw [hf2] at ht2
  have Ht2 := hide ht2
  clear ht2 hc2 h1 hf2
  have hof := of_calls (nm 4)
  rw [show ofN (nm 4) = 4 by decide] at hof
  go_wp2_with fail
  refine (hof w2).mono ?_
  rintro e w3 ⟨rfl, hb3⟩
  have ht3 := Ht2.out.below hb3
  have hb3' := hb2.trans (hb3.mono hb2.size)
  clear hof
  go_wp2_with fail
  refine (all_calls _ _ w3 ht3 (fun i => by split <;> omega)).mono ?_
  rintro e w4 ⟨rfl, rfl⟩
  rw [show sumTo (fun i => if i = 6 then 2 else 0) 9 = 2 by decide]
  go_wp2_with fail
  refine (tallyof_calls _ _ 6 w4 ht3).mono ?_
  rintro e w5 ⟨rfl, hb5⟩
  rw [show tget (fun i => if i = 6 then 2 else 0) 6 = 2 by decide]
  have hb5' := hb3'.trans (hb5.mono hb3'.size)
  have hnm := nmI_nat (k := 8) (by omega) (by omega)
  have hnm8 := name_calls (8 : Nat) w5
  rw [hnm] at hnm8
  clear hnm
  go_wp2_with fail
  refine hnm8.mono ?_
  rintro e w6 ⟨rfl, hb6⟩
  have hb6' := hb5'.trans (hb6.mono hb5'.size)
  have heq : ((nm 8).toList == [99, 111, 110, 102, 108, 105, 99, 116]) = true := by rw [ByteArray.toList_eq]; rfl
  go_wp2_with fail
  exact hR.out _ _ ⟨rfl, hb6'⟩

def thereB (s : ByteArray) : Bool := decide (ofN s ≠ 0)
theorem nm_zero {s : ByteArray} (h : s.toList.isEmpty = true) : ofN s = 0 := by
  refine ofN_miss fun j h1 h2 e => ?_
  subst e
  rw [nm_some j h1 (by omega)] at h
  cases h

set_option maxHeartbeats 1000000 in
theorem VerdictNames_calls (v : Int) (s : ByteArray) (w : World) (hv : -9223372036854775808 ≤ v ∧ v ≤ 9223372036854775807) :
    Calls Try.prog 5 #[.int .i64 v, .string s] w fun e w' => e = .returned (.bool true) ∧ Below w.heap.size w w' := by
  refine cps fun R hR => ?_
  go_enter Try.func5, Try.ntmps5
  go_wp2_with fail
  refine (speaks_calls w).mono ?_
  rintro e w1 ⟨rfl, hb1⟩
  go_wp2_with fail
  refine (of_calls s w1).mono ?_
  rintro e w2 ⟨rfl, hb2⟩
  have hb2' := hide (hb1.trans (hb2.mono hb1.size))
  clear hb1 hb2
  rcases ofN_cases s with ⟨k, hk1, hk8, hks, hd⟩ | ⟨hd, hno⟩
  · have hemp := nm_some k hk1 hk8
    rw [hks] at hemp
    have hne : decide (ofN s ≠ 0) = true := by rw [hd]; simp; omega
    rw [hne, hd]
    have Hks := hide hks
    have Hd := hide hd
    clear hd hne hks
    go_wp2_with fail
    go_loop [7, 8] (fun t i => ∃ q : Nat, 1 ≤ q ∧ q ≤ k ∧ i = .int .i64 (q : Int) ∧ t = .bool true) (fun _ i => 9 - (intOf i).toNat)
    case atStart => exact ⟨1, by omega, hk1, rfl, rfl⟩
    case round =>
      obtain ⟨q, hq1, hqk, rfl, rfl⟩ := hrel
      have q9 : ((q : Int) == 9) = false := by simp; omega
      have hrn := hide (refname_calls (q : Int) w2)
      have hnq := hide (nmI_nat (k := q) hq1 (by omega))
      go_wp2_with fail
      refine hrn.out.mono ?_
      rintro e w3 ⟨rfl, hw3⟩
      subst hw3
      rw [hnq.out]
      by_cases hqe : q = k
      · have heq : ((nm q).toList == s.toList) = true := by rw [str_eq, hqe, Hks.out]; simp
        subst hqe
        have hrd := hide (refname_calls (q : Int) w3)
        go_wp2_with fail
        refine hrd.out.mono ?_
        rintro e w4 ⟨rfl, hw4⟩
        subst hw4
        rw [hnq.out]
        go_wp2_with fail
        refine (name_calls v w4).mono ?_
        rintro e w3 ⟨rfl, hb3⟩
        have Hb3 := hide (hb2'.out.trans (hb3.mono hb2'.out.size))
        clear hb3
        go_wp2_with fail
        refine (refname_calls v w3).mono ?_
        rintro e w4 ⟨rfl, hw4⟩
        subst hw4
        generalize nmI v = z
        have hzz : (z.toList == z.toList) = true := by simp
        by_cases h5 : 5 ≤ v
        · have ha := admits_calls v w4
          rw [decide_eq_true h5, Bool.true_and] at ha
          have hbb : ∀ b : Bool, (b == b) = true := fun b => by simp
          generalize hdd : decide (v ≤ 8) = b8 at ha
          have hd8 := hdd
          clear hdd
          have Ha := hide ha
          clear ha
          go_wp2_with fail
          refine Ha.out.mono ?_
          rintro e w5 ⟨rfl, hw5⟩
          subst hw5
          go_wp2_with fail
          exact hR.out _ _ ⟨by simp, Hb3.out⟩
        · have ha := admits_calls v w4
          rw [decide_eq_false h5, Bool.false_and] at ha
          have Ha := hide ha
          clear ha
          go_wp2_with fail
          refine Ha.out.mono ?_
          rintro e w5 ⟨rfl, hw5⟩
          subst hw5
          go_wp2_with fail
          exact hR.out _ _ ⟨rfl, Hb3.out⟩
      · have heq : ((nm q).toList == s.toList) = false := by
          rw [str_eq, ← Hks.out, decide_eq_false_iff_not]
          exact fun e => hqe (nm_inj q hq1 (by omega) k hk1 hk8 e)
        go_wp2_with fail
        go_round
        case rel => exact ⟨q + 1, by omega, by omega, by go_num, rfl⟩
        case measure => simp [intOf]; omega
  · rw [hd]
    have hne : decide ((0 : Nat) ≠ 0) = false := rfl
    rw [hne]
    clear hne
    have Hno := hide hno
    clear hno hd
    go_wp2_with fail
    generalize hemp : s.toList.isEmpty = em
    have Hemp := hide hemp
    clear hemp
    go_loop [7, 8] (fun t i => ∃ (q : Nat) (b : Bool), 1 ≤ q ∧ i = .int .i64 (q : Int) ∧ t = .bool b ∧ q ≤ 10 ∧ (q = 10 → b = false)) (fun _ i => 10 - (intOf i).toNat)
    case atStart => exact ⟨1, !em, by omega, rfl, rfl, by omega, fun h => by omega⟩
    case round =>
      obtain ⟨q, b, hq1, rfl, rfl, hq10, hbf⟩ := hrel
      have Hbf := hide hbf
      clear hbf
      cases b
      · all_goals (rcases (by omega : q ≤ 9 ∨ 9 < q) with hq | hq)
        all_goals
          go_wp2_with fail
          refine (name_calls v w2).mono ?_
          rintro e w3 ⟨rfl, hb3⟩
          have Hb3 := hide (hb2'.out.trans (hb3.mono hb2'.out.size))
          clear hb3
          go_wp2_with fail
          refine (refname_calls v w3).mono ?_
          rintro e w4 ⟨rfl, hw4⟩
          subst hw4
          generalize nmI v = z
          have hzz : (z.toList == z.toList) = true := by simp
          by_cases h5 : 5 ≤ v
          · have ha := admits_calls v w4
            rw [decide_eq_true h5, Bool.true_and] at ha
            have hbb : ∀ b : Bool, (b == b) = true := fun b => by simp
            generalize hdd : decide (v ≤ 8) = b8 at ha
            have hd8 := hdd
            clear hdd
            have Ha := hide ha
            clear ha
            go_wp2_with fail
            refine Ha.out.mono ?_
            rintro e w5 ⟨rfl, hw5⟩
            subst hw5
            go_wp2_with fail
            exact hR.out _ _ ⟨by simp, Hb3.out⟩
          · have ha := admits_calls v w4
            rw [decide_eq_false h5, Bool.false_and] at ha
            have Ha := hide ha
            clear ha
            go_wp2_with fail
            refine Ha.out.mono ?_
            rintro e w5 ⟨rfl, hw5⟩
            subst hw5
            go_wp2_with fail
            exact hR.out _ _ ⟨rfl, Hb3.out⟩
      · have hq9 : q ≤ 9 := by
          by_cases h : q = 10
          · exact absurd (Hbf.out h) (by simp)
          · omega
        by_cases h9 : q = 9
        · subst h9
          go_wp2_with fail
          go_round
          case rel => exact ⟨10, false, by omega, rfl, rfl, by omega, fun _ => rfl⟩
          case measure => simp [intOf]
        · have q9 : ((q : Int) == 9) = false := by simp; omega
          have hrn := hide (refname_calls (q : Int) w2)
          have hnq := hide (nmI_nat (k := q) hq1 (by omega))
          have heq : ((nm q).toList == s.toList) = false := by
            rw [str_eq, decide_eq_false_iff_not]
            exact Hno.out q hq1 (by omega)
          go_wp2_with fail
          refine hrn.out.mono ?_
          rintro e w3 ⟨rfl, hw3⟩
          subst hw3
          rw [hnq.out]
          go_wp2_with fail
          go_round
          case rel => exact ⟨q + 1, true, by omega, by go_num, rfl, by omega, fun h => by omega⟩
          case measure => simp [intOf]; omega
end Go.Proofs.Ytehkdionodnhjaa
