/- RippleOnce, walked. -/
import Derived.Test.YtehkdionodnhjaaRippleDoes
set_option linter.unusedVariables false
set_option linter.unusedSimpArgs false
namespace Go.Proofs.Ytehkdionodnhjaa
open Go.RowKit Go.Maps

theorem pushL_same (E : List Int) : ∀ xs : List Int, (∀ x ∈ xs, x ∈ E) → pushL E xs = E := by
  intro xs
  induction xs with
  | nil => intro _; rfl
  | cons x xs ih =>
    intro h
    have e : pushL E (x :: xs) = pushL (if x ∈ E then E else E ++ [x]) xs := rfl
    rw [e, if_pos (h x (by simp))]
    exact ih fun y hy => h y (by simp [hy])
theorem mem_pushL (E : List Int) : ∀ xs : List Int, (∀ x ∈ E, x ∈ pushL E xs) ∧ ∀ x ∈ xs, x ∈ pushL E xs := by
  intro xs
  induction xs generalizing E with
  | nil => exact ⟨fun x h => h, fun x h => by cases h⟩
  | cons y xs ih =>
    have e : pushL E (y :: xs) = pushL (if y ∈ E then E else E ++ [y]) xs := rfl
    rw [e]
    have h := ih (if y ∈ E then E else E ++ [y])
    have h0 : ∀ x, x ∈ E ∨ x = y → x ∈ (if y ∈ E then E else E ++ [y]) := fun x hx => by
      split
      · rename_i hy
        rcases hx with hx | rfl
        · exact hx
        · exact hy
      · rcases hx with hx | rfl
        · simp [hx]
        · simp
    refine ⟨fun x hx => h.1 x (h0 x (.inl hx)), fun x hx => ?_⟩
    rcases List.mem_cons.1 hx with rfl | hx
    · exact h.1 x (h0 x (.inr rfl))
    · exact h.2 x hx
/-- What is there behind some pushes of the same. -/
def afterN (xs : List Int) (k : Nat) : List Int := if k = 0 then [] else pushL [] xs
theorem afterN_succ (xs : List Int) (k : Nat) : pushL (afterN xs k) xs = afterN xs (k + 1) := by
  unfold afterN
  by_cases h : k = 0
  · subst h; rfl
  · rw [if_neg h, if_neg (by omega)]
    exact pushL_same _ xs (mem_pushL [] xs).2
theorem afterN_len (xs : List Int) (k : Nat) : (afterN xs k).length ≤ xs.length := by
  unfold afterN
  split
  · simp
  · have := (pushL_len [] xs).2; simpa using this
theorem one_cell (w : World) (x : Int) (hw : (Lit.int .i64 x).wf = true) : RdL (Kd.int .i64) (fun k => k = w.heap.size) (w.alloc (.cells #[.int .i64 x] 3)) (some ⟨w.heap.size, 0, none⟩) [x] := ints_lit w [x] fun y hy => by simp at hy; subst hy; exact hw
set_option maxHeartbeats 4000000 in
set_option maxRecDepth 100000 in
theorem Once_calls (A : Option Addr) (c : Nat) (xs : List Int) (often : Int) (w : World) (ho0 : 0 ≤ often) (ho1 : often ≤ 255) (hc : c ≤ maxLen) (hl : xs.length ≤ c) (h : RdL (Kd.int .i64) (· < w.heap.size) w A xs) :
    Calls Try.prog 4 #[.slice A xs.length c, .int .u8 often] w fun e w' => e = .returned (.bool true) ∧ Below w.heap.size w w' := by
  refine cps fun R hR => ?_
  have Hsp := hide (qspeaks w)
  have Hx := hide h
  have Hc := hide hc
  unfold maxLen at hc
  obtain ⟨N, hN⟩ : ∃ N, N = xs.length := ⟨_, rfl⟩
  rw [← hN] at hl ⊢
  have HN := hide hN
  clear h hN
  by_cases h200 : 200 < N
  · go_enter Try.func4, Try.ntmps4
    go_wp2_with fail
    refine Hsp.out.mono ?_
    rintro _ w1 ⟨rfl, hb1⟩
    go_wp2_with fail
    exact hR.out _ _ ⟨rfl, hb1⟩
  go_enter Try.func4, Try.ntmps4
  go_wp2_with fail
  refine Hsp.out.mono ?_
  rintro _ w1 ⟨rfl, hb1⟩
  have hq1 := ql_new w w1 hb1
  obtain ⟨w2, hw2⟩ : ∃ w2, w2 = w1.alloc (.cells #[.slice none 0 0, .int .i64 0, .map none] 27) := ⟨_, rfl⟩
  rw [← hw2] at hq1
  obtain ⟨g, hg⟩ : ∃ g, g = w1.heap.size := ⟨_, rfl⟩
  rw [← hg] at hq1
  have Hq1 := hide hq1
  have HW2 := hide hw2
  have Hg := hide hg
  clear hw2 hq1 hb1 hg Hsp
  go_upto_region 6 with fail
  rw [← HW2.out, ← Hg.out]
  clear HW2 Hg
  go_wp2_with fail
  obtain ⟨r, hr1, hr4, hr⟩ : ∃ r : Nat, 1 ≤ r ∧ r ≤ 4 ∧ 1 + often % 4 = (r : Int) := ⟨(1 + often % 4).toNat, by omega, by omega, by omega⟩
  rw [hr]
  clear hr ho0 ho1
  go_loopw [23] (fun i wr => ∃ (k : Nat) (S : Nat → Prop), k ≤ r ∧ i = .int .i64 (k : Int) ∧ QL w wr S g (afterN xs k) 0) (fun i _ => r - (intOf i).toNat)
  case atStart => exact ⟨0, _, by omega, rfl, Hq1.out⟩
  case round =>
    obtain ⟨k, S, hk, rfl, hq⟩ := hrel
    by_cases hlt : k < r
    · have hlen := afterN_len xs k
      have hp := ql_push A c xs (· < w.heap.size) hq (by have := HN.out; omega) Hc.out (by have := HN.out; omega) (Hx.out.below hq.bel) fun k' hk' => ⟨by have := hq.bel.size; omega, fun hs => by have := hq.ge _ hs; omega⟩
      rw [← HN.out, afterN_succ] at hp
      have Hp := hide hp
      clear hq hp hlen
      go_wp2_with fail
      refine Hp.out.mono ?_
      rintro _ w3 ⟨rfl, S3, hq3, -⟩
      have Hq3 := hide hq3
      clear hq3 Hp
      go_wp2_with fail
      exact ⟨⟨k + 1, S3, by omega, by rw [Int.natCast_succ], Hq3.out⟩, by simp only [intOf]; omega⟩
    · obtain rfl : k = r := by omega
      obtain ⟨E, hE⟩ : ∃ E, E = pushL [] xs := ⟨_, rfl⟩
      have hq : QL w wr S g E 0 := by rw [hE]; rw [afterN, if_neg (by omega)] at hq; exact hq
      have hrp := refpush_calls none A 0 c [] xs (· < wr.heap.size) wr (by unfold maxLen; omega) (by simp) Hc.out (by have := HN.out; omega) (by have := HN.out; simp; omega) (fun k' hk' => hk') RdL.nil ((Hx.out.below hq.bel).int_i.mono fun k' hk' => by have := hq.bel.size; show k' < wr.heap.size; omega)
      have hEl := pushL_len [] xs
      rw [← HN.out, ← hE] at hrp
      rw [← HN.out, ← hE] at hEl
      have hEl' : E.length ≤ 200 := by simp at hEl; omega
      have hsame : Hid (pushL E xs = E) := hide (by rw [hE]; exact pushL_same _ xs (mem_pushL [] xs).2)
      have Hq := hide hq
      have Hrp := hide hrp
      have HEl := hide hEl'
      clear hrp hEl hEl' hE hq
      go_wp2_with fail
      refine Hrp.out.mono ?_
      rintro _ w3 ⟨A3, c3, rfl, hr3, ho3, hb3⟩
      rw [show (E.length - ([] : List Int).length : Nat) = E.length from rfl]
      have hq3 := Hq.out.below hb3
      have Hlt3 := hide Hq.out.lt
      have Hq3 := hide hq3
      have Hr3 := hide hr3
      have Ho3 := hide ho3
      clear hq3 hr3 ho3 hb3 Hrp
      go_wp2_with fail
      clear h200
      go_loopw [35] (fun i wr' => ∃ (p : Nat) (S' : Nat → Prop), p ≤ E.length ∧ i = .int .i64 (p : Int) ∧ QL w wr' S' g E p ∧ Row wr' 3 (.slice A3 E.length c3) (E.map encI) ∧ (∀ k', (Value.slice A3 E.length c3).ownBlock = some k' → ¬ S' k')) (fun i _ => E.length - (intOf i).toNat)
      case atStart => exact ⟨0, S, by omega, rfl, Hq3.out, Hr3.out, fun k' hk' hs => by have := Ho3.out k' hk'; have := Hlt3.out k' hs; omega⟩
      case round =>
        obtain ⟨p, S', hp, rfl, hq, hrw, ho⟩ := hrel
        obtain ⟨-, hcv, hcm⟩ := row_bd hrw
        have hlm : E.length ≤ 200 := HEl.out
        by_cases hlt2 : p < E.length
        · obtain ⟨gv, rfl, hcell⟩ := row_cell hrw hlt2
          have hpop := ql_pop hq hlt2 (by omega)
          obtain ⟨y, hy⟩ : ∃ y, y = E[p] := ⟨_, rfl⟩
          have hin : Hid (y ∈ E) := hide (by rw [hy]; exact List.getElem_mem _)
          have hwf : Hid ((Lit.int .i64 y).wf = true) := hide (by
            obtain ⟨_, _, _, _, hqa⟩ := hq.qs
            exact hqa.wf y hin.out)
          rw [← hy] at hpop hcell
          have Hpop := hide hpop
          have Hrw := hide hrw
          have Ho := hide ho
          have hyy : ((y : Int) != y) = false := by simp
          have Hlt := hide hq.lt
          clear hpop hrw ho hq hy
          go_wp2_with fail
          refine Hpop.out.mono ?_
          rintro _ w5 ⟨rfl, S5, hq5, hs5⟩
          have ho5 : ∀ k', (Value.slice (some ⟨gv, 0, none⟩) E.length c3).ownBlock = some k' → ¬ S5 k' := fun k' hk' hs => by
            have h3 := Hrw.out.lt hk'
            rcases hs5.new k' hs with h4 | h4
            · exact Ho.out k' hk' h4
            · omega
          have hr5 := Hrw.out.keep (w' := w5) fun k' hk' => hs5.ch.block k' (Hrw.out.lt hk') (Ho.out k' hk')
          obtain ⟨w6, hw6⟩ : ∃ w6, w6 = w5.alloc (.cells #[.int .i64 y] 3) := ⟨_, rfl⟩
          have hb6 : Below w5.heap.size w5 w6 := by rw [hw6]; exact balloc w5 _
          have hq6 := hq5.below hb6
          have hP := ql_push (some ⟨w5.heap.size, 0, none⟩) 1 [y] (fun k => k = w5.heap.size) hq6 (by simp; omega) (by unfold maxLen; omega) (by simp) (by rw [hw6]; exact one_cell w5 y hwf.out) fun k' hk' => by
            subst hk'
            exact ⟨by rw [hw6]; simp, fun hs => by have := hq5.lt _ hs; omega⟩
          rw [pushL_same E [y] (fun z hz => by simp at hz; subst hz; exact hin.out), Nat.sub_self] at hP
          have HP : Hid (Calls Try.prog 12 #[.pointer (some ⟨g, 0, none⟩), .slice (some ⟨w5.heap.size, 0, none⟩) 1 1] w6 fun e w' => e = .returned (.int .i64 0) ∧ ∃ S', QL w w' S' g E (p + 1) ∧ Step S5 S' w6 w') := hide hP
          have HW6 := hide hw6
          have Hr6 := hide (hr5.keep (w' := w6) fun k' hk' => hb6.block k' (hr5.lt hk'))
          have Ho5 := hide ho5
          have Hlt5 := hide (show ∀ k', (Value.slice (some ⟨gv, 0, none⟩) E.length c3).ownBlock = some k' → k' < w6.heap.size from fun k' hk' => Hr6.out.lt hk')
          clear hs5 hq5 hq6 hr5 ho5 hP hw6 hb6 Hpop Hrw
          go_wp2_with fail
          rw [← HW6.out]
          refine HP.out.mono ?_
          rintro _ w7 ⟨rfl, S7, hq7, hs7⟩
          have ho7 : ∀ k', (Value.slice (some ⟨gv, 0, none⟩) E.length c3).ownBlock = some k' → ¬ S7 k' := fun k' hk' hs => by
            rcases hs7.new k' hs with h4 | h4
            · exact Ho5.out k' hk' h4
            · have := Hlt5.out k' hk'; omega
          have hr7 := Hr6.out.keep (w' := w7) fun k' hk' => hs7.ch.block k' (Hlt5.out k' hk') (Ho5.out k' hk')
          have Hq7 := hide hq7
          have Hr7 := hide hr7
          have Ho7 := hide ho7
          clear hq7 hr7 ho7 hs7 HP HW6
          go_wp2_with fail
          exact ⟨⟨p + 1, S7, by omega, by rw [Int.natCast_succ], Hq7.out, Hr7.out, Ho7.out⟩, by simp only [intOf]; omega⟩
        · obtain rfl : p = E.length := by omega
          have hpop := pop_none hq.qs rfl
          have Hpop := hide hpop
          have Hq := hide hq
          have hEE : ((E.length : Int) == (E.length : Int)) = true := by simp
          clear hpop hq hrw ho
          go_wp2_with fail
          refine Hpop.out.mono ?_
          rintro _ w5 ⟨rfl, hb5⟩
          have hq5 := Hq.out.below hb5
          have hP := ql_push A c xs (· < w.heap.size) hq5 (by have := HN.out; omega) Hc.out (by have := HN.out; omega) (Hx.out.below hq5.bel) fun k' hk' => ⟨by have := hq5.bel.size; omega, fun hs => by have := hq5.ge _ hs; omega⟩
          rw [← HN.out, hsame.out, Nat.sub_self] at hP
          have HP : Hid (Calls Try.prog 12 #[.pointer (some ⟨g, 0, none⟩), .slice A N c] w5 fun e w' => e = .returned (.int .i64 0) ∧ ∃ S'', QL w w' S'' g E E.length ∧ Step S' S'' w5 w') := hide hP
          clear hb5 hq5 hP Hpop
          go_wp2_with fail
          refine HP.out.mono ?_
          rintro _ w7 ⟨rfl, S7, hq7, -⟩
          have hb := hide hq7.bel
          clear hq7 HP
          go_wp2_with fail
          exact hR.out _ _ ⟨rfl, hb.out⟩
end Go.Proofs.Ytehkdionodnhjaa
