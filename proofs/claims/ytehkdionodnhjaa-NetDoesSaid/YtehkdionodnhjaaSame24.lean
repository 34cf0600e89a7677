/- Are two rows of blocks one? -/
import Derived.Test.YtehkdionodnhjaaOws
set_option linter.unusedVariables false
set_option linter.unusedSimpArgs false
namespace Go.Proofs.Ytehkdionodnhjaa
open Go.RowKit

theorem str_eq (a b : ByteArray) : (a.toList == b.toList) = decide (a = b) := by
  by_cases h : a = b
  · subst h; simp
  · have : a.toList ≠ b.toList := fun e => h (Go.WideShapes.bytes_inj (by rwa [ByteArray.toList_eq, ByteArray.toList_eq] at e))
    simp [h, this]
theorem bstr_inj {xs ys : List UInt8} (h : bstr xs = bstr ys) : xs = ys := by
  have := congrArg (fun b : ByteArray => b.data.toList) h
  simpa using this
theorem bstr_eq (xs ys : List UInt8) : ((bstr xs).toList == (bstr ys).toList) = decide (xs = ys) := by
  rw [str_eq]
  by_cases h : xs = ys
  · subst h; simp
  · rw [decide_eq_false h, decide_eq_false fun e => h (bstr_inj e)]
theorem take_ext {α : Type} {xs ys : List α} (hl : xs.length = ys.length) (h : xs.take xs.length = ys.take xs.length) : xs = ys := by
  rwa [List.take_length, List.take_of_length_le (by omega)] at h
theorem same_calls (A : Option Addr) (xss : List (List UInt8)) (c : Nat) (B : Option Addr) (yss : List (List UInt8)) (d : Nat) (w : World) (hx : xss.length ≤ 1000000) (hy : yss.length ≤ 1000000)
    (hA : RdL (Kd.sl Kd.byte) (· < w.heap.size) w A xss) (hB : RdL (Kd.sl Kd.byte) (· < w.heap.size) w B yss) :
    Calls Try.prog 31 #[.slice A xss.length c, .slice B yss.length d] w fun e w' => e = .returned (.bool (decide (xss = yss))) ∧ Below w.heap.size w w' := by
  refine cps fun R hR => ?_
  have HA := hide hA
  have HB := hide hB
  clear hA hB
  by_cases hl : xss.length = yss.length
  · have Hl := hide hl
    rw [← hl]
    clear hy hl
    go_enter Try.func31, Try.ntmps31
    go_wp2_with fail
    go_loopw [13] (fun i wr => ∃ k : Nat, k ≤ xss.length ∧ i = .int .i64 (k : Int) ∧ xss.take k = yss.take k ∧ Below w.heap.size w wr) (fun i _ => xss.length - (intOf i).toNat)
    case atStart => exact ⟨0, Nat.zero_le _, rfl, by simp, Below.refl _ _⟩
    case round =>
      obtain ⟨k, hk, rfl, htk, hbr⟩ := hrel
      by_cases hlt : k < xss.length
      · have hlt' : k < yss.length := by have := Hl.out; omega
        have ha := hide (HA.out.below hbr)
        have hb := hide (HB.out.below hbr)
        obtain ⟨b1, o1, u1, rfl, hs1, hu1, hcl1⟩ := ha.out.at1 rfl hlt
        obtain ⟨b2, o2, u2, rfl, hs2, hu2, hcl2⟩ := hb.out.at1 rfl hlt'
        obtain ⟨A1, c1, rfl, hc1, hm1, hr1⟩ := Kd.sl_cell hu1
        obtain ⟨A2, c2, rfl, hc2, hm2, hr2⟩ := Kd.sl_cell hu2
        have r1 := fun n => run_str (P := Try.prog) (w := wr.drewN n) Try.underlying57 Try.underlying5 Try.underlying9 (hr1.keep (w' := wr.drewN n) fun _ _ => rfl).srcB c1
        have r2 := fun n => run_str (P := Try.prog) (w := wr.drewN n) Try.underlying57 Try.underlying5 Try.underlying9 (hr2.keep (w' := wr.drewN n) fun _ _ => rfl).srcB c2
        have hb' : ∀ n, Below w.heap.size w (wr.drewN n) := fun n => ⟨hbr.os, hbr.tape, hbr.output, hbr.size, hbr.block⟩
        have Hb' := hide hb'
        have Htk := hide htk
        clear hu1 hu2 hr1 hr2 hbr ha hb hb' htk
        by_cases he : xss[k] = yss[k]
        · have Hn := hide (show xss.take (k + 1) = yss.take (k + 1) by rw [List.take_succ_eq_append_getElem hlt, List.take_succ_eq_append_getElem hlt', Htk.out, he])
          rw [he] at r1 hcl1
          clear he
          generalize yss[k].length = n2 at r1 r2 hcl1 hcl2
          generalize bstr yss[k] = str at r1 r2
          go_wp2_with fail
          go_quiet (fail)
          go_wp2_with fail
          go_roundw
          case rel => exact ⟨k + 1, by omega, by go_num, Hn.out, Hb'.out _⟩
          case measure => simp [intOf]; omega
        · have hq := bstr_eq xss[k] yss[k]
          rw [decide_eq_false he] at hq
          have Hn := hide (show ¬ xss = yss from fun e => he (by subst e; rfl))
          clear he
          generalize xss[k].length = n1 at r1 hcl1
          generalize bstr xss[k] = s1 at r1 hq
          generalize yss[k].length = n2 at r2 hcl2
          generalize bstr yss[k] = s2 at r2 hq
          have hq' : (s1.toList != s2.toList) = true := by rw [bne, hq]; rfl
          go_wp2_with fail
          go_quiet (fail)
          go_wp2_with fail
          exact hR.out _ _ ⟨by rw [decide_eq_false Hn.out]; rfl, Hb'.out _⟩
      · obtain rfl : k = xss.length := by omega
        have Hn := hide (take_ext Hl.out htk)
        clear htk hlt
        go_wp2_with fail
        exact hR.out _ _ ⟨by rw [decide_eq_true Hn.out]; rfl, hbr⟩
  · have hd : ((xss.length : Int) == (yss.length : Int)) = false := by simp; omega
    have hd' : ((xss.length : Int) != (yss.length : Int)) = true := by simp; omega
    have Hn := hide (show decide (xss = yss) = false from decide_eq_false fun e => hl (by rw [e]))
    clear hl
    go_enter Try.func31, Try.ntmps31
    go_wp2_with fail
    exact hR.out _ _ ⟨by rw [Hn.out]; rfl, Below.refl _ _⟩
end Go.Proofs.Ytehkdionodnhjaa
