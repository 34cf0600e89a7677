/- RngDraws and RngBelow walked. -/
import Derived.Test.YtcfoigebkcknnaaRngLaws
set_option linter.unusedVariables false
set_option linter.unusedSimpArgs false
namespace Go.Proofs.Ytcfoigebkcknnaa
open Go.RowKit

theorem RandAt.keep {w w' : World} {g : Nat} {s : UInt64} (h : RandAt w g s) (hk : w'.heap[g]? = w.heap[g]?) : RandAt w' g s := hk.trans h
theorem RandAt.below {B : Nat} {w w' : World} {g : Nat} {s : UInt64} (h : RandAt w g s) (hb : Below B w w') (hg : g < B) : RandAt w' g s := h.keep (hb.block g hg)

theorem draws_calls (A : Option Addr) (c : Nat) (xs : List UInt64) (B : Option Addr) (d : Nat) (l : List Int) (w : World) (hm : c ≤ maxLen) (hc : xs.length ≤ c) (h : RdL Kd.u64 (· < w.heap.size) w A xs)
    (hm2 : d ≤ maxLen) (hd : l.length ≤ d) (h2 : RdL (Kd.int .i64) (· < w.heap.size) w B l) :
    Calls Try.prog 8 #[.slice A xs.length c, .slice B l.length d] w fun e w' => e = .returned (.bool true) ∧ Below w.heap.size w w' := by
  refine cps fun R hR => ?_
  have hm' := hm
  have hm2' := hm2
  unfold maxLen at hm' hm2'
  go_enter Try.func8, Try.ntmps8
  go_wp2_with fail
  refine (speaks_calls w).mono ?_
  rintro e w1 ⟨rfl, hb1⟩
  have h1 := h.below hb1
  have h21 := h2.below hb1
  by_cases hl : xs.length ≤ 50 ∧ l.length ≤ 100
  · obtain ⟨hl1, hl2⟩ := hl
    go_wp2_with fail
    refine (new_calls A c xs (· < w.heap.size) w1 hm hc (fun k hk => Nat.lt_of_lt_of_le hk hb1.size) h1).mono ?_
    rintro e w2 ⟨rfl, hr2, hb2⟩
    have h22 := h1.keep fun k hk => hb2.block k (Nat.lt_of_lt_of_le hk hb1.size)
    have hb2' := hb1.trans (hb2.mono hb1.size)
    go_wp2_with fail
    refine (refseed_calls A c xs (· < w.heap.size) w2 hm hc h22).mono ?_
    rintro e w3 ⟨rfl, rfl⟩
    have hg : w.heap.size ≤ w1.heap.size := hb1.size
    generalize w1.heap.size = g at hr2 hg ⊢
    generalize seedF xs = s0 at hr2 ⊢
    clear h1 h22 hb2
    go_wp2_with fail
    go_loopw [6, 27] (fun s i wr => ∃ (k : Nat) (st : UInt64), k ≤ l.length ∧ i = .int .i64 (k : Int) ∧ s = .int .u64 (st.toNat : Int) ∧ RandAt wr g st ∧ Below w.heap.size w wr) (fun _ i _ => l.length - (intOf i).toNat)
    case atStart => exact ⟨0, s0, Nat.zero_le _, rfl, rfl, hr2, hb2'⟩
    case round =>
      obtain ⟨k, st, hk, rfl, rfl, hat, hb⟩ := hrel
      by_cases hlt : k < l.length
      · obtain ⟨b, off, u, rfl, hsb, hu, hcell⟩ := (h2.below hb).at1 rfl hlt
        obtain ⟨rfl, hwf⟩ := Kd.int_cell hu
        have hbn := bounds_i64 hwf
        generalize l[k] = n at hcell hbn ⊢
        clear hu hwf
        by_cases hn : n = 0
        · subst hn
          have hcall1 := refnext_calls st wr
          have hcall2 := next_calls g st wr hat
          have hst2 := hat.set (st + stepC)
          generalize mix64 (st + stepC) = x1 at hcall1 hcall2
          generalize st + stepC = t1 at hcall1 hcall2 hst2
          have hb' : Below w.heap.size w (wr.setCell ⟨g, 0, none⟩ (.int .u64 (t1.toNat : Int))) := hb.setCell hg _
          have H1 := hide hcall1
          have H2 := hide hcall2
          clear hcall1 hcall2
          go_wp2_with fail
          refine H1.out.mono ?_
          rintro e w4 ⟨rfl, rfl⟩
          go_wp2_with fail
          refine H2.out.mono ?_
          rintro e w4 ⟨rfl, rfl⟩
          go_wp2_with fail
          go_roundw
          case rel => exact ⟨k + 1, t1, by omega, by go_num, rfl, hst2, hb'⟩
          case measure => simp [intOf]; omega
        · have hn' : (n == 0) = false := by simpa using hn
          have hcall1 := refbelow_any n st wr hbn.2
          have H1 := hide hcall1
          clear hcall1
          go_wp2_with fail
          refine H1.out.mono ?_
          rintro e w4 ⟨rfl, hb4⟩
          have hat4 := hat.below hb4 hat.lt
          have H2 := hide (below_any g n st w4 hat4 hbn.2)
          have hb4' := hb.trans (hb4.mono hb.size)
          generalize (belowF st n).1 = t1 at H2 ⊢
          generalize (belowF st n).2 = x1 at H2 ⊢
          go_wp2_with fail
          refine H2.out.mono ?_
          rintro e w5 ⟨rfl, hat5, hg5⟩
          have hb5 := below_grown hb4' hg5 hb4'.size hg
          go_wp2_with fail
          go_roundw
          case rel => exact ⟨k + 1, t1, by omega, by go_num, rfl, hat5, hb5⟩
          case measure => simp [intOf]; omega
      · obtain rfl : k = l.length := by omega
        go_wp2_with fail
        exact hR.out _ _ ⟨rfl, hb⟩
  · go_wp2_with fail
    all_goals exact hR.out _ _ ⟨rfl, hb1⟩
end Go.Proofs.Ytcfoigebkcknnaa
