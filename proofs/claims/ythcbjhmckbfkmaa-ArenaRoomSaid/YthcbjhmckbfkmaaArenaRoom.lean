/- ArenaRoom, walked. -/
import Derived.Test.YthcbjhmckbfkmaaArenaSpeaks
set_option linter.unusedVariables false
set_option linter.unusedSimpArgs false
namespace Go.Proofs.Ythcbjhmckbfkmaa
open Go.RowKit

theorem run_min2i (P : Program) (w : World) (ts : Array TypeId) (t : TypeId) (a b : Int) : (Builtin.min_ ts t #[.int .i64 a, .int .i64 b]).run P w = .ok (.int .i64 (min a b)) w := by
  simp [Builtin.min_, Builtin.min2]
  omega
/-- The numbers from 0 on, as they were given out. -/
def nums (k : Nat) : List Value := (List.range k).map fun i : Nat => .int .i64 (i : Int)
theorem nums_len (k : Nat) : (nums k).length = k := by simp [nums]
theorem nums_succ (k : Nat) : nums (k + 1) = nums k ++ [.int .i64 (k : Int)] := by simp [nums, List.range_succ]
/-- What is given out, k numbers having come back. -/
def outs (m k : Nat) : List Bool := List.replicate k false ++ List.replicate (m - k) true
theorem outs_get (m k i : Nat) (hi : i < m) (hk : k ≤ m) : hasB (outs m k) (i : Int) = decide (k ≤ i) := by
  unfold hasB outs
  rw [Int.toNat_natCast]
  by_cases h : k ≤ i
  · simp [List.getD, List.getElem?_append_right, h, show i - k < m - k by omega]
  · simp [List.getD, List.getElem?_append_left, h, show i < k by omega]
theorem outs_set (m k : Nat) (hk : k < m) : (outs m k).set k false = outs m (k + 1) := by
  unfold outs
  apply List.ext_getElem
  · simp; omega
  · intro i h1 h2
    simp only [List.length_set, List.length_append, List.length_replicate] at h1
    rw [List.getElem_set]
    by_cases h3 : k = i
    · subst h3
      simp [List.getElem_append]
    · rw [if_neg h3]
      by_cases h4 : i < k
      · simp [List.getElem_append, h4, show i < k + 1 by omega]
      · simp [List.getElem_append, h4, show ¬ i < k + 1 by omega]
theorem outs_back (m k : Nat) (hk : k < m) : (outs m (k + 1)).set k true = outs m k := by
  rw [← outs_set m k hk, List.set_set]
  have : (outs m k)[k]? = some true := by
    unfold outs
    rw [List.getElem?_append_right (by simp), List.length_replicate, Nat.sub_self, List.getElem?_replicate, if_pos (by omega)]
  apply List.ext_getElem?
  intro i
  rw [List.getElem?_set]
  split
  · rename_i h; subst h; rw [this]; simp [outs]; omega
  · rfl
theorem outs_zero (m : Nat) : outs m 0 = List.replicate m true := by simp [outs]
theorem zs_set (n m k : Nat) (hk : k < m) : (List.replicate m (zs n)).set k (zs n) = List.replicate m (zs n) := by
  apply List.ext_getElem?
  intro i
  rw [List.getElem?_set]
  split
  · rename_i h; subst h; simp [hk]
  · rfl
/-- A row of numbers, apart from S. -/
def LRow (B : Nat) (S : Nat → Prop) (w : World) (v : Value) (k : Nat) : Prop := Row w 3 v (nums k) ∧ ∀ q, v.ownBlock = some q → B ≤ q ∧ ¬ S q
theorem LRow.step {B : Nat} {S S' : Nat → Prop} {w w' : World} {v : Value} {k : Nat} (h : LRow B S w v k) (hs : Step S S' w w') : LRow B S' w' v k :=
  ⟨h.1.keep fun q hq => hs.ch.block q (h.1.lt hq) (h.2 q hq).2, fun q hq => ⟨(h.2 q hq).1, fun hS => (hs.new q hS).elim (h.2 q hq).2 (fun hl => by have := h.1.lt hq; omega)⟩⟩
theorem LRow.below {B : Nat} {S : Nat → Prop} {w w' : World} {v : Value} {k : Nat} (h : LRow B S w v k) (hb : Below w.heap.size w w') : LRow B S w' v k :=
  ⟨h.1.keep fun q hq => hb.block q (h.1.lt hq), h.2⟩
set_option maxRecDepth 100000 in
set_option maxHeartbeats 2000000 in
theorem ArenaRoom_calls (size most back : Int) (w : World) (hb0 : 0 ≤ back) (hb1 : back ≤ 255) :
    Calls Try.prog 7 #[.int .i64 size, .int .i64 most, .int .u8 back] w fun e w' => e = .returned (.bool true) ∧ Below w.heap.size w w' := by
  refine cps fun R hR => ?_
  obtain ⟨back, rfl⟩ := Int.eq_ofNat_of_zero_le hb0
  by_cases hbig : 100 < size ∨ 300 < most
  · rcases hbig with h1 | h1
    · go_enter Try.func7, Try.ntmps7
      go_wp2_with fail
      refine (aspeaks w).mono ?_
      rintro e w1 ⟨rfl, hb1⟩
      go_wp2_with fail
      exact hR.out _ _ ⟨rfl, hb1⟩
    · by_cases h2 : 100 < size
      all_goals
        go_enter Try.func7, Try.ntmps7
        go_wp2_with fail
        refine (aspeaks w).mono ?_
        rintro e w1 ⟨rfl, hb1⟩
        go_wp2_with fail
        exact hR.out _ _ ⟨rfl, hb1⟩
  have hs1 : size ≤ 100 := by omega
  have hs2 : most ≤ 300 := by omega
  have hmx := fun w ts t => run_max0i Try.prog w ts t most
  have hsx := fun w ts t => run_max0i Try.prog w ts t size
  have hnl : size.toNat ≤ 100 := by omega
  have hml : most.toNat ≤ 300 := by omega
  have hnew := hide (al_new size most)
  generalize size.toNat = n at *
  generalize most.toNat = m at *
  clear hbig
  go_enter Try.func7, Try.ntmps7
  go_wp2_with fail
  refine (aspeaks w).mono ?_
  rintro e w1 ⟨rfl, hbw⟩
  have Hbw := hide hbw
  clear hbw
  go_wp2_with fail
  refine (hnew.out w1).mono ?_
  rintro e w2 ⟨rfl, S2, h2⟩
  have H2 := hide h2
  clear h2 hnew
  go_wp2_with fail
  generalize hg : w1.heap.size = g at *
  have Hg := hide hg
  clear hg
  go_loopw [33, 8] (fun i v wr => ∃ (k : Nat) (S : Nat → Prop), k ≤ m ∧ i = .int .i64 (k : Int) ∧ AL w1 wr S g n m (List.replicate k (zs n)) (List.replicate k true) [] k k ∧ LRow g S wr v k) (fun i _ _ => m - (intOf i).toNat)
  case atStart => exact ⟨0, S2, Nat.zero_le _, rfl, H2.out, Row.nil, fun q hq => by simp [Value.ownBlock] at hq⟩
  case round =>
    obtain ⟨k, S, hk, rfl, hal, hrow⟩ := hrel
    by_cases hlt : k < m
    · have hA := hide (show Calls Try.prog 23 #[.pointer (some ⟨g, 0, none⟩)] wr fun e w' => e = .returned (.tuple #[.int .i64 (k : Int), .bool true]) ∧ ∃ S', AL w1 w' S' g n m (List.replicate (k + 1) (zs n)) (List.replicate (k + 1) true) [] (k + 1) (k + 1) ∧ Step S S' wr w' from by
        have := al_fresh hal rfl (by simp; exact hlt) (by omega) (by simp; omega) (by omega) (by omega)
        rw [List.length_replicate, ← List.replicate_succ', ← List.replicate_succ', show max k (k + 1) = k + 1 by omega] at this
        exact this)
      have Hrow := hide hrow
      clear hal hrow
      go_wp2_with fail
      refine hA.out.mono ?_
      rintro e w3 ⟨rfl, S3, h3, st3⟩
      have hG := hide (as_get (k : Int) h3.ar (by omega))
      have hgl : (got (List.replicate (k + 1) (zs n)) (List.replicate (k + 1) true) (k : Int)).length = n := by
        simp [got, hasB, zs, List.getD]
      rw [hgl] at hG
      have hrow3 := hide (Hrow.out.step st3)
      have H3 := hide h3
      clear h3 st3 hgl hA Hrow
      go_wp2_with fail
      refine hG.out.mono ?_
      rintro e w4 ⟨A4, c4, rfl, -, hb4⟩
      have H4 := hide (H3.out.below hb4)
      have hrow4 := hrow3.out.below hb4
      obtain ⟨Av, cv, rfl, hcv, hmv⟩ := hrow4.1.shape
      rw [nums_len] at *
      have Hrow4 := hide hrow4
      have hml4 := hide (nums_len k)
      have hb5 := hide (balloc w4 (.cells #[.int .i64 (k : Int)] 3))
      have s5 := hide (Src.lit1 w4 (.int .i64 (k : Int)) 3)
      have hrow5 := hide (show Row (w4.alloc (.cells #[.int .i64 (k : Int)] 3)) 3 (.slice Av k cv) (nums k) from (Hrow4.out.below hb5.out).1)
      clear hG H3 hrow3 hrow4 hb4
      go_wp2_with (at_builtin; with_reducible refine wp_app 54 rfl rfl (.tmp 51) (.tmp 53) 37 rfl Try.underlying37 infoI ?_ (us := nums k) ?_ hrow5.out (A := some ⟨w4.heap.size, 0, none⟩) (c := 1) (news := [.int .i64 (k : Int)]) ?_ s5.out ?_ ?_ ?_ ?_)
      case refine_1 => rfl
      case refine_2 => rfl
      case refine_3 => rfl
      case refine_4 => intro u hu; simp at hu; subst hu; rfl
      case refine_5 => rw [hml4.out]; simp; omega
      case refine_6 => rw [hml4.out]; simp; unfold maxLen; omega
      case refine_7 =>
      intro v6 w6 hr6 g6 a6
      have hz5 := hb5.out.size
      have hal4 := H4.out.below hb5.out
      have hown6 : ∀ q, v6.ownBlock = some q → g ≤ q ∧ ¬ S3 q := fun q hq => by
        rcases a6 with e | e
        · exact Hrow4.out.2 q (e ▸ hq)
        · rw [e] at hq
          injection hq with hq
          have h1 := hal4.bel.size
          refine ⟨by have := Hg.out; omega, fun hs => ?_⟩
          have := hal4.ar.lt q hs
          omega
      have H6 := hide (hal4.keep (Ch.of_grown g6) (fun q hq => by have := (Hrow4.out.2 q hq).1; have := Hg.out; omega) (fun q hs hq => (Hrow4.out.2 q hq).2 hs))
      have hrow6 : LRow g S3 w6 v6 (k + 1) := ⟨by rw [nums_succ]; exact hr6, hown6⟩
      obtain ⟨A6, c6, rfl, -, -⟩ := hr6.shape
      rw [List.length_append, hml4.out] at *
      have Hrow6 := hide hrow6
      clear hr6 g6 a6 hown6 hrow6 hal4
      go_wp2_with fail
      go_roundw
      case rel => exact ⟨k + 1, S3, by omega, by go_num, H6.out, Hrow6.out⟩
      case measure => simp [intOf]; omega
    · obtain rfl : k = m := by omega
      have hF := hide (as_full hal.ar rfl (by simp))
      have hL := hide (as_live hal.ar)
      have Hal := hide hal
      obtain ⟨Av, cv, rfl, hcv, hmv⟩ := hrow.1.shape
      rw [nums_len] at hcv hrow ⊢
      have Hrow := hide hrow
      have hmn := fun w ts t => run_min2i Try.prog w ts t (back : Int) (k : Int)
      obtain ⟨b, hb⟩ : ∃ b : Nat, b = min back k := ⟨_, rfl⟩
      rw [show min (back : Int) (k : Int) = (b : Int) by omega] at hmn
      have hbk : b ≤ k := by omega
      clear hal hrow hb hlt hk
      go_wp2_with fail
      refine hF.out.mono ?_
      rintro e w7 ⟨rfl, rfl⟩
      go_wp2_with fail
      refine hL.out.mono ?_
      rintro e w7 ⟨rfl, rfl⟩
      clear hF hL
      go_wp2_with fail
      have Hal0 : Hid (AL w1 wr S g n k (List.replicate k (zs n)) (outs k 0) (List.range 0) (k - 0) k) := by rw [outs_zero]; exact Hal
      go_loopw [78] (fun i wx => ∃ (j : Nat) (S : Nat → Prop), j ≤ b ∧ i = .int .i64 (j : Int) ∧ AL w1 wx S g n k (List.replicate k (zs n)) (outs k j) (List.range j) (k - j) k ∧ LRow g S wx (.slice Av k cv) k) (fun i _ => b - (intOf i).toNat)
      case atStart => exact ⟨0, S, Nat.zero_le _, rfl, Hal0.out, Hrow.out⟩
      case round =>
        obtain ⟨j, S, hj, rfl, hal, hrow⟩ := hrel
        by_cases hlt : j < b
        · have hA := hide (show Calls Try.prog 26 #[.pointer (some ⟨g, 0, none⟩), .int .i64 (j : Int)] wr fun e w' => e = .returned (.bool true) ∧ ∃ S', AL w1 w' S' g n k (List.replicate k (zs n)) (outs k (j + 1)) (List.range (j + 1)) (k - (j + 1)) k ∧ Step S S' wr w' from by
            rw [show k - j = (k - (j + 1)) + 1 by omega] at hal
            have := al_free j hal (by rw [outs_get k j j (by omega) (by omega)]; simp) (by simp; omega) (by omega)
            rw [outs_set k j (by omega), ← List.range_succ] at this
            exact this)
          obtain ⟨q, cc, e, hcell, -, -, -⟩ := hrow.1.set (i := j) (by rw [nums_len]; omega) (.bool true)
          rw [nums_len] at e
          injection e with e1 e2 e3
          subst e1
          subst e3
          have hcell' : wr.cell? ⟨q, j, none⟩ = some (.int .i64 (j : Int)) := by rw [hcell]; simp [nums]
          have Hrow := hide hrow
          clear hal hrow hcell e2
          go_wp2_with fail
          refine hA.out.mono ?_
          rintro e w8 ⟨rfl, S8, h8, st8⟩
          have hN := hide (as_free_no (j : Int) h8.ar (by rw [outs_get k (j + 1) j (by omega) (by omega)]; simp))
          have H8 := hide h8
          have Hrow8 := hide (Hrow.out.step st8)
          clear h8 st8 hA hcell'
          go_wp2_with fail
          refine hN.out.mono ?_
          rintro e w9 ⟨rfl, rfl⟩
          clear hN
          go_wp2_with fail
          go_roundw
          case rel => exact ⟨j + 1, S8, by omega, by go_num, H8.out, Hrow8.out⟩
          case measure => simp [intOf]; omega
        · obtain rfl : j = b := by omega
          have Hal1 : Hid (AL w1 wr S g n k (List.replicate k (zs n)) (outs k (j - 0)) (List.range (j - 0)) (k - (j - 0)) k) := hide hal
          clear hal hrow hlt hj
          go_wp2_with fail
          go_loopw [93] (fun i wx => ∃ (d : Nat) (S : Nat → Prop), d ≤ j ∧ i = .int .i64 (d : Int) ∧ AL w1 wx S g n k (List.replicate k (zs n)) (outs k (j - d)) (List.range (j - d)) (k - (j - d)) k) (fun i _ => j - (intOf i).toNat)
          case atStart => exact ⟨0, S, Nat.zero_le _, rfl, Hal1.out⟩
          case round =>
            obtain ⟨d, S, hd, rfl, hal⟩ := hrel
            by_cases hlt : d < j
            · have hA := hide (show Calls Try.prog 23 #[.pointer (some ⟨g, 0, none⟩)] wr fun e w' => e = .returned (.tuple #[.int .i64 ((j - (d + 1) : Nat) : Int), .bool true]) ∧ ∃ S', AL w1 w' S' g n k (List.replicate k (zs n)) (outs k (j - (d + 1))) (List.range (j - (d + 1))) (k - (j - (d + 1))) k ∧ Step S S' wr w' from by
                have := al_old hal (i := j - (d + 1)) (fr' := List.range (j - (d + 1))) (by rw [← List.range_succ]; congr 1; omega) (by simp; omega) (by simp; omega) (by omega) (by omega)
                rw [zs_set n k (j - (d + 1)) (by omega), show j - d = (j - (d + 1)) + 1 by omega, outs_back k (j - (d + 1)) (by omega), show k - (j - (d + 1) + 1) + 1 = k - (j - (d + 1)) by omega, show max k (k - (j - (d + 1))) = k by omega] at this
                exact this)
              generalize ((j - (d + 1) : Nat) : Int) = di at hA
              clear hal
              go_wp2_with fail
              refine hA.out.mono ?_
              rintro e w8 ⟨rfl, S8, h8, -⟩
              have H8 := hide h8
              clear h8 hA
              go_wp2_with fail
              go_roundw
              case rel => exact ⟨d + 1, S8, by omega, by go_num, H8.out⟩
              case measure => simp [intOf]; omega
            · obtain rfl : d = j := by omega
              rw [Nat.sub_self] at hal
              have hF := hide (as_full hal.ar rfl (by simp))
              have hP := hide (as_peak hal.ar)
              have hb := hide (Hbw.out.trans (hal.bel.mono Hbw.out.size))
              clear hal hlt hd
              go_wp2_with fail
              refine hF.out.mono ?_
              rintro e w7 ⟨rfl, rfl⟩
              go_wp2_with fail
              refine hP.out.mono ?_
              rintro e w7 ⟨rfl, rfl⟩
              go_wp2_with fail
              exact hR.out _ _ ⟨rfl, hb.out⟩
end Go.Proofs.Ythcbjhmckbfkmaa
