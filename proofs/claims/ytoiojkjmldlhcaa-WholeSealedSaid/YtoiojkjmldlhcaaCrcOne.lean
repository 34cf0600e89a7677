/- CrcOne, walked. -/
import Derived.Test.YtoiojkjmldlhcaaCrcLaws
import Derived.StillTailTactics
import Derived.Deep.Cut
import Derived.Deep.CutRange
import Derived.Deep.RegionHeld
set_option linter.unusedVariables false
set_option linter.unusedSimpArgs false
namespace Go.Proofs.Ytoiojkjmldlhcaa
open Go.RowKit

theorem Ch.drewR {S : Nat → Prop} {w w' : World} (h : Ch S w w') : Ch S w { w' with drawn := w'.drawn + 1 } := ⟨h.os, h.tape, h.output, h.size, h.block⟩
set_option maxRecDepth 100000 in
set_option maxHeartbeats 1000000 in
theorem CrcOne_calls (A : Option Addr) (b : List UInt8) (c : Nat) (pt : Int) (mk : UInt32) (w : World) (hcm : c ≤ maxLen) (hcl : b.length ≤ c) (har : RdL Kd.byte (· < w.heap.size) w A b) (hpt : (Lit.int .u16 pt).wf = true) :
    Calls Try.prog 12 #[.slice A b.length c, .int .u16 pt, .int .u32 (mk.toNat : Int)] w fun e w' => e = .returned (.bool true) ∧ Below w.heap.size w w' := by
  refine cps fun R hR => ?_
  have hcm' := hcm
  unfold maxLen at hcm'
  obtain ⟨p1, p2⟩ := bounds_u16 hpt
  obtain ⟨pt, rfl⟩ := Int.eq_ofNat_of_zero_le p1
  have Ha := hide har
  clear har hpt
  generalize hn : b.length = n at *
  have Hn := hide hn
  clear hn
  go_enter Try.func12, Try.ntmps12
  go_wp2_with fail
  refine (crcspeaks_calls w).mono ?_
  rintro e w1 ⟨rfl, hb1⟩
  by_cases h5 : 500 < n
  · go_wp2_with fail
    exact hR.out _ _ ⟨rfl, hb1⟩
  by_cases h0 : n = 0
  · have f0 : ((n : Int) == 0) = true := by simp; omega
    clear h0
    go_wp2_with fail
    exact hR.out _ _ ⟨rfl, hb1⟩
  have f0 : ((n : Int) == 0) = false := by simp; omega
  have hnp : 0 < n := by omega
  clear h0
  have lmb := hide (show (b.map encB).length = n by rw [List.length_map, Hn.out])
  go_wp2_with (at_builtin; with_reducible refine wp_app_lit 24 rfl rfl (.tmp 22) (.tmp 23) 24 rfl Try.underlying24 infoB ?_ (news := b.map encB) (g := w1.heap.size) ?_ (A := A) (c := c) ?_ ?_ (encB_one _) ?_ ?_ ?_)
  case refine_1 => rfl
  case refine_2 => rfl
  case refine_3 => rw [lmb.out]; rfl
  case refine_4 => exact ((Ha.out.below hb1).keep fun k hk => (balloc w1 _).block k (Nat.lt_of_lt_of_le hk hb1.size)).srcB
  case refine_5 => rw [lmb.out]; omega
  case refine_6 => rw [lmb.out]; unfold maxLen; omega
  case refine_7 =>
  intro v2 w2 hn2
  obtain ⟨A2, g2, post2, c2, rfl, hc2, hm2, hb2, hg2, hlt2, hw2⟩ := hn2.wr
  have hbel2 := (balloc w1 (.cells #[] 5)).trans (hb2.mono (by simp))
  rw [Hn.out] at hlt2 hc2 ⊢
  obtain ⟨hg2l, -⟩ := hlt2 hnp
  have hw2' := hide (hw2 w2 (Below.refl _ _))
  have hg2' : w1.heap.size ≤ g2 := by simp at hg2; omega
  have hmod : ((pt : Int)).tmod (8 * (n : Int)) = ((pt % (8 * n) : Nat) : Int) := by
    rw [Int.tmod_eq_emod_of_nonneg (by omega)]; simp
  have hfl : pt % (8 * n) < 8 * n := Nat.mod_lt _ (by omega)
  generalize pt % (8 * n) = first at hmod hfl
  clear hn2 hb2 hw2 hg2
  go_wp2_with fail
  go_loopw [31] (fun i wr => ∃ (j : Nat), j ≤ 32 ∧ i = .int .i64 (j : Int) ∧ Wr wr A2 g2 [] post2 5 (burst mk first j b) ∧ Ch (· = g2) w2 wr) (fun i _ => 32 - (intOf i).toNat)
  case atStart => exact ⟨0, Nat.zero_le _, rfl, hw2'.out, Ch.refl _⟩
  case round =>
    obtain ⟨j, hj, rfl, hwr, hch⟩ := hrel
    have Hwr := hide hwr
    clear hwr
    by_cases hjl : j < 32
    · have hbit := bit_raw mk j
      cases hb : mk.toNat.testBit j
      · rw [hb] at hbit
        have Hn' := hide (burst_succ_no (mask := mk) (first := first) (i := j) (xs := b) (by rw [hb]; rfl))
        clear hb
        go_wp2_with fail
        go_roundw
        case rel => exact ⟨j + 1, by omega, by go_num, by rw [Hn'.out]; exact Hwr.out, hch⟩
        case measure => simp [intOf]; omega
      · rw [hb] at hbit
        by_cases hk : first + j < 8 * n
        · have f1 : decide ((first : Int) + (j : Int) < 8 * (n : Int)) = true := by simp; omega
          have Hn' := hide (burst_succ_yes (mask := mk) (first := first) (i := j) (xs := b) (by rw [hb, Hn.out]; simpa using hk))
          clear hb
          have hlen : (burst mk first j b).length = n := by rw [burst_len, Hn.out]
          have hi : (first + j) / 8 < (burst mk first j b).length := by rw [hlen]; omega
          obtain ⟨hA, hc1, hf1⟩ := Hwr.out.cell hi
          have hset := Hwr.out.set hi ((burst mk first j b)[(first + j) / 8] ^^^ (128 >>> UInt8.ofNat ((first + j) % 8)))
          have hgd : (burst mk first j b).getD ((first + j) / 8) 0 = (burst mk first j b)[(first + j) / 8] := by
            rw [List.getD_eq_getElem?_getD, List.getElem?_eq_getElem hi]; rfl
          rw [hgd] at Hn'
          simp only [List.length_nil, Nat.zero_add] at hA hc1 hf1 hset
          rw [← Hn'.out] at hset
          have Hset := hide hset
          obtain ⟨q1, q2⟩ := quo8 (first + j)
          rw [Int.natCast_add] at q1 q2
          have q3 := shr_128 ((first + j) % 8) (by omega)
          have q4 := xor8 (burst mk first j b)[(first + j) / 8] (128 >>> UInt8.ofNat ((first + j) % 8))
          have hi8 : (first + j) / 8 < n := by omega
          subst hA
          clear hset hgd hlen
          generalize (burst mk first j b)[(first + j) / 8] ^^^ (128 >>> UInt8.ofNat ((first + j) % 8)) = y at Hset q4
          generalize (burst mk first j b)[(first + j) / 8] = x at hc1 q4
          generalize (128 >>> UInt8.ofNat ((first + j) % 8) : UInt8) = z at q3 q4
          have hk8 : (first + j) % 8 < 8 := by omega
          generalize (first + j) / 8 = a at q1 hc1 hf1 Hset hi8
          generalize (first + j) % 8 = r at q2 q3 hk8
          have e1 : IntKind.i64.wrap (a : Int) = (a : Int) := by rw [IntKind.wrap_i64]; omega
          have e2 : IntKind.i64.wrap (r : Int) = (r : Int) := by rw [IntKind.wrap_i64]; omega
          have e3 : IntKind.u8.wrap (z.toNat : Int) = (z.toNat : Int) := by have := z.toNat_lt; simp [IntKind.wrap, IntKind.bits, IntKind.signed]; omega
          have e4 : (a : Int) < (n : Int) := by omega
          have e5 : IntKind.i64.wrap ((first : Int) + (j : Int)) = (first : Int) + (j : Int) := by rw [IntKind.wrap_i64]; omega
          go_wp2_with fail
          go_still_tail 10, (by kernel_rfl)
          go_wp2_with fail
          refine ⟨⟨j + 1, by omega, by go_num, Hset.out.keep rfl, (hch.trans (Ch.set wr ⟨g2, a, none⟩ (.int .u8 (y.toNat : Int))) fun b hb => .inl hb).drewR⟩, by simp [intOf]; omega⟩
        · have f1 : decide ((first : Int) + (j : Int) < 8 * (n : Int)) = false := by simp; omega
          have Hn' := hide (burst_succ_no (mask := mk) (first := first) (i := j) (xs := b) (by rw [hb, Hn.out]; simpa using hk))
          clear hb
          go_wp2_with fail
          go_roundw
          case rel => exact ⟨j + 1, by omega, by go_num, by rw [Hn'.out]; exact Hwr.out, hch⟩
          case measure => simp [intOf]; omega
    · obtain rfl : j = 32 := by omega
      have hs2 := hbel2.size
      have hbe := hch.below hbel2 hs2 (fun q hq => by rw [hq]; exact hg2')
      have hse := hbe.size
      go_wp2_with fail
      refine (new_calls wr).mono ?_
      rintro e w4 ⟨rfl, ht4, hb4, hlt4⟩
      have hwr4 := Hwr.out.keep (w' := w4) (hb4.block g2 (Nat.lt_of_lt_of_le hg2l hch.size))
      have hbe4 := hbe.trans (hb4.mono hse)
      have hg4 : g2 < w4.heap.size := Nat.lt_of_lt_of_le (Nat.lt_of_lt_of_le hg2l hch.size) hb4.size
      have hiff := hide (burst_iff 4294967295 mk first b)
      have hlen := hide (show (burst mk first 32 b).length = n by rw [burst_len, Hn.out])
      have Hwr4 := hide hwr4
      have Ht4 := hide ht4
      have Hbe4 := hide hbe4
      clear hwr4 ht4 hbe4 hb4 Hwr hch hbe hw2'
      generalize burst mk first 32 b = x at *
      generalize wr.heap.size = gt at *
      have hS := hide (fun (y : World) (hy : Below w4.heap.size w4 y) => (⟨hide hy,
        by have := run_str (P := Try.prog) (w := y) Try.underlying24 Try.underlying5 Try.underlying9 (Hwr4.out.keep (w' := y) (hy.block g2 hg4)).src c2
           rwa [hlen.out] at this,
        by have := run_str (P := Try.prog) (w := y) Try.underlying24 Try.underlying5 Try.underlying9 ((Ha.out.below (hb1.trans ((Hbe4.out.trans (hy.mono Hbe4.out.size)).mono hb1.size)))).srcB c
           rwa [Hn.out] at this⟩ :
        Hid (Below w4.heap.size w4 y) ∧ (convert 24 9 (.slice A2 n c2)).run Try.prog y = .ok (.string (bstr x)) y ∧ (convert 24 9 (.slice A n c)).run Try.prog y = .ok (.string (bstr b)) y))
      have hT := hide (fun (y : World) (hy : Below w4.heap.size w4 y) => Ht4.out.keep (w' := y) (hy.block gt hlt4))
      have hX := hide (fun (y : World) (hy : Below w4.heap.size w4 y) => (Hwr4.out.keep (w' := y) (hy.block g2 hg4)).rdB)
      have hB := hide (fun (y : World) (hy : Below w4.heap.size w4 y) => Ha.out.below (hb1.trans ((Hbe4.out.trans (hy.mono Hbe4.out.size)).mono hb1.size)))
      have hfin := hide (show (((crcS x).toNat : Int) == ((crcS b).toNat : Int)) = (x == b) by
        rw [eq32, Bool.eq_iff_iff, beq_iff_eq, beq_iff_eq, ← hiff.out]
        unfold crcS
        constructor
        · intro h
          rw [← ones_xor, ← ones_xor] at h
          have := congrArg ((4294967295 : UInt32) ^^^ ·) h
          simpa [← UInt32.xor_assoc] using this
        · intro h; rw [h])
      clear hiff hmod hse Hwr4 Ht4
      go_wp2_with fail
      have s0 := hS.out w4 (Below.refl _ _)
      go_region_held (fun y => Hid (Below w4.heap.size w4 y) ∧ (convert 24 9 (.slice A2 n c2)).run Try.prog y = .ok (.string (bstr x)) y ∧ (convert 24 9 (.slice A n c)).run Try.prog y = .ok (.string (bstr b)) y)
        (exact hS.out _ (Hid.out (by repeat (first | assumption | exact hide (Below.refl _ _) | refine held_alloc ?_ | refine held_drew ?_)))) (first
        | (go_at_call 29
           refine (sum_at (xs := x) (n := n) (A := A2) (c := c2) (hT.out _ (Hid.out (by repeat (first | assumption | exact hide (Below.refl _ _) | refine held_alloc ?_ | refine held_drew ?_)))) (by first | exact heap_new0 _ _ | exact heap_new1 _ _ _ | exact heap_old0 _ _ _) hlen.out hc2 hm2 (hX.out _ (Hid.out (by repeat (first | assumption | exact hide (Below.refl _ _) | refine held_alloc ?_ | refine held_drew ?_))))).mono ?_
           rintro e w9 ⟨rfl, rfl⟩)
        | (go_at_call 29
           refine (sum_at (xs := b) (n := n) (A := A) (c := c) (hT.out _ (Hid.out (by repeat (first | assumption | exact hide (Below.refl _ _) | refine held_alloc ?_ | refine held_drew ?_)))) (by first | exact heap_new0 _ _ | exact heap_new1 _ _ _ | exact heap_old0 _ _ _) Hn.out hcl hcm (hB.out _ (Hid.out (by repeat (first | assumption | exact hide (Below.refl _ _) | refine held_alloc ?_ | refine held_drew ?_))))).mono ?_
           rintro e w9 ⟨rfl, rfl⟩))
      all_goals
        rw [hfin.out, beq_self_eq_true]
        go_wp2_with fail
        exact hR.out _ _ ⟨rfl, hb1.trans ((Hbe4.out.trans (Below.mono (Hid.out (by repeat (first | assumption | exact hide (Below.refl _ _) | refine held_alloc ?_ | refine held_drew ?_)) : Below w4.heap.size w4 _) Hbe4.out.size)).mono hb1.size)⟩
end Go.Proofs.Ytoiojkjmldlhcaa
