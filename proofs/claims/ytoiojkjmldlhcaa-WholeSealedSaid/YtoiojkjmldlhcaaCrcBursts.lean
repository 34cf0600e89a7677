/- CrcBursts, walked. -/
import Derived.Test.YtoiojkjmldlhcaaCrcOne
set_option linter.unusedVariables false
set_option linter.unusedSimpArgs false
namespace Go.Proofs.Ytoiojkjmldlhcaa
open Go.RowKit

theorem right_burst (b : List UInt8) (mk : UInt32) (first : Nat) : rightB (burst mk first 32 (sealL b)) = (burst mk first 32 (sealL b) == sealL b) := by
  have h4 : 4 ≤ (burst mk first 32 (sealL b)).length := by rw [burst_len, sealL_len]; omega
  rw [Bool.eq_iff_iff, right_iff _ h4, beq_iff_eq, ← burst_iff 4294967295 mk first (sealL b), seal_crc]
set_option maxRecDepth 100000 in
set_option maxHeartbeats 1000000 in
theorem CrcBursts_calls (A : Option Addr) (b : List UInt8) (c : Nat) (pt : Int) (mk : UInt32) (w : World) (hcm : c ≤ maxLen) (hcl : b.length ≤ c) (har : RdL Kd.byte (· < w.heap.size) w A b) (hpt : (Lit.int .u16 pt).wf = true) :
    Calls Try.prog 9 #[.slice A b.length c, .int .u16 pt, .int .u32 (mk.toNat : Int)] w fun e w' => e = .returned (.bool true) ∧ Below w.heap.size w w' := by
  refine cps fun R hR => ?_
  have hcm' := hcm
  unfold maxLen at hcm'
  obtain ⟨p1, p2⟩ := bounds_u16 hpt
  obtain ⟨pt, rfl⟩ := Int.eq_ofNat_of_zero_le p1
  have Ha := hide har
  clear har hpt
  generalize hn : b.length = n at *
  have Hn := hide hn
  clear hn
  go_enter Try.func9, Try.ntmps9
  go_wp2_with fail
  refine (crcspeaks_calls w).mono ?_
  rintro e w1 ⟨rfl, hb1⟩
  by_cases h5 : 500 < n
  · go_wp2_with fail
    exact hR.out _ _ ⟨rfl, hb1⟩
  cases f0 : ((mk.toNat : Int) == 0)
  case' true =>
    go_wp2_with fail
    exact hR.out _ _ ⟨rfl, hb1⟩
  case false =>
  go_wp2_with fail
  refine (new_calls w1).mono ?_
  rintro e w2 ⟨rfl, ht2, hb2, hlt2⟩
  have s1 := hb1.size
  have hb02 := hb1.trans (hb2.mono s1)
  have s2 := hb02.size
  have h3 := hide (seal_calls w1.heap.size A b c _ w2 ht2 hcm (by rw [Hn.out]; exact hcl) (by rw [Hn.out]; omega) (Ha.out.below hb02) (fun k hk => Nat.lt_of_lt_of_le hk s2))
  rw [Hn.out] at h3
  generalize w1.heap.size = gt at *
  have Ht2 := hide ht2
  have s12 := hb2.size
  clear ht2 hb2
  go_wp2_with fail
  refine h3.out.mono ?_
  rintro e w3 ⟨v3, rfl, hf3⟩
  obtain ⟨A2, c2, rfl, hc2, hm2⟩ := hf3.shape
  have hNl : (sealL b).length = n + 4 := by rw [sealL_len, Hn.out]
  obtain ⟨g2, post2, hw2, ho2, -⟩ := Row.wr hf3.1
  have hg2 := ho2 (by omega)
  have hg2w := hf3.2.2 g2 hg2
  have hg2l := hf3.1.lt hg2
  have hbel3 := hb02.trans (hf3.2.1.mono s2)
  have Ht3 := hide (Ht2.out.keep (hf3.2.1.block gt Ht2.out.lt))
  have hw2' := hide hw2
  rw [hNl] at hc2 ⊢
  have HN := hide hNl
  obtain ⟨N, hN⟩ : ∃ N, N = n + 4 := ⟨_, rfl⟩
  rw [← hN] at hc2 HN ⊢
  have hsealb := hide (right_burst b mk)
  clear hf3 ho2 hw2 hNl h3 hg2
  generalize hxb : sealL b = xb at HN hw2' hsealb
  have Hxb := hide hxb
  have hN1 : N ≤ 504 := by omega
  have hN4 : 4 ≤ N := by omega
  have HNn := hide hN
  clear hxb hN
  have hmod : ((pt : Int)).tmod (8 * (N : Int)) = ((pt % (8 * N) : Nat) : Int) := by
    rw [Int.tmod_eq_emod_of_nonneg (by omega)]; simp
  have hfl : pt % (8 * N) < 8 * N := Nat.mod_lt _ (by omega)
  generalize hfst : pt % (8 * N) = first at hmod hfl
  clear hfst
  go_wp2_with fail
  go_loopw [31] (fun i wr => ∃ (j : Nat), j ≤ 32 ∧ i = .int .i64 (j : Int) ∧ Wr wr A2 g2 [] post2 5 (burst mk first j xb) ∧ Ch (· = g2) w3 wr) (fun i _ => 32 - (intOf i).toNat)
  case atStart => exact ⟨0, Nat.zero_le _, rfl, hw2'.out, Ch.refl _⟩
  case round =>
    obtain ⟨j, hj, rfl, hwr, hch⟩ := hrel
    have Hwr := hide hwr
    clear hwr
    by_cases hjl : j < 32
    · have hbit := bit_raw mk j
      cases hb : mk.toNat.testBit j
      · rw [hb] at hbit
        have Hn' := hide (burst_succ_no (mask := mk) (first := first) (i := j) (xs := xb) (by rw [hb]; rfl))
        clear hb
        go_wp2_with fail
        go_roundw
        case rel => exact ⟨j + 1, by omega, by go_num, by rw [Hn'.out]; exact Hwr.out, hch⟩
        case measure => simp [intOf]; omega
      · rw [hb] at hbit
        by_cases hk : first + j < 8 * N
        · have f1 : decide ((first : Int) + (j : Int) < 8 * (N : Int)) = true := by simp; omega
          have Hn' := hide (burst_succ_yes (mask := mk) (first := first) (i := j) (xs := xb) (by rw [hb, HN.out]; simpa using hk))
          clear hb
          have hlen : (burst mk first j xb).length = N := by rw [burst_len, HN.out]
          have hi : (first + j) / 8 < (burst mk first j xb).length := by rw [hlen]; omega
          obtain ⟨hA, hc1, hf1⟩ := Hwr.out.cell hi
          have hset := Hwr.out.set hi ((burst mk first j xb)[(first + j) / 8] ^^^ (128 >>> UInt8.ofNat ((first + j) % 8)))
          have hgd : (burst mk first j xb).getD ((first + j) / 8) 0 = (burst mk first j xb)[(first + j) / 8] := by
            rw [List.getD_eq_getElem?_getD, List.getElem?_eq_getElem hi]; rfl
          rw [hgd] at Hn'
          simp only [List.length_nil, Nat.zero_add] at hA hc1 hf1 hset
          rw [← Hn'.out] at hset
          have Hset := hide hset
          obtain ⟨q1, q2⟩ := quo8 (first + j)
          rw [Int.natCast_add] at q1 q2
          have q3 := shr_128 ((first + j) % 8) (by omega)
          have q4 := xor8 (burst mk first j xb)[(first + j) / 8] (128 >>> UInt8.ofNat ((first + j) % 8))
          have hi8 : (first + j) / 8 < N := by omega
          subst hA
          clear hset hgd hlen
          generalize (burst mk first j xb)[(first + j) / 8] ^^^ (128 >>> UInt8.ofNat ((first + j) % 8)) = y at Hset q4
          generalize (burst mk first j xb)[(first + j) / 8] = x at hc1 q4
          generalize (128 >>> UInt8.ofNat ((first + j) % 8) : UInt8) = z at q3 q4
          have hk8 : (first + j) % 8 < 8 := by omega
          generalize (first + j) / 8 = a at q1 hc1 hf1 Hset hi8
          generalize (first + j) % 8 = r at q2 q3 hk8
          have e1 : IntKind.i64.wrap (a : Int) = (a : Int) := by rw [IntKind.wrap_i64]; omega
          have e2 : IntKind.i64.wrap (r : Int) = (r : Int) := by rw [IntKind.wrap_i64]; omega
          have e3 : IntKind.u8.wrap (z.toNat : Int) = (z.toNat : Int) := by have := z.toNat_lt; simp [IntKind.wrap, IntKind.bits, IntKind.signed]; omega
          have e4 : (a : Int) < (N : Int) := by omega
          have e5 : IntKind.i64.wrap ((first : Int) + (j : Int)) = (first : Int) + (j : Int) := by rw [IntKind.wrap_i64]; omega
          go_wp2_with fail
          go_still_tail 10, (by kernel_rfl)
          go_wp2_with fail
          refine ⟨⟨j + 1, by omega, by go_num, Hset.out.keep rfl, (hch.trans (Ch.set wr ⟨g2, a, none⟩ (.int .u8 (y.toNat : Int))) fun b hb => .inl hb).drewR⟩, by simp [intOf]; omega⟩
        · have f1 : decide ((first : Int) + (j : Int) < 8 * (N : Int)) = false := by simp; omega
          have Hn' := hide (burst_succ_no (mask := mk) (first := first) (i := j) (xs := xb) (by rw [hb, HN.out]; simpa using hk))
          clear hb
          go_wp2_with fail
          go_roundw
          case rel => exact ⟨j + 1, by omega, by go_num, by rw [Hn'.out]; exact Hwr.out, hch⟩
          case measure => simp [intOf]; omega
    · obtain rfl : j = 32 := by omega
      have hbe := hch.below hbel3 hbel3.size (fun q hq => by rw [hq]; omega)
      have ht4 := Ht3.out.keep (w' := wr) (hch.block gt Ht3.out.lt (fun e => by omega))
      have hgw : g2 < wr.heap.size := Nat.lt_of_lt_of_le hg2l hch.size
      have hlen := hide (show (burst mk first 32 xb).length = N by rw [burst_len, HN.out])
      have hrb := hide (hsealb.out first)
      have Ht4 := hide ht4
      have hlt4 := ht4.lt
      have Hbe := hide hbe
      clear ht4 hbe hch hw2' hsealb
      generalize burst mk first 32 xb = x at *
      go_wp2_with fail
      have hS := hide (fun (y : World) (hy : Below wr.heap.size wr y) => (⟨hide hy,
        by have := run_str (P := Try.prog) (w := y) Try.underlying24 Try.underlying5 Try.underlying9 (Hwr.out.keep (w' := y) (hy.block g2 hgw)).src c2
           rwa [hlen.out] at this⟩ :
        Hid (Below wr.heap.size wr y) ∧ (convert 24 9 (.slice A2 N c2)).run Try.prog y = .ok (.string (bstr x)) y))
      have s0 := hS.out wr (Below.refl _ _)
      have hRt := hide (fun (y : World) (hy : Below wr.heap.size wr y) => right_calls gt A2 x c2 _ y (Ht4.out.keep (w' := y) (hy.block gt hlt4)) hm2 (by rw [hlen.out]; exact hc2) (by rw [hlen.out]; omega) (Hwr.out.keep (w' := y) (hy.block g2 hgw)).rdB (fun k hk => by rw [hk]; exact Nat.lt_of_lt_of_le hgw hy.size))
      have hSl := hide (fun (y : World) (hy : Below wr.heap.size wr y) => seal_calls gt A b c _ y (Ht4.out.keep (w' := y) (hy.block gt hlt4)) hcm (by rw [Hn.out]; exact hcl) (by rw [Hn.out]; omega) (Ha.out.below (Hbe.out.trans (hy.mono Hbe.out.size))) (fun k hk => Nat.lt_of_lt_of_le hk (Nat.le_trans Hbe.out.size hy.size)))
      rw [hlen.out, hrb.out] at hRt
      rw [Hn.out, Hxb.out] at hSl
      go_region_held (fun y => Hid (Below wr.heap.size wr y) ∧ (convert 24 9 (.slice A2 N c2)).run Try.prog y = .ok (.string (bstr x)) y)
        (exact hS.out _ (Hid.out (by repeat (first | assumption | exact hide (Below.refl _ _) | refine held_alloc ?_ | refine held_drew ?_)))) (first
        | (go_at_call 32
           refine (hRt.out _ (Hid.out (by repeat (first | assumption | exact hide (Below.refl _ _) | refine held_alloc ?_ | refine held_drew ?_)))).mono ?_
           rintro e w8 ⟨rfl, hb8⟩
           have hb8' : Hid (Below wr.heap.size wr w8) := hide ((Below.refl wr.heap.size wr).drew.trans hb8))
        | (go_at_call 28
           refine (hSl.out _ (Hid.out (by repeat (first | assumption | exact hide (Below.refl _ _) | refine held_alloc ?_ | refine held_drew ?_)))).mono ?_
           rintro e w9 ⟨v9, rfl, hf9⟩
           obtain ⟨A9, c9, rfl, -, -⟩ := hf9.shape
           have hb9' : Hid (Below wr.heap.size wr w9) := hide (hb8'.out.trans (hf9.2.1.mono hb8'.out.size))
           have t9 := run_str (P := Try.prog) (w := w9) Try.underlying24 Try.underlying5 Try.underlying9 hf9.1.src c9
           clear hf9))
      go_wp2_with fail
      exact hR.out _ _ ⟨by simp, Hbe.out.trans (hb9'.out.mono Hbe.out.size)⟩
end Go.Proofs.Ytoiojkjmldlhcaa
