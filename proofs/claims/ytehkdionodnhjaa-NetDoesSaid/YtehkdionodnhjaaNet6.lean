/- The document's turning of bits, and of rows, walked. -/
import Derived.Test.YtehkdionodnhjaaNet5
set_option linter.unusedVariables false
set_option linter.unusedSimpArgs false
namespace Go.Proofs.Ytehkdionodnhjaa
open Go.RowKit

def mvN (m : UInt32) (i : Nat) : Nat := m.toNat / 2 ^ i
theorem mvN_succ (m : UInt32) (i : Nat) : mvN m (i + 1) = mvN m i / 2 := by
  unfold mvN; rw [Nat.pow_succ, Nat.div_div_eq_div_mul]
theorem mvN_lt (m : UInt32) (i : Nat) : mvN m i < 4294967296 := Nat.lt_of_le_of_lt (Nat.div_le_self _ _) m.toNat_lt
theorem mvN_bit (m : UInt32) (i : Nat) : ((((mvN m i : Nat) : Int) % 2 == 1) = m.toNat.testBit i) := by
  rw [Nat.testBit_eq_decide_div_mod_eq]
  unfold mvN
  rw [Bool.eq_iff_iff, beq_iff_eq, decide_eq_true_eq]
  omega
theorem bit_pow (r : Nat) (hr : r ≤ 7) : ((2 ^ (7 - r) : Nat) : Int) = ((128 >>> UInt8.ofNat r : UInt8).toNat : Int) := by
  have h : ∀ k : Fin 8, ((2 ^ (7 - k.1) : Nat) : Int) = ((128 >>> UInt8.ofNat k.1 : UInt8).toNat : Int) := by decide
  exact h ⟨r, by omega⟩
theorem pow_two (r j : Nat) (h1 : r ≤ j) (h2 : j < 7) : IntKind.u8.wrap (((2 ^ (j - r) : Nat) : Int) * 2) = ((2 ^ (j + 1 - r) : Nat) : Int) := by
  have h : ∀ (r j : Fin 8), r.1 ≤ j.1 → j.1 < 7 → IntKind.u8.wrap (((2 ^ (j.1 - r.1) : Nat) : Int) * 2) = ((2 ^ (j.1 + 1 - r.1) : Nat) : Int) := by decide
  exact h ⟨r, by omega⟩ ⟨j, by omega⟩ h1 h2
set_option maxHeartbeats 4000000 in
set_option maxRecDepth 100000 in
theorem refflip_calls (A : Option Addr) (b : List UInt8) (c : Nat) (pt : Int) (m : UInt32) (S : Nat → Prop) (w : World) (hl : b.length ≤ 1000) (hp : (Lit.int .i64 pt).wf = true) (hS : ∀ k, S k → k < w.heap.size) (h : RdL Kd.byte S w A b) :
    Calls Try.prog 42 #[.slice A b.length c, .int .i64 pt, .int .u32 (m.toNat : Int)] w fun e w' => ∃ A' c', e = .returned (.slice A' b.length c') ∧ Kd.ow.R (newB w w') w' (flipL b pt m) [.slice A' b.length c'] ∧ Below w.heap.size w w' := by
  refine cps fun R hR => ?_
  have hb0 := balloc w (.cells #[] 5)
  have s1 := hide ((h.keep (w' := w.alloc (.cells #[] 5)) fun k hk => hb0.block k (hS k hk)).srcB)
  have Hb0 := hide hb0
  have hle := hide (show (b.map encB).length = b.length from List.length_map _)
  have hplw := hide fun y => refplace_calls pt (8 * b.length) y (by omega) hp
  clear h hS hb0
  obtain ⟨N, hN⟩ : ∃ N, N = b.length := ⟨_, rfl⟩
  have hfd : flipL b pt m = burst m (plN pt (8 * b.length)) 32 b := rfl
  rw [← hN] at hl hle hplw hfd ⊢
  obtain ⟨first, hfst⟩ : ∃ first, first = plN pt (8 * N) := ⟨_, rfl⟩
  have hfl : first ≤ 8 * N := by rw [hfst]; exact plN_le _ _
  rw [← hfst] at hplw hfd
  rw [hfd] at hR
  have hpl : Hid (∀ y, Calls Try.prog 41 #[.int .i64 pt, .int .i64 (8 * (N : Int))] y fun e w' => e = .returned (.int .i64 (first : Int)) ∧ y = w') := hide fun y => by have := hplw.out y; rw [Int.natCast_mul] at this; exact this
  have HN := hide hN
  clear hfst hN hplw hfd
  go_enter Try.func42, Try.ntmps42
  go_wp2_with (at_builtin; with_reducible refine wp_app_lit 15 rfl rfl (.tmp 13) (.tmp 14) 57 rfl Try.underlying57 infoB ?_ (g := w.heap.size) ?_ (A := A) (c := c) (news := b.map encB) ?_ ?_ ?_ ?_ ?_ ?_)
  case refine_1 => rfl
  case refine_2 => rfl
  case refine_3 => rw [hle.out]; rfl
  case refine_4 => exact s1.out
  case refine_5 => exact encB_one b
  case refine_6 => rw [hle.out]; omega
  case refine_7 => rw [hle.out]; unfold maxLen; omega
  case refine_8 =>
  intro v w2 hn
  obtain ⟨A2, c2, rfl, hk2, hb2'⟩ := hn.ow
  have hsz0 : w.heap.size ≤ (w.alloc (.cells #[] 5)).heap.size := by simp
  have hb2 : Below w.heap.size w w2 := Hb0.out.trans (hb2'.mono hsz0)
  have hk2' : Kd.ow.R (fun k => w.heap.size ≤ k ∧ k < w2.heap.size) w2 b [.slice A2 b.length c2] := Kd.ow.mono (fun k hk => ⟨by have := hk.1; omega, hk.2⟩) hk2
  obtain ⟨hc2, hm2, g2, post2, e2, hw2, hg2, hg2l⟩ := ow_wr hb2.size hk2'
  have Hw2 := hide hw2
  have Hb2 := hide hb2
  have Hc2 := hide (show b.length ≤ c2 ∧ c2 ≤ maxLen from ⟨hc2, hm2⟩)
  have Hg2 := hide (show w.heap.size ≤ g2 ∧ (0 < b.length → g2 < w2.heap.size) from ⟨hg2, hg2l⟩)
  have hc2' : N ≤ c2 := by have := HN.out; omega
  have hm2' : c2 ≤ 9223372036854775807 := by unfold maxLen at hm2; omega
  rw [← HN.out]
  clear hk2 hk2' hw2 hb2 hg2 hg2l hm2 hc2 hn hb2' hsz0 s1
  go_wp2_with fail
  refine (hpl.out _).mono ?_
  rintro _ w3 ⟨rfl, rfl⟩
  go_wp2_with fail
  go_loopw [2, 9] (fun mv i wr => ∃ (j : Nat), j ≤ 32 ∧ i = .int .i64 (j : Int) ∧ mv = .int .u32 (mvN m j : Int) ∧ Wr wr A2 g2 [] post2 e2 (burst m first j b) ∧ Ch (· = g2) w2 wr) (fun _ i _ => 32 - (intOf i).toNat)
  case atStart => exact ⟨0, Nat.zero_le _, rfl, by simp [mvN], Hw2.out, Ch.refl _⟩
  case round =>
    obtain ⟨j, hj, rfl, rfl, hwr, hch⟩ := hrel
    have Hwr := hide hwr
    have Hch := hide hch
    clear hwr hch
    have hmvl := mvN_lt m j
    have hmb := mvN_bit m j
    have Hmv := hide (mvN_succ m j)
    by_cases hjl : j < 32
    · cases hb : m.toNat.testBit j
      · rw [hb] at hmb
        have Hn' := hide (burst_succ_no (mask := m) (first := first) (i := j) (xs := b) (by rw [hb]; rfl))
        clear hb
        go_wp2_with fail
        exact ⟨⟨j + 1, by omega, by rw [Int.natCast_succ], by rw [Hmv.out]; rfl, by rw [Hn'.out]; exact Hwr.out, Hch.out⟩, by simp only [intOf]; omega⟩
      · rw [hb] at hmb
        by_cases hk : first + j < 8 * N
        · have f1 : decide ((first : Int) + (j : Int) < 8 * (N : Int)) = true := by simp; omega
          have Hn' := hide (burst_succ_yes (mask := m) (first := first) (i := j) (xs := b) (by rw [hb, ← HN.out]; simpa using hk))
          clear hb
          have hlen : (burst m first j b).length = N := by rw [burst_len, HN.out]
          have hi : (first + j) / 8 < (burst m first j b).length := by rw [hlen]; omega
          obtain ⟨hA, hc1, hf1⟩ := Hwr.out.cell hi
          have hset := Hwr.out.set hi ((burst m first j b)[(first + j) / 8] ^^^ (128 >>> UInt8.ofNat ((first + j) % 8)))
          have hgd : (burst m first j b).getD ((first + j) / 8) 0 = (burst m first j b)[(first + j) / 8] := by
            rw [List.getD_eq_getElem?_getD, List.getElem?_eq_getElem hi]; rfl
          rw [hgd] at Hn'
          simp only [List.length_nil, Nat.zero_add] at hA hc1 hf1 hset
          rw [← Hn'.out] at hset
          have Hset := hide hset
          obtain ⟨q1, q2⟩ := quo8 (first + j)
          rw [Int.natCast_add] at q1 q2
          have q3 := bit_pow ((first + j) % 8) (by omega)
          have q4 := xor8 (burst m first j b)[(first + j) / 8] (128 >>> UInt8.ofNat ((first + j) % 8))
          have hi8 : (first + j) / 8 < N := by omega
          subst hA
          clear hset hgd hlen
          generalize (burst m first j b)[(first + j) / 8] ^^^ (128 >>> UInt8.ofNat ((first + j) % 8)) = y at Hset q4
          generalize (burst m first j b)[(first + j) / 8] = x at hc1 q4
          generalize (128 >>> UInt8.ofNat ((first + j) % 8) : UInt8) = z at q3 q4
          have hk8 : (first + j) % 8 < 8 := by omega
          generalize (first + j) / 8 = a at q1 hc1 hf1 Hset hi8
          generalize (first + j) % 8 = r at q2 q3 hk8
          have e4 : (a : Int) < (N : Int) := by omega
          have HQ3 := hide q3
          have HQ4 := hide q4
          clear q3 q4
          go_wp2_with fail
          go_loop [11, 12] (fun bt i => ∃ q : Nat, r ≤ q ∧ q ≤ 7 ∧ i = .int .i64 (q : Int) ∧ bt = .int .u8 ((2 ^ (q - r) : Nat) : Int)) (fun _ i => 7 - (intOf i).toNat)
          case atStart => exact ⟨r, Nat.le_refl _, by omega, rfl, by rw [Nat.sub_self]; rfl⟩
          case round =>
            obtain ⟨q, hq1, hq2, rfl, rfl⟩ := hrel
            by_cases hq : q < 7
            · have hpw := pow_two r q hq1 hq
              obtain ⟨v, hv⟩ : ∃ v : Nat, v = 2 ^ (q - r) := ⟨_, rfl⟩
              obtain ⟨v', hv'⟩ : ∃ v' : Nat, v' = 2 ^ (q + 1 - r) := ⟨_, rfl⟩
              rw [← hv, ← hv'] at hpw
              rw [← hv]
              have Hv' := hide hv'
              clear hv hv'
              go_wp2_with fail
              go_round
              case rel => exact ⟨q + 1, by omega, by omega, by go_num, by rw [← Hv'.out]⟩
              case measure => simp [intOf]; omega
            · obtain rfl : q = 7 := by omega
              rw [HQ3.out]
              have q4 := HQ4.out
              go_wp2_with fail
              exact ⟨⟨j + 1, by omega, by rw [Int.natCast_succ], by rw [Hmv.out]; rfl, Hset.out, Hch.out.trans (Ch.set wr ⟨g2, a, none⟩ (.int .u8 (y.toNat : Int))) fun b hb => .inl hb⟩, by simp only [intOf]; omega⟩
        · have f1 : decide ((first : Int) + (j : Int) < 8 * (N : Int)) = false := by simp; omega
          have Hn' := hide (burst_succ_no (mask := m) (first := first) (i := j) (xs := b) (by rw [hb, ← HN.out]; simpa using hk))
          clear hb
          go_wp2_with fail
          exact ⟨⟨j + 1, by omega, by rw [Int.natCast_succ], by rw [Hmv.out]; rfl, by rw [Hn'.out]; exact Hwr.out, Hch.out⟩, by simp only [intOf]; omega⟩
    · obtain rfl : j = 32 := by omega
      go_wp2_with fail
      have hbel := Hch.out.below Hb2.out Hb2.out.size fun q hq => by have := Hg2.out; omega
      refine hR.out _ _ ⟨A2, c2, by rw [← HN.out]; rfl, ?_, hbel⟩
      rw [← HN.out]
      have hlen : (burst m first 32 b).length = N := by rw [burst_len, HN.out]
      have := wr_ow (w0 := w) (c := c2) (by rw [hlen]; exact hc2') Hc2.out.2 Hwr.out fun hp => ⟨Hg2.out.1, Nat.lt_of_lt_of_le (Hg2.out.2 (by have := HN.out; omega)) Hch.out.size⟩
      rw [hlen] at this
      exact this
end Go.Proofs.Ytehkdionodnhjaa

