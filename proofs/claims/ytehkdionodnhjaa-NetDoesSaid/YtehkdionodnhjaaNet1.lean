/- Bits of a copy are turned, by the net and by the document. -/
import Derived.Test.YtehkdionodnhjaaNet0
import Derived.StillTailTactics
set_option linter.unusedVariables false
set_option linter.unusedSimpArgs false
namespace Go.Proofs.Ytehkdionodnhjaa
open Go.RowKit

/-- Bits within 32 in a row are turned. -/
def flipL (b : List UInt8) (pt : Int) (m : UInt32) : List UInt8 := burst m (plN pt (8 * b.length)) 32 b
theorem flipL_len (b : List UInt8) (pt : Int) (m : UInt32) : (flipL b pt m).length = b.length := burst_len _ _ _ _
theorem flipL_twice (b : List UInt8) (pt : Int) (m : UInt32) : flipL (flipL b pt m) pt m = b := by
  unfold flipL
  rw [burst_len]
  apply bitsL_inj
  apply List.ext_getElem?
  intro q
  rw [burst_get, burst_get, Option.map_map, burst_len]
  have : ((fun x => xor x (turned m (plN pt (8 * b.length)) 32 b.length q)) ∘ fun x => xor x (turned m (plN pt (8 * b.length)) 32 b.length q)) = id := by
    funext x
    simp
  rw [this]; simp
theorem ow_wr {w0 w : World} {b : List UInt8} {A : Option Addr} {c : Nat} (hw : w0.heap.size ≤ w.heap.size) (h : Kd.ow.R (fun k => w0.heap.size ≤ k ∧ k < w.heap.size) w b [.slice A b.length c]) :
    b.length ≤ c ∧ c ≤ maxLen ∧ ∃ g post e, Wr w A g [] post e b ∧ w0.heap.size ≤ g ∧ (0 < b.length → g < w.heap.size) := by
  obtain ⟨A', c', e, h1, h2, h3⟩ := h
  simp only [List.cons.injEq, Value.slice.injEq, and_true] at e
  obtain ⟨rfl, -, rfl⟩ := e
  refine ⟨h1, h2, ?_⟩
  rcases Nat.eq_zero_or_pos b.length with h0 | h0
  · exact ⟨w0.heap.size, [], 0, fun hp => by omega, Nat.le_refl _, fun hp => by omega⟩
  · obtain ⟨g, post, e, rfl, hs, hh⟩ := h3 h0
    exact ⟨g, post, e, fun _ => ⟨rfl, hh⟩, hs.1, fun _ => hs.2⟩
theorem wr_ow {w0 w : World} {b : List UInt8} {A : Option Addr} {c g : Nat} {post : List Value} {e : TypeId} (hc : b.length ≤ c) (hm : c ≤ maxLen) (h : Wr w A g [] post e b) (hg : 0 < b.length → w0.heap.size ≤ g ∧ g < w.heap.size) :
    Kd.ow.R (fun k => w0.heap.size ≤ k ∧ k < w.heap.size) w b [.slice A b.length c] :=
  ⟨A, c, rfl, hc, hm, fun hp => ⟨g, post, e, (h hp).1, hg hp, (h hp).2⟩⟩
set_option maxHeartbeats 4000000 in
set_option maxRecDepth 100000 in
theorem flip_calls (A : Option Addr) (b : List UInt8) (c : Nat) (pt : Int) (m : UInt32) (S : Nat → Prop) (w : World) (hl : b.length ≤ 1000) (hp : (Lit.int .i64 pt).wf = true) (hS : ∀ k, S k → k < w.heap.size) (h : RdL Kd.byte S w A b) :
    Calls Try.prog 40 #[.slice A b.length c, .int .i64 pt, .int .u32 (m.toNat : Int)] w fun e w' => ∃ A' c', e = .returned (.slice A' b.length c') ∧ Kd.ow.R (fun k => w.heap.size ≤ k ∧ k < w'.heap.size) w' (flipL b pt m) [.slice A' b.length c'] ∧ Below w.heap.size w w' := by
  refine cps fun R hR => ?_
  have hcl := hide (clone_calls A b c S w (by omega) hS h)
  have hplw := hide fun y => place_calls pt (8 * b.length) y (by omega) hp
  clear h hS
  obtain ⟨N, hN⟩ : ∃ N, N = b.length := ⟨_, rfl⟩
  have hfd : flipL b pt m = burst m (plN pt (8 * b.length)) 32 b := rfl
  rw [← hN] at hl hcl hplw hfd ⊢
  obtain ⟨first, hfst⟩ : ∃ first, first = plN pt (8 * N) := ⟨_, rfl⟩
  have hfl : first ≤ 8 * N := by rw [hfst]; exact plN_le _ _
  rw [← hfst] at hplw hfd
  rw [hfd] at hR
  have hpl : Hid (∀ y, Calls Try.prog 39 #[.int .i64 pt, .int .i64 (8 * (N : Int))] y fun e w' => e = .returned (.int .i64 (first : Int)) ∧ y = w') := hide fun y => by have := hplw.out y; rw [Int.natCast_mul] at this; exact this
  have HN := hide hN
  clear hfst hN hplw hfd
  go_enter Try.func40, Try.ntmps40
  go_wp2_with fail
  refine hcl.out.mono ?_
  rintro _ w2 ⟨A2, c2, rfl, hk2, hb2⟩
  have hk2' : Kd.ow.R (fun k => w.heap.size ≤ k ∧ k < w2.heap.size) w2 b [.slice A2 b.length c2] := by rw [← HN.out]; exact hk2
  obtain ⟨hc2, hm2, g2, post2, e2, hw2, hg2, hg2l⟩ := ow_wr hb2.size hk2'
  have Hw2 := hide hw2
  have Hb2 := hide hb2
  have Hc2 := hide (show b.length ≤ c2 ∧ c2 ≤ maxLen from ⟨hc2, hm2⟩)
  have Hg2 := hide (show w.heap.size ≤ g2 ∧ (0 < b.length → g2 < w2.heap.size) from ⟨hg2, hg2l⟩)
  have hc2' : N ≤ c2 := by have := HN.out; omega
  have hm2' : c2 ≤ 9223372036854775807 := by unfold maxLen at hm2; omega
  clear hk2 hk2' hw2 hb2 hg2 hg2l hcl hm2 hc2
  go_wp2_with fail
  refine (hpl.out _).mono ?_
  rintro _ w3 ⟨rfl, rfl⟩
  go_wp2_with fail
  go_loopw [18] (fun i wr => ∃ (j : Nat), j ≤ 32 ∧ i = .int .i64 (j : Int) ∧ Wr wr A2 g2 [] post2 e2 (burst m first j b) ∧ Ch (· = g2) w2 wr) (fun i _ => 32 - (intOf i).toNat)
  case atStart => exact ⟨0, Nat.zero_le _, rfl, Hw2.out, Ch.refl _⟩
  case round =>
    obtain ⟨j, hj, rfl, hwr, hch⟩ := hrel
    have Hwr := hide hwr
    have Hch := hide hch
    clear hwr hch
    by_cases hjl : j < 32
    · have hbit := bit_raw m j
      cases hb : m.toNat.testBit j
      · rw [hb] at hbit
        have Hn' := hide (burst_succ_no (mask := m) (first := first) (i := j) (xs := b) (by rw [hb]; rfl))
        clear hb
        go_wp2_with fail
        exact ⟨⟨j + 1, by omega, by rw [Int.natCast_succ], by rw [Hn'.out]; exact Hwr.out, Hch.out⟩, by simp only [intOf]; omega⟩
      · rw [hb] at hbit
        by_cases hk : first + j < 8 * N
        · have f1 : decide ((first : Int) + (j : Int) < 8 * (N : Int)) = true := by simp; omega
          have Hn' := hide (burst_succ_yes (mask := m) (first := first) (i := j) (xs := b) (by rw [hb, ← HN.out]; simpa using hk))
          clear hb
          have hlen : (burst m first j b).length = N := by rw [burst_len, HN.out]
          have hi : (first + j) / 8 < (burst m first j b).length := by rw [hlen]; omega
          obtain ⟨hA, hc1, hf1⟩ := Hwr.out.cell hi
          have hset := Hwr.out.set hi ((burst m first j b)[(first + j) / 8] ^^^ (128 >>> UInt8.ofNat ((first + j) % 8)))
          have hgd : (burst m first j b).getD ((first + j) / 8) 0 = (burst m first j b)[(first + j) / 8] := by
            rw [List.getD_eq_getElem?_getD, List.getElem?_eq_getElem hi]; rfl
          rw [hgd] at Hn'
          simp only [List.length_nil, Nat.zero_add] at hA hc1 hf1 hset
          rw [← Hn'.out] at hset
          have Hset := hide hset
          obtain ⟨q1, q2⟩ := quo8 (first + j)
          rw [Int.natCast_add] at q1 q2
          have q3 := shr_128 ((first + j) % 8) (by omega)
          have q4 := xor8 (burst m first j b)[(first + j) / 8] (128 >>> UInt8.ofNat ((first + j) % 8))
          have hi8 : (first + j) / 8 < N := by omega
          subst hA
          clear hset hgd hlen
          generalize (burst m first j b)[(first + j) / 8] ^^^ (128 >>> UInt8.ofNat ((first + j) % 8)) = y at Hset q4
          generalize (burst m first j b)[(first + j) / 8] = x at hc1 q4
          generalize (128 >>> UInt8.ofNat ((first + j) % 8) : UInt8) = z at q3 q4
          have hk8 : (first + j) % 8 < 8 := by omega
          generalize (first + j) / 8 = a at q1 hc1 hf1 Hset hi8
          generalize (first + j) % 8 = r at q2 q3 hk8
          have e1 : IntKind.i64.wrap (a : Int) = (a : Int) := by rw [IntKind.wrap_i64]; omega
          have e2 : IntKind.i64.wrap (r : Int) = (r : Int) := by rw [IntKind.wrap_i64]; omega
          have e3 : IntKind.u8.wrap (z.toNat : Int) = (z.toNat : Int) := by have := z.toNat_lt; simp [IntKind.wrap, IntKind.bits, IntKind.signed]; omega
          have e4 : (a : Int) < (N : Int) := by omega
          have e5 : IntKind.i64.wrap ((first : Int) + (j : Int)) = (first : Int) + (j : Int) := by rw [IntKind.wrap_i64]; omega
          go_wp2_with fail
          go_still_tail 10, (by kernel_rfl)
          go_wp2_with fail
          exact ⟨⟨j + 1, by omega, by rw [Int.natCast_succ], Hset.out.keep rfl, (Hch.out.trans (Ch.set wr ⟨g2, a, none⟩ (.int .u8 (y.toNat : Int))) fun b hb => .inl hb).drewR⟩, by simp only [intOf]; omega⟩
        · have f1 : decide ((first : Int) + (j : Int) < 8 * (N : Int)) = false := by simp; omega
          have Hn' := hide (burst_succ_no (mask := m) (first := first) (i := j) (xs := b) (by rw [hb, ← HN.out]; simpa using hk))
          clear hb
          go_wp2_with fail
          exact ⟨⟨j + 1, by omega, by rw [Int.natCast_succ], by rw [Hn'.out]; exact Hwr.out, Hch.out⟩, by simp only [intOf]; omega⟩
    · obtain rfl : j = 32 := by omega
      go_wp2_with fail
      have hbel := Hch.out.below Hb2.out Hb2.out.size fun q hq => by have := Hg2.out; omega
      refine hR.out _ _ ⟨A2, c2, by rw [← HN.out]; rfl, ?_, hbel⟩
      rw [← HN.out]
      have hlen : (burst m first 32 b).length = N := by rw [burst_len, HN.out]
      have := wr_ow (w0 := w) (c := c2) (by rw [hlen]; exact hc2') Hc2.out.2 Hwr.out fun hp => ⟨Hg2.out.1, Nat.lt_of_lt_of_le (Hg2.out.2 (by have := HN.out; omega)) Hch.out.size⟩
      rw [hlen] at this
      exact this
end Go.Proofs.Ytehkdionodnhjaa
