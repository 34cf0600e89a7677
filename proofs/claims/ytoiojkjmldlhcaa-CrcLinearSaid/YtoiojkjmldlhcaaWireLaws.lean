/- The laws of layer 2, walked: what they share. -/
import Derived.Test.YtoiojkjmldlhcaaWire
set_option linter.unusedVariables false
set_option linter.unusedSimpArgs false
namespace Go.Proofs.Ytoiojkjmldlhcaa
open Go.RowKit

theorem Wri.new (w : World) (t : TypeId) : Wri t (w.alloc (.cells #[.slice none 0 0] t)) w.heap.size (.slice none 0 0) [] := ⟨heap_alloc_new w _, Row.nil, by simp [Value.ownBlock]⟩
theorem fp_new {g : Nat} {b : Nat} (h : Fp g (.slice none 0 0) b) : b = g := h.elim id fun e => by simp [Value.ownBlock] at e

theorem speaks_calls (w : World) : Calls Try.prog 14 #[] w fun e w' => e = .returned (.bool true) ∧ Below w.heap.size w w' := by
  refine cps fun R hR => ?_
  go_enter Try.func14, Try.ntmps14
  go_wp2_with fail
  refine (put_calls _ _ [] 258 2 _ (Wri.new w 26) (by decide) (by decide) (by simp)).mono ?_
  rintro e w1 ⟨rfl, v1, hw1, hc1, hf1⟩
  have hb1 := hc1.below (balloc w _) (by simp) (fun b hb => by have := fp_new hb; omega)
  have hg1 : ∀ b, Fp w.heap.size v1 b → w.heap.size ≤ b := fun b hb => (hf1 b hb).elim (fun h => by have := fp_new h; omega) (fun h => by simp at h; omega)
  have Hg1 := hide hg1
  clear hc1 hf1 hg1
  generalize hgg : w.heap.size = g at hw1 Hg1 hb1 hR
  have s1 : g ≤ w1.heap.size := by rw [← hgg]; exact hb1.size
  clear hgg
  have e1 : ([] : List UInt8) ++ putL 258 (Int.toNat 2) = [1, 2] := by decide
  rw [e1] at hw1
  have Hw1 := hide hw1
  clear hw1 e1
  go_wp2_with fail
  refine (put_no g v1 256 1 w1 (by decide) (by decide) (by decide) (by decide)).mono ?_
  rintro e w2 ⟨rfl, rfl⟩
  go_wp2_with fail
  refine (bytes_calls g v1 [1, 2] w1 Hw1.out (by simp)).mono ?_
  rintro e w2 ⟨v2, rfl, hf2⟩
  have Hf2 := hide hf2
  obtain ⟨A2, c2, rfl, h2, h2'⟩ := hf2.shape
  have hb2 := hb1.trans (hf2.2.1.mono s1)
  have s2 : g ≤ w2.heap.size := Nat.le_trans s1 hf2.2.1.size
  have h3 := read_calls A2 [1, 2] c2 _ w2 h2' h2 (by simp) (hf2.1.rd (d := Kd.byte) rfl _ (fun b hb => hb) fun x => ⟨_, rfl, rfl⟩)
  have h1w := Hw1.out.ch (Ch.of_below (S := fun _ => False) hf2.2.1) (fun _ _ h => h)
  have Hw2 := hide h1w
  clear hf2 h1w Hf2 Hw1 hb1
  go_wp2_with fail
  refine h3.mono ?_
  rintro e w3 ⟨g3, A3, c3, S3, rfl, hr3, hb3, hg3⟩
  have hw3 := Hw2.out.ch (Ch.of_below (S := fun _ => False) hb3) (fun _ _ h => h)
  have hb3' := hb2.trans (hb3.mono s2)
  have s3 : g ≤ w3.heap.size := Nat.le_trans s2 hb3.size
  have hlt : ∀ b, Fp g v1 b → b < w2.heap.size := fun b hb => Hw2.out.fp hb
  have ht := take_calls g3 A3 c3 [1, 2] S3 2 w3 hr3 (by omega) (by omega) (by simp)
  rw [show getN (List.take 2 [1, 2]) = 258 by decide] at ht
  have hw3' := hide hw3
  have hg3' := hide hg3
  have hlt' := hide hlt
  clear hr3 hb3 hw3 hg3 hlt Hw2 hb2
  go_wp2_with fail
  refine ht.mono ?_
  rintro e w4 ⟨rfl, hr4, hc4⟩
  have hw4 := hw3'.out.ch hc4 (fun b hb e => by have := hlt'.out b hb; have := hg3'.out g3 (.inl rfl); omega)
  have hb4 := hc4.below hb3' s3 (fun b e => by have := hg3'.out g3 (.inl rfl); omega)
  have hlen := len_calls g v1 [1, 2] w4 hw4
  have hleft := left_calls g3 _ _ _ S3 w4 hr4
  clear hr4 hc4 hw4 ht
  go_wp2_with fail
  refine hlen.mono ?_
  rintro e w5 ⟨rfl, rfl⟩
  go_wp2_with fail
  refine hleft.mono ?_
  rintro e w5 ⟨rfl, rfl⟩
  go_wp2_with fail
  exact hR.out _ _ ⟨rfl, hb4⟩

theorem fits_rec (n k : Nat) : n / 256 ^ k / 256 = n / 256 ^ (k + 1) := by rw [Nat.div_div_eq_div_mul, Nat.pow_succ]
theorem wrap_div {y : Nat} (hy : y < 18446744073709551616) : IntKind.u64.wrap ((y : Int) / 256) = ((y / 256 : Nat) : Int) := by
  rw [wrap_u64']; omega
theorem reffits_calls (n : Nat) (s : Int) (w : World) (hn : n < 18446744073709551616) : Calls Try.prog 21 #[.int .u64 (n : Int), .int .i64 s] w fun e w' => e = .returned (.bool (fitsN n s)) ∧ w = w' := by
  refine cps fun R hR => ?_
  have Hf := hide (show fitsN n s = (decide (1 ≤ s) && decide (s ≤ 8) && decide (n < 256 ^ s.toNat)) from rfl)
  generalize fitsN n s = F at Hf hR
  by_cases h1 : s < 1
  · have b1 : decide (s < 1) = true := by simp; omega
    have e1 : F = false := by rw [Hf.out]; simp; omega
    clear hn
    subst e1
    go_enter Try.func21, Try.ntmps21
    go_wp2_with fail
    exact hR.out _ _ ⟨rfl, rfl⟩
  have b1 : decide (s < 1) = false := by simp; omega
  by_cases h8 : 8 < s
  · have b2 : decide (8 < s) = true := by simp; omega
    have e1 : F = false := by rw [Hf.out]; simp; omega
    clear hn h1
    subst e1
    go_enter Try.func21, Try.ntmps21
    go_wp2_with fail
    exact hR.out _ _ ⟨rfl, rfl⟩
  have b2 : decide (8 < s) = false := by simp; omega
  obtain ⟨m, rfl⟩ := Int.eq_ofNat_of_zero_le (by omega : (0 : Int) ≤ s)
  have hm8 : m ≤ 8 := by omega
  have Hn := hide hn
  clear hn h1 h8
  go_enter Try.func21, Try.ntmps21
  go_wp2_with fail
  go_loop [0, 5] (fun x i => ∃ k : Nat, k ≤ m ∧ i = .int .i64 (k : Int) ∧ x = .int .u64 ((n / 256 ^ k : Nat) : Int)) (fun _ i => m - (intOf i).toNat)
  case atStart => exact ⟨0, Nat.zero_le _, rfl, by simp⟩
  case round =>
    obtain ⟨k, hk, rfl, rfl⟩ := hrel
    by_cases hlt : k < m
    · have Hr := hide (fits_rec n k)
      have Hy := hide (Nat.lt_of_le_of_lt (Nat.div_le_self n (256 ^ k)) Hn.out)
      generalize n / 256 ^ k = y at Hr Hy ⊢
      go_wp2_with fail
      go_round
      case rel => exact ⟨k + 1, by omega, by go_num, by rw [wrap_div Hy.out, Hr.out]⟩
      case measure => simp [intOf]; omega
    · obtain rfl : k = m := by omega
      have hz : (((n / 256 ^ k : Nat) : Int) == 0) = F := by
        rw [Hf.out, Int.toNat_natCast]
        have hp : 0 < 256 ^ k := Nat.pow_pos (by omega)
        have h1 : 1 ≤ (k : Int) := by simp at b1; omega
        rw [Bool.eq_iff_iff]
        simp only [beq_iff_eq, Bool.and_eq_true, decide_eq_true_eq]
        constructor
        · intro e
          refine ⟨⟨h1, by omega⟩, ?_⟩
          rcases Nat.lt_or_ge n (256 ^ k) with h | h
          · exact h
          · have : 0 < n / 256 ^ k := Nat.div_pos h hp
            omega
        · rintro ⟨_, h⟩
          rw [Nat.div_eq_of_lt h]; rfl
      clear Hf
      generalize n / 256 ^ k = y at hz ⊢
      go_wp2_with fail
      exact hR.out _ _ ⟨rfl, rfl⟩

theorem get_raw (y : Nat) (x : UInt8) : IntKind.u64.wrap (IntKind.u64.wrap ((y : Int) * 256) + IntKind.u64.wrap (x.toNat : Int)) = (((y * 256 + x.toNat) % 18446744073709551616 : Nat) : Int) := by
  simp only [wrap_u64']
  have := x.toNat_lt
  omega
theorem refget_calls (A : Option Addr) (bs : List UInt8) (c : Nat) (S : Nat → Prop) (w : World) (hm : c ≤ maxLen) (hc : bs.length ≤ c) (h : RdL Kd.byte S w A bs) :
    Calls Try.prog 24 #[.slice A bs.length c] w fun e w' => e = .returned (.int .u64 ((getN bs : Nat) : Int)) ∧ w = w' := by
  refine cps fun R hR => ?_
  unfold maxLen at hm
  have Hsn := hide (fun k (hk : k < bs.length) => (by rw [List.take_succ_eq_append_getElem hk, getN_snoc] : getN (bs.take (k + 1)) = (getN (bs.take k) * 256 + (bs[k]).toNat) % 18446744073709551616))
  go_enter Try.func24, Try.ntmps24
  go_wp2_with fail
  go_loop [3, 4] (fun x i => ∃ k : Nat, k ≤ bs.length ∧ i = .int .i64 (k : Int) ∧ x = .int .u64 ((getN (bs.take k) : Nat) : Int)) (fun _ i => bs.length - (intOf i).toNat)
  case atStart => exact ⟨0, Nat.zero_le _, rfl, rfl⟩
  case round =>
    obtain ⟨k, hk, rfl, rfl⟩ := hrel
    by_cases hlt : k < bs.length
    · obtain ⟨b, off, u, rfl, hsb, hu, hcell⟩ := h.at1 rfl hlt
      obtain rfl := Kd.byte_cell hu
      clear hu
      have Hn := hide (Hsn.out k hlt)
      generalize getN (bs.take k) = y at Hn ⊢
      generalize bs[k] = x at Hn hcell
      go_wp2_with fail
      go_round
      case rel => exact ⟨k + 1, by omega, by go_num, by rw [get_raw, Hn.out]⟩
      case measure => simp [intOf]; omega
    · obtain rfl : k = bs.length := by omega
      rw [List.take_length]
      generalize getN bs = y at hR ⊢
      go_wp2_with fail
      exact hR.out _ _ ⟨rfl, rfl⟩
end Go.Proofs.Ytoiojkjmldlhcaa
