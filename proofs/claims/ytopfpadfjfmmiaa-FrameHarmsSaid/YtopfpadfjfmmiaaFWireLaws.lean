/- The laws of layer 2, walked: what they share. -/
import Derived.Test.YtopfpadfjfmmiaaFWire
set_option linter.unusedVariables false
set_option linter.unusedSimpArgs false
namespace Go.Proofs.Ytopfpadfjfmmiaa
open Go.RowKit

theorem Wri.new (w : World) (t : TypeId) : Wri t (w.alloc (.cells #[.slice none 0 0] t)) w.heap.size (.slice none 0 0) [] := ⟨heap_alloc_new w _, Row.nil, by simp [Value.ownBlock]⟩
theorem fp_new {g : Nat} {b : Nat} (h : Fp g (.slice none 0 0) b) : b = g := h.elim id fun e => by simp [Value.ownBlock] at e

theorem fits_rec (n k : Nat) : n / 256 ^ k / 256 = n / 256 ^ (k + 1) := by rw [Nat.div_div_eq_div_mul, Nat.pow_succ]
theorem wrap_div {y : Nat} (hy : y < 18446744073709551616) : IntKind.u64.wrap ((y : Int) / 256) = ((y / 256 : Nat) : Int) := by
  rw [wrap_u64']; omega
theorem get_raw (y : Nat) (x : UInt8) : IntKind.u64.wrap (IntKind.u64.wrap ((y : Int) * 256) + IntKind.u64.wrap (x.toNat : Int)) = (((y * 256 + x.toNat) % 18446744073709551616 : Nat) : Int) := by
  simp only [wrap_u64']
  have := x.toNat_lt
  omega
theorem refget_calls (A : Option Addr) (bs : List UInt8) (c : Nat) (S : Nat → Prop) (w : World) (hm : c ≤ maxLen) (hc : bs.length ≤ c) (h : RdL Kd.byte S w A bs) :
    Calls Try.prog 29 #[.slice A bs.length c] w fun e w' => e = .returned (.int .u64 ((getN bs : Nat) : Int)) ∧ w = w' := by
  refine cps fun R hR => ?_
  unfold maxLen at hm
  have Hsn := hide (fun k (hk : k < bs.length) => (by rw [List.take_succ_eq_append_getElem hk, getN_snoc] : getN (bs.take (k + 1)) = (getN (bs.take k) * 256 + (bs[k]).toNat) % 18446744073709551616))
  go_enter Try.func29, Try.ntmps29
  go_wp2_with fail
  go_loop [3, 4] (fun x i => ∃ k : Nat, k ≤ bs.length ∧ i = .int .i64 (k : Int) ∧ x = .int .u64 ((getN (bs.take k) : Nat) : Int)) (fun _ i => bs.length - (intOf i).toNat)
  case atStart => exact ⟨0, Nat.zero_le _, rfl, rfl⟩
  case round =>
    obtain ⟨k, hk, rfl, rfl⟩ := hrel
    by_cases hlt : k < bs.length
    · obtain ⟨b, off, u, rfl, hsb, hu, hcell⟩ := h.at1 rfl hlt
      obtain rfl := Kd.byte_cell hu
      clear hu
      have Hn := hide (Hsn.out k hlt)
      generalize getN (bs.take k) = y at Hn ⊢
      generalize bs[k] = x at Hn hcell
      go_wp2_with fail
      go_round
      case rel => exact ⟨k + 1, by omega, by go_num, by rw [get_raw, Hn.out]⟩
      case measure => simp [intOf]; omega
    · obtain rfl : k = bs.length := by omega
      rw [List.take_length]
      generalize getN bs = y at hR ⊢
      go_wp2_with fail
      exact hR.out _ _ ⟨rfl, rfl⟩
end Go.Proofs.Ytopfpadfjfmmiaa
