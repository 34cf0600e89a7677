/- A frame read is the packet that was written; what Encode and Parse answer, all ways together. -/
import Derived.Test.YtopfpadfjfmmiaaFramePar3
set_option linter.unusedVariables false
set_option linter.unusedSimpArgs false
namespace Go.Proofs.Ytopfpadfjfmmiaa
open Go.RowKit

theorem fErr_cases (b : List UInt8) : (fErr b = 4 ∧ b.length < 42) ∨ (fErr b = 5 ∧ 42 ≤ b.length ∧ getN (mid b 0 2) ≠ 16716) ∨ (fErr b = 6 ∧ 42 ≤ b.length ∧ getN (mid b 0 2) = 16716 ∧ b.getD 2 0 ≠ 1) ∨
    (fErr b = 1 ∧ 42 ≤ b.length ∧ getN (mid b 0 2) = 16716 ∧ b.getD 2 0 = 1 ∧ mayF b = false) ∨ (fErr b = 7 ∧ 42 ≤ b.length ∧ getN (mid b 0 2) = 16716 ∧ b.getD 2 0 = 1 ∧ mayF b = true ∧ b.length ≠ 42 + getN (mid b 15 2)) ∨
    (fErr b = 8 ∧ 42 ≤ b.length ∧ getN (mid b 0 2) = 16716 ∧ b.getD 2 0 = 1 ∧ mayF b = true ∧ b.length = 42 + getN (mid b 15 2) ∧ rightB b = false) ∨
    (fErr b = 0 ∧ 42 ≤ b.length ∧ getN (mid b 0 2) = 16716 ∧ b.getD 2 0 = 1 ∧ mayF b = true ∧ b.length = 42 + getN (mid b 15 2) ∧ rightB b = true) := by
  unfold fErr
  by_cases h4 : b.length < 42
  · exact .inl ⟨if_pos h4, h4⟩
  rw [if_neg h4]
  by_cases h5 : getN (mid b 0 2) ≠ 16716
  · exact .inr (.inl ⟨if_pos h5, by omega, h5⟩)
  rw [if_neg h5]
  by_cases h6 : b.getD 2 0 ≠ 1
  · exact .inr (.inr (.inl ⟨if_pos h6, by omega, by omega, h6⟩))
  rw [if_neg h6]
  have h6' : b.getD 2 0 = 1 := by simpa using h6
  cases hm : mayF b
  · exact .inr (.inr (.inr (.inl ⟨if_pos rfl, by omega, by omega, h6', rfl⟩)))
  rw [if_neg (by simp)]
  by_cases h7 : b.length ≠ 42 + getN (mid b 15 2)
  · exact .inr (.inr (.inr (.inr (.inl ⟨if_pos h7, by omega, by omega, h6', rfl, h7⟩))))
  rw [if_neg h7]
  cases hr : rightB b
  · exact .inr (.inr (.inr (.inr (.inr (.inl ⟨if_pos rfl, by omega, by omega, h6', rfl, by omega, rfl⟩)))))
  · exact .inr (.inr (.inr (.inr (.inr (.inr ⟨if_neg (by simp), by omega, by omega, h6', rfl, by omega, rfl⟩)))))

section
variable (gc gt : Nat) (A : Option Addr) (b : List UInt8) (c : Nat) (w : World) (hgc : w.heap[gc]? = some (.cells #[.pointer (some ⟨gt, 0, none⟩)] 62 (0, 0))) (ht : TabAt w gt 256) (hm : c ≤ maxLen) (hc : b.length ≤ c) (hl : b.length ≤ 100000) (h : RdL Kd.byte (· < w.heap.size) w A b)
include hgc ht hm hc hl h
theorem fpar_err (he : fErr b ≠ 0) : Calls Try.prog 11 #[.pointer (some ⟨gc, 0, none⟩), .slice A b.length c] w fun e w' => e = .returned (.tuple #[zPk, .int .i64 (fErr b : Int)]) ∧ Below w.heap.size w w' := by
  rcases fErr_cases b with ⟨h0, h1⟩ | ⟨h0, h1, h2⟩ | ⟨h0, h1, h2, h3⟩ | ⟨h0, h1, h2, h3, h4⟩ | ⟨h0, h1, h2, h3, h4, h5⟩ | ⟨h0, h1, h2, h3, h4, h5, h6⟩ | ⟨h0, _⟩
  · rw [h0]; exact fpar4 gc gt A b c w hgc ht hm hc hl h h1
  · rw [h0]; exact fpar5 gc gt A b c w hgc ht hm hc hl h h1 h2
  · rw [h0]; exact fpar6 gc gt A b c w hgc ht hm hc hl h h1 h2 h3
  · rw [h0]; exact fpar1 gc gt A b c w hgc ht hm hc hl h h1 h2 h3 h4
  · rw [h0]; exact fpar7 gc gt A b c w hgc ht hm hc hl h h1 h2 h3 h4 h5
  · rw [h0]; exact fpar8 gc gt A b c w hgc ht hm hc hl h h1 h2 h3 h4 h5 h6
  · exact absurd h0 he
end

theorem seal_right (b : List UInt8) : rightB (sealL b) = true := by
  rw [right_iff _ (by rw [sealL_len]; omega), seal_crc]
theorem putL_one (n : Nat) (h : n < 256) : putL n 1 = [UInt8.ofNat n] := by
  simp [putL]
theorem put_cut {n m : Nat} {rest : List UInt8} : (putL n m ++ rest).take m = putL n m ∧ (putL n m ++ rest).drop m = rest := take_put
/-- What a frame says is what was put into it. -/
theorem enc_par {s N B Q E F len d : Nat} {pl : List UInt8} (hs : s < 18446744073709551616) (hd : d < 18446744073709551616) (hmay : mayH N B Q E F len = true) (hn : pl.length = B) {b : List UInt8} (hb : b = sealL (headL s N B Q E F len d ++ pl)) :
    fErr b = 0 ∧ getN (mid b 3 8) = s ∧ getN (mid b 11 4) = N ∧ getN (mid b 15 2) = B ∧ getN (mid b 17 1) = Q ∧ getN (mid b 18 2) = E ∧ getN (mid b 20 2) = F ∧ wrap64 ((getN (mid b 22 8) : Nat) : Int) = (len : Int) ∧ getN (mid b 30 8) = d ∧ mid b 38 B = pl ∧ b.length = 42 + B := by
  obtain ⟨hm0, hl0, hl1⟩ := mayH_bd hmay
  obtain ⟨hN1, hN2, hB1, hB2, hQ1, hQ2, hE1, hE2, hF1, hF2, -⟩ := may_bd hm0
  have hl2 : len ≤ 1048576 * 65535 := by
    have : N * B ≤ 1048576 * 65535 := Nat.mul_le_mul (by omega) (by omega)
    rw [← Int.natCast_mul] at hl1; omega
  have hr : rightB b = true := by rw [hb]; exact seal_right _
  have hlen : b.length = 42 + B := by
    rw [hb, sealL_len, List.length_append, fieldsL]
    simp only [List.length_append, putL_len, List.length_nil, hn]; omega
  obtain ⟨r, hr0⟩ : ∃ r, b = putL 16716 2 ++ (putL 1 1 ++ (putL s 8 ++ (putL N 4 ++ (putL B 2 ++ (putL Q 1 ++ (putL E 2 ++ (putL F 2 ++ (putL len 8 ++ (putL d 8 ++ (pl ++ r)))))))))) := ⟨be4 (crcS (headL s N B Q E F len d ++ pl)), by
    rw [hb, sealL, fieldsL]; simp only [List.append_assoc, List.nil_append]⟩
  have d2 : b.drop 2 = putL 1 1 ++ (putL s 8 ++ (putL N 4 ++ (putL B 2 ++ (putL Q 1 ++ (putL E 2 ++ (putL F 2 ++ (putL len 8 ++ (putL d 8 ++ (pl ++ r))))))))) := by rw [hr0]; exact put_cut.2
  have d3 : b.drop 3 = putL s 8 ++ (putL N 4 ++ (putL B 2 ++ (putL Q 1 ++ (putL E 2 ++ (putL F 2 ++ (putL len 8 ++ (putL d 8 ++ (pl ++ r)))))))) := by rw [show 3 = 2 + 1 from rfl, ← List.drop_drop, d2]; exact put_cut.2
  have d11 : b.drop 11 = putL N 4 ++ (putL B 2 ++ (putL Q 1 ++ (putL E 2 ++ (putL F 2 ++ (putL len 8 ++ (putL d 8 ++ (pl ++ r))))))) := by rw [show 11 = 3 + 8 from rfl, ← List.drop_drop, d3]; exact put_cut.2
  have d15 : b.drop 15 = putL B 2 ++ (putL Q 1 ++ (putL E 2 ++ (putL F 2 ++ (putL len 8 ++ (putL d 8 ++ (pl ++ r)))))) := by rw [show 15 = 11 + 4 from rfl, ← List.drop_drop, d11]; exact put_cut.2
  have d17 : b.drop 17 = putL Q 1 ++ (putL E 2 ++ (putL F 2 ++ (putL len 8 ++ (putL d 8 ++ (pl ++ r))))) := by rw [show 17 = 15 + 2 from rfl, ← List.drop_drop, d15]; exact put_cut.2
  have d18 : b.drop 18 = putL E 2 ++ (putL F 2 ++ (putL len 8 ++ (putL d 8 ++ (pl ++ r)))) := by rw [show 18 = 17 + 1 from rfl, ← List.drop_drop, d17]; exact put_cut.2
  have d20 : b.drop 20 = putL F 2 ++ (putL len 8 ++ (putL d 8 ++ (pl ++ r))) := by rw [show 20 = 18 + 2 from rfl, ← List.drop_drop, d18]; exact put_cut.2
  have d22 : b.drop 22 = putL len 8 ++ (putL d 8 ++ (pl ++ r)) := by rw [show 22 = 20 + 2 from rfl, ← List.drop_drop, d20]; exact put_cut.2
  have d30 : b.drop 30 = putL d 8 ++ (pl ++ r) := by rw [show 30 = 22 + 8 from rfl, ← List.drop_drop, d22]; exact put_cut.2
  have d38 : b.drop 38 = pl ++ r := by rw [show 38 = 30 + 8 from rfl, ← List.drop_drop, d30]; exact put_cut.2
  have e0 : getN (mid b 0 2) = 16716 := by rw [mid, List.drop_zero, hr0, put_cut.1]; exact getN_putL (by omega) (by omega)
  have e2 : b.getD 2 0 = 1 := by
    have : (b.drop 2)[0]? = some 1 := by rw [d2, putL_one 1 (by omega)]; rfl
    rw [List.getElem?_drop] at this
    simp only [List.getD]; rw [show 2 + 0 = 2 from rfl] at this; rw [this]; rfl
  have e3 : getN (mid b 3 8) = s := by rw [mid, d3, put_cut.1]; exact getN_putL (by omega) hs
  have e11 : getN (mid b 11 4) = N := by rw [mid, d11, put_cut.1]; exact getN_putL (by omega) (by omega)
  have e15 : getN (mid b 15 2) = B := by rw [mid, d15, put_cut.1]; exact getN_putL (by omega) (by omega)
  have e17 : getN (mid b 17 1) = Q := by rw [mid, d17, put_cut.1]; exact getN_putL (by omega) (by omega)
  have e18 : getN (mid b 18 2) = E := by rw [mid, d18, put_cut.1]; exact getN_putL (by omega) (by omega)
  have e20 : getN (mid b 20 2) = F := by rw [mid, d20, put_cut.1]; exact getN_putL (by omega) (by omega)
  have e22 : getN (mid b 22 8) = len := by rw [mid, d22, put_cut.1]; exact getN_putL (by omega) (by omega)
  have e30 : getN (mid b 30 8) = d := by rw [mid, d30, put_cut.1]; exact getN_putL (by omega) hd
  have e22' : wrap64 ((getN (mid b 22 8) : Nat) : Int) = (len : Int) := by rw [e22]; exact IntWalk.wrap64_in _ ⟨by omega, by omega⟩
  have e38 : mid b 38 B = pl := by rw [mid, d38, List.take_append_of_le_length (by omega), List.take_of_length_le (by omega)]
  have hmf : mayF b = true := by unfold mayF; rw [e11, e15, e17, e18, e20, e22']; exact hmay
  refine ⟨?_, e3, e11, e15, e17, e18, e20, e22', e30, e38, hlen⟩
  unfold fErr
  rw [if_neg (by omega), if_neg (by omega), if_neg (by simpa using e2), if_neg (by rw [hmf]; simp), if_neg (by omega), if_neg (by rw [hr]; simp)]
end Go.Proofs.Ytopfpadfjfmmiaa
