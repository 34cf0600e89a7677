/- What Encode says of any packet. -/
import Derived.Test.YtopfpadfjfmmiaaFramePk
set_option linter.unusedVariables false
set_option linter.unusedSimpArgs false
namespace Go.Proofs.Ytopfpadfjfmmiaa
open Go.RowKit

def encK (N B Q E F len : Int) (pl : List UInt8) : Nat := if mayH N B Q E F len = false then 1 else if (pl.length : Int) ≠ B then 7 else 0
def encBs (se id : UInt64) (N B Q E F len : Int) (pl : List UInt8) : List UInt8 :=
  if encK N B Q E F len pl = 0 then sealL (headL se.toNat N.toNat B.toNat Q.toNat E.toNat F.toNat len.toNat id.toNat ++ pl) else []
theorem encK_cases (N B Q E F len : Int) (pl : List UInt8) : (mayH N B Q E F len = false ∧ encK N B Q E F len pl = 1) ∨ (mayH N B Q E F len = true ∧ (pl.length : Int) ≠ B ∧ encK N B Q E F len pl = 7) ∨
    (mayH N B Q E F len = true ∧ (pl.length : Int) = B ∧ encK N B Q E F len pl = 0) := by
  unfold encK
  cases h : mayH N B Q E F len
  · exact .inl ⟨rfl, by simp⟩
  by_cases hB : (pl.length : Int) ≠ B
  · exact .inr (.inl ⟨rfl, hB, by simp [hB]⟩)
  · exact .inr (.inr ⟨rfl, by omega, by simp [hB]⟩)
theorem encBs_no {se id : UInt64} {N B Q E F len : Int} {pl : List UInt8} (h : encK N B Q E F len pl ≠ 0) : encBs se id N B Q E F len pl = [] := if_neg h
/-- What may be is numbers from 0 on. -/
theorem mayH_nat {N B Q E F len : Int} (h : mayH N B Q E F len = true) : ∃ n b q e f l : Nat, N = n ∧ B = b ∧ Q = q ∧ E = e ∧ F = f ∧ len = l := by
  obtain ⟨hm0, hl0, hl1⟩ := mayH_bd h
  obtain ⟨hN1, hN2, hB1, hB2, hQ1, hQ2, hE1, hE2, hF1, hF2, -⟩ := may_bd hm0
  exact ⟨N.toNat, B.toNat, Q.toNat, E.toNat, F.toNat, len.toNat, by omega, by omega, by omega, by omega, by omega, by omega⟩
theorem Fresh.nil {w w' : World} (h : Below w.heap.size w w') : Fresh w w' (.slice none 0 0) [] := ⟨Row.nil, h, fun k hk => by simp [Value.ownBlock] at hk⟩
section
variable (se id : UInt64) (N B Q E F len : Int) (A : Option Addr) (pl : List UInt8) (c : Nat) (w : World) (hm : c ≤ maxLen) (hc : pl.length ≤ c) (hr : RdL Kd.byte (· < w.heap.size) w A pl)
include hm hc hr
theorem fenc_any (gc gt : Nat) (hgc : w.heap[gc]? = some (.cells #[.pointer (some ⟨gt, 0, none⟩)] 62 (0, 0))) (ht : TabAt w gt 256) :
    Calls Try.prog 14 #[.pointer (some ⟨gc, 0, none⟩), .agg #[.int .u64 (se.toNat : Int), .int .i64 N, .int .i64 B, .int .i64 Q, .int .i64 E, .int .i64 F, .int .i64 len, .int .u64 (id.toNat : Int), .slice A pl.length c]] w fun e w' =>
      ∃ v, e = .returned (.tuple #[v, .int .i64 (encK N B Q E F len pl : Int)]) ∧ Fresh w w' v (encBs se id N B Q E F len pl) := by
  rcases encK_cases N B Q E F len pl with ⟨h1, hk⟩ | ⟨h1, h2, hk⟩ | ⟨h1, h2, hk⟩
  · rw [encBs_no (by omega), hk]
    exact (fenc_bad _ _ _ _ _ _ _ _ _ _ _ _ w h1).mono fun e w' ⟨h3, h4⟩ => ⟨_, h3, Fresh.nil h4⟩
  · rw [encBs_no (by omega), hk]
    exact (fenc_len _ _ _ _ _ _ _ _ _ _ _ _ w h1 h2).mono fun e w' ⟨h3, h4⟩ => ⟨_, h3, Fresh.nil h4⟩
  · obtain ⟨n, b, q, e, f, l, rfl, rfl, rfl, rfl, rfl, rfl⟩ := mayH_nat h1
    obtain rfl : b = pl.length := by omega
    rw [encBs, if_pos hk, hk]
    simp only [Int.toNat_natCast]
    exact fenc_yes gc gt se id n _ q e f l A pl c _ w hgc ht h1 rfl hm hc hr (fun _ h => h)
theorem renc_any :
    Calls Try.prog 15 #[.agg #[.int .u64 (se.toNat : Int), .int .i64 N, .int .i64 B, .int .i64 Q, .int .i64 E, .int .i64 F, .int .i64 len, .int .u64 (id.toNat : Int), .slice A pl.length c]] w fun e w' =>
      ∃ v, e = .returned (.tuple #[v, .int .i64 (encK N B Q E F len pl : Int)]) ∧ Fresh w w' v (encBs se id N B Q E F len pl) := by
  rcases encK_cases N B Q E F len pl with ⟨h1, hk⟩ | ⟨h1, h2, hk⟩ | ⟨h1, h2, hk⟩
  · rw [encBs_no (by omega), hk]
    exact (renc_bad _ _ _ _ _ _ _ _ _ _ _ w h1).mono fun e w' ⟨h3, h4⟩ => ⟨_, h3, Fresh.nil h4⟩
  · rw [encBs_no (by omega), hk]
    exact (renc_len _ _ _ _ _ _ _ _ _ _ _ w h1 h2).mono fun e w' ⟨h3, h4⟩ => ⟨_, h3, Fresh.nil h4⟩
  · obtain ⟨n, b, q, e, f, l, rfl, rfl, rfl, rfl, rfl, rfl⟩ := mayH_nat h1
    obtain rfl : b = pl.length := by omega
    rw [encBs, if_pos hk, hk]
    simp only [Int.toNat_natCast]
    exact renc_yes se id n _ q e f l A pl c _ w h1 rfl hm hc hr (fun _ h => h)
end
theorem encBs_yes {se id : UInt64} {b : List UInt8} {N B Q E F len : Int} {pl : List UInt8} (h0 : encK N B Q E F len pl = 0) (hb : encBs se id N B Q E F len pl = b) : ∃ n q e f l : Nat, N = n ∧ B = pl.length ∧ Q = q ∧ E = e ∧ F = f ∧ len = l ∧ mayH n pl.length q e f l = true ∧ b = sealL (headL se.toNat n pl.length q e f l id.toNat ++ pl) := by
  rcases encK_cases N B Q E F len pl with ⟨h1, hk⟩ | ⟨h1, h2, hk⟩ | ⟨h1, h2, hk⟩
  · omega
  · omega
  obtain ⟨n, b, q, e, f, l, rfl, rfl, rfl, rfl, rfl, rfl⟩ := mayH_nat h1
  obtain rfl : b = pl.length := by omega
  refine ⟨n, q, e, f, l, rfl, rfl, rfl, rfl, rfl, rfl, h1, ?_⟩
  rw [← hb, encBs, if_pos hk]
  simp only [Int.toNat_natCast]
theorem encBs_len {se id : UInt64} {b : List UInt8} {N B Q E F len : Int} {pl : List UInt8} (h0 : encK N B Q E F len pl = 0) (hb : encBs se id N B Q E F len pl = b) : b.length = 42 + pl.length := by
  obtain ⟨n, q, e, f, l, -, -, -, -, -, -, hmay, hb⟩ := encBs_yes h0 hb
  exact (enc_par se.toNat_lt id.toNat_lt hmay rfl hb).2.2.2.2.2.2.2.2.2.2
/-- Parse of what Encode said. -/
theorem fpar_any (se id : UInt64) (N B Q E F len : Int) (pl b : List UInt8) (h0 : encK N B Q E F len pl = 0) (hb : encBs se id N B Q E F len pl = b) (A : Option Addr) (c : Nat) (w : World) (gc gt : Nat) (hgc : w.heap[gc]? = some (.cells #[.pointer (some ⟨gt, 0, none⟩)] 62 (0, 0))) (ht : TabAt w gt 256)
    (hm : c ≤ maxLen) (hc : b.length ≤ c) (h : RdL Kd.byte (· < w.heap.size) w A b) :
    Calls Try.prog 11 #[.pointer (some ⟨gc, 0, none⟩), .slice A b.length c] w fun e w' =>
      ∃ A' c', e = .returned (.tuple #[.agg #[.int .u64 (se.toNat : Int), .int .i64 N, .int .i64 B, .int .i64 Q, .int .i64 E, .int .i64 F, .int .i64 len, .int .u64 (id.toNat : Int), .slice A' pl.length c'], .int .i64 0]) ∧ pl.length ≤ c' ∧ c' ≤ maxLen ∧
        RdL Kd.byte (fun k => w.heap.size ≤ k ∧ k < w'.heap.size) w' A' pl ∧ Below w.heap.size w w' := by
  obtain ⟨n, q, e, f, l, rfl, rfl, rfl, rfl, rfl, rfl, hmay, hb⟩ := encBs_yes h0 hb
  exact fpar_enc gc gt se.toNat n pl.length q e f l id.toNat pl A b c w hgc ht hb se.toNat_lt id.toNat_lt hmay rfl hm hc h
theorem Fresh.own {w w' : World} {v : Value} {bs : List UInt8} (h : Fresh w w' v bs) : ∀ k, v.ownBlock = some k → w.heap.size ≤ k ∧ k < w'.heap.size := fun k hk => ⟨h.2.2 k hk, h.1.lt hk⟩
end Go.Proofs.Ytopfpadfjfmmiaa
