/- FrameParses, walked: what both readings say of any bytes; the frame of what was read is these bytes. -/
import Derived.Test.YtopfpadfjfmmiaaFrameOrder
import Derived.Test.YtopfpadfjfmmiaaFrameRpar4
set_option linter.unusedVariables false
set_option linter.unusedSimpArgs false
namespace Go.Proofs.Ytopfpadfjfmmiaa
open Go.RowKit

theorem putL_snoc' (n : Nat) : ∀ k, putL n (k + 1) = putL (n / 256) k ++ [UInt8.ofNat n]
  | 0 => by simp [putL]
  | k + 1 => by
    rw [putL, putL_snoc' n k, putL, Nat.div_div_eq_div_mul, ← Nat.pow_succ', List.cons_append]
theorem putL_getN (k : Nat) : ∀ l : List UInt8, l.length = k → k ≤ 8 → putL (getN l) k = l := by
  induction k with
  | zero => intro l hl _; rw [List.eq_nil_of_length_eq_zero hl]; rfl
  | succ k ih =>
    intro l hl hk
    rcases List.eq_nil_or_concat l with rfl | ⟨r, x, rfl⟩
    · simp at hl
    rw [List.concat_eq_append] at hl ⊢
    have hr : r.length = k := by simpa using hl
    have hs : getN r < 256 ^ k := by
      rcases getN_small r with h | h
      · rwa [hr] at h
      · omega
    have hp : 256 ^ k ≤ 256 ^ 7 := Nat.pow_le_pow_right (by omega) (by omega)
    have hx := x.toNat_lt
    have e : getN (r ++ [x]) = getN r * 256 + x.toNat := by
      rw [getN_snoc, Nat.mod_eq_of_lt]
      have : (256 : Nat) ^ 7 = 72057594037927936 := by decide
      omega
    rw [e, putL_snoc', show (getN r * 256 + x.toNat) / 256 = getN r by omega, ih r hr (by omega)]
    congr 2
    apply UInt8.toNat_inj.1
    rw [UInt8.toNat_ofNat']
    omega
theorem take_mid (b : List UInt8) (p n : Nat) : b.take (p + n) = b.take p ++ mid b p n := by rw [List.take_add]; rfl
theorem mid_put {b : List UInt8} {p n : Nat} (h : p + n ≤ b.length) (hn : n ≤ 8) : mid b p n = putL (getN (mid b p n)) n := (putL_getN n _ (mid_len h) hn).symm
theorem wrap_pos {v : Nat} (hv : v < 18446744073709551616) (h : 0 ≤ wrap64 (v : Int)) : wrap64 (v : Int) = (v : Int) := by
  by_cases h1 : v < 9223372036854775808
  · exact IntWalk.wrap64_in _ ⟨by omega, by omega⟩
  · exfalso
    have : wrap64 (v : Int) = (v : Int) - 18446744073709551616 := by
      rw [show (v : Int) = ((v : Int) - 18446744073709551616) + 18446744073709551616 by omega]
      have e := IntWalk.wrap64_in ((v : Int) - 18446744073709551616) ⟨by omega, by omega⟩
      unfold wrap64 at *
      omega
    omega
/-- The frame of what was read. -/
theorem par_enc {b : List UInt8} (h : fErr b = 0) : encK (getN (mid b 11 4) : Nat) (getN (mid b 15 2) : Nat) (getN (mid b 17 1) : Nat) (getN (mid b 18 2) : Nat) (getN (mid b 20 2) : Nat) (wrap64 ((getN (mid b 22 8) : Nat) : Int)) (mid b 38 (getN (mid b 15 2))) = 0 ∧
    encBs (UInt64.ofNat (getN (mid b 3 8))) (UInt64.ofNat (getN (mid b 30 8))) (getN (mid b 11 4) : Nat) (getN (mid b 15 2) : Nat) (getN (mid b 17 1) : Nat) (getN (mid b 18 2) : Nat) (getN (mid b 20 2) : Nat) (wrap64 ((getN (mid b 22 8) : Nat) : Int)) (mid b 38 (getN (mid b 15 2))) = b := by
  obtain ⟨hz, _⟩ | ⟨hz, _⟩ | ⟨hz, _⟩ | ⟨hz, _⟩ | ⟨hz, _⟩ | ⟨hz, _⟩ | ⟨-, h42, h5, h6, hmay, h7, h8⟩ := fErr_cases b
  · omega
  · omega
  · omega
  · omega
  · omega
  · omega
  obtain ⟨B, hB⟩ : ∃ B, B = getN (mid b 15 2) := ⟨_, rfl⟩
  have hlp : (mid b 38 (getN (mid b 15 2))).length = getN (mid b 15 2) := mid_len (by omega)
  have hmy : mayH (getN (mid b 11 4) : Nat) (getN (mid b 15 2) : Nat) (getN (mid b 17 1) : Nat) (getN (mid b 18 2) : Nat) (getN (mid b 20 2) : Nat) (wrap64 ((getN (mid b 22 8) : Nat) : Int)) = true := hmay
  have hk : encK (getN (mid b 11 4) : Nat) (getN (mid b 15 2) : Nat) (getN (mid b 17 1) : Nat) (getN (mid b 18 2) : Nat) (getN (mid b 20 2) : Nat) (wrap64 ((getN (mid b 22 8) : Nat) : Int)) (mid b 38 (getN (mid b 15 2))) = 0 := by
    unfold encK
    rw [hmy, if_neg (by simp), if_neg (by rw [hlp]; simp)]
  refine ⟨hk, ?_⟩
  have hl := wrap_pos (getN_lt _) (mayH_bd hmy).2.1
  rw [encBs, if_pos hk, hl]
  simp only [Int.toNat_natCast]
  rw [UInt64.toNat_ofNat', UInt64.toNat_ofNat', Nat.mod_eq_of_lt (getN_lt _), Nat.mod_eq_of_lt (getN_lt _)]
  have h21 : mid b 2 1 = putL 1 1 := by
    rw [putL_one 1 (by omega)]
    have : b[2]? = some 1 := by
      rw [List.getElem?_eq_getElem (by omega)]
      congr 1
      rw [← h6]; simp [List.getD, show 2 < b.length by omega]
    apply List.ext_getElem?
    intro i
    unfold mid
    rw [List.getElem?_take]
    match i with
    | 0 => simpa using this
    | i + 1 => simp
  have e38 : b.take 38 = headL (getN (mid b 3 8)) (getN (mid b 11 4)) (getN (mid b 15 2)) (getN (mid b 17 1)) (getN (mid b 18 2)) (getN (mid b 20 2)) (getN (mid b 22 8)) (getN (mid b 30 8)) := by
    rw [fieldsL, ← h5, ← h21, ← mid_put (by omega) (by omega), ← mid_put (by omega) (by omega), ← mid_put (by omega) (by omega), ← mid_put (by omega) (by omega), ← mid_put (by omega) (by omega), ← mid_put (by omega) (by omega), ← mid_put (by omega) (by omega), ← mid_put (by omega) (by omega), ← mid_put (by omega) (by omega)]
    rw [show 38 = 30 + 8 from rfl, take_mid, show 30 = 22 + 8 from rfl, take_mid, show 22 = 20 + 2 from rfl, take_mid, show 20 = 18 + 2 from rfl, take_mid, show 18 = 17 + 1 from rfl, take_mid, show 17 = 15 + 2 from rfl, take_mid, show 15 = 11 + 4 from rfl, take_mid, show 11 = 3 + 8 from rfl, take_mid, show 3 = 2 + 1 from rfl, take_mid, show 2 = 0 + 2 from rfl, take_mid, List.take_zero]
  rw [← e38, ← take_mid, ← hB, show 38 + B = b.length - 4 by omega]
  unfold rightB at h8
  rw [Bool.and_eq_true, beq_iff_eq] at h8
  exact h8.2
theorem rpar_err (A : Option Addr) (b : List UInt8) (c : Nat) (w : World) (hm : c ≤ maxLen) (hc : b.length ≤ c) (hl : b.length ≤ 100000) (h : RdL Kd.byte (· < w.heap.size) w A b) (he : fErr b ≠ 0) :
    Calls Try.prog 12 #[.slice A b.length c] w fun e w' => e = .returned (.tuple #[zPk, .int .i64 (fErr b : Int)]) ∧ Below w.heap.size w w' := by
  rcases fErr_cases b with ⟨h0, h1⟩ | ⟨h0, h1, h2⟩ | ⟨h0, h1, h2, h3⟩ | ⟨h0, h1, h2, h3, h4⟩ | ⟨h0, h1, h2, h3, h4, h5⟩ | ⟨h0, h1, h2, h3, h4, h5, h6⟩ | ⟨h0, _⟩
  · rw [h0]; exact rpar4 A b c w hm hc hl h h1
  · rw [h0]; exact rpar5 A b c w hm hc hl h h1 h2
  · rw [h0]; exact rpar6 A b c w hm hc hl h h1 h2 h3
  · rw [h0]; exact rpar1 A b c w hm hc hl h h1 h2 h3 h4
  · rw [h0]; exact rpar7 A b c w hm hc hl h h1 h2 h3 h4 h5
  · rw [h0]; exact rpar8 A b c w hm hc hl h h1 h2 h3 h4 h5 h6
  · exact absurd h0 he
/-- What is read of bytes: either way. -/
theorem par_any (b : List UInt8) (hl : b.length ≤ 100000) : ∃ (se id : UInt64) (N B Q E F len : Int) (pl : List UInt8),
    (∀ (gc gt : Nat) (A : Option Addr) (c : Nat) (w : World), w.heap[gc]? = some (.cells #[.pointer (some ⟨gt, 0, none⟩)] 62 (0, 0)) → TabAt w gt 256 → c ≤ maxLen → b.length ≤ c → RdL Kd.byte (· < w.heap.size) w A b →
      Calls Try.prog 11 #[.pointer (some ⟨gc, 0, none⟩), .slice A b.length c] w fun e w' => ∃ A' c', e = .returned (.tuple #[.agg #[.int .u64 (se.toNat : Int), .int .i64 N, .int .i64 B, .int .i64 Q, .int .i64 E, .int .i64 F, .int .i64 len, .int .u64 (id.toNat : Int), .slice A' pl.length c'], .int .i64 (fErr b : Int)]) ∧ pl.length ≤ c' ∧ c' ≤ maxLen ∧ RdL Kd.byte (fun k => w.heap.size ≤ k ∧ k < w'.heap.size) w' A' pl ∧ Below w.heap.size w w') ∧
    (∀ (A : Option Addr) (c : Nat) (w : World), c ≤ maxLen → b.length ≤ c → RdL Kd.byte (· < w.heap.size) w A b →
      Calls Try.prog 12 #[.slice A b.length c] w fun e w' => ∃ A' c', e = .returned (.tuple #[.agg #[.int .u64 (se.toNat : Int), .int .i64 N, .int .i64 B, .int .i64 Q, .int .i64 E, .int .i64 F, .int .i64 len, .int .u64 (id.toNat : Int), .slice A' pl.length c'], .int .i64 (fErr b : Int)]) ∧ pl.length ≤ c' ∧ c' ≤ maxLen ∧ RdL Kd.byte (fun k => w.heap.size ≤ k ∧ k < w'.heap.size) w' A' pl ∧ Below w.heap.size w w') ∧
    (fErr b = 0 → encK N B Q E F len pl = 0 ∧ encBs se id N B Q E F len pl = b) := by
  by_cases he : fErr b = 0
  · obtain ⟨e1, e2⟩ := par_enc he
    obtain ⟨hz, _⟩ | ⟨hz, _⟩ | ⟨hz, _⟩ | ⟨hz, _⟩ | ⟨hz, _⟩ | ⟨hz, _⟩ | ⟨-, h42, h5, h6, hmay, h7, h8⟩ := fErr_cases b
    · omega
    · omega
    · omega
    · omega
    · omega
    · omega
    have lp : (mid b 38 (getN (mid b 15 2))).length = getN (mid b 15 2) := mid_len (by omega)
    have t1 : ((UInt64.ofNat (getN (mid b 3 8))).toNat) = getN (mid b 3 8) := by rw [UInt64.toNat_ofNat', Nat.mod_eq_of_lt (getN_lt _)]
    have t2 : ((UInt64.ofNat (getN (mid b 30 8))).toNat) = getN (mid b 30 8) := by rw [UInt64.toNat_ofNat', Nat.mod_eq_of_lt (getN_lt _)]
    refine ⟨_, _, _, _, _, _, _, _, _, fun gc gt A c w hg ht hm hc hr => ?_, fun A c w hm hc hr => ?_, fun _ => ⟨e1, e2⟩⟩
    · rw [t1, t2, he, lp]
      exact fpar0 gc gt A b c w hg ht hm hc hl hr h42 h5 h6 hmay h7 h8
    · rw [t1, t2, he, lp]
      exact rpar0 A b c w hm hc hl hr h42 h5 h6 hmay h7 h8
  · refine ⟨0, 0, 0, 0, 0, 0, 0, 0, [], fun gc gt A c w hg ht hm hc hr => ?_, fun A c w hm hc hr => ?_, fun h => absurd h he⟩
    · exact (fpar_err gc gt A b c w hg ht hm hc hl hr he).mono fun e w' ⟨h1, h2⟩ => ⟨none, 0, h1, by simp, by unfold maxLen; omega, RdL.nil, h2⟩
    · exact (rpar_err A b c w hm hc hl hr he).mono fun e w' ⟨h1, h2⟩ => ⟨none, 0, h1, by simp, by unfold maxLen; omega, RdL.nil, h2⟩
set_option maxRecDepth 100000 in
set_option maxHeartbeats 2000000 in
theorem Parses_calls (A : Option Addr) (b : List UInt8) (c : Nat) (w : World) (hm : c ≤ maxLen) (hc : b.length ≤ c) (hr : RdL Kd.byte (· < w.heap.size) w A b) :
    Calls Try.prog 3 #[.slice A b.length c] w fun e w' => e = .returned (.bool true) ∧ Below w.heap.size w w' := by
  refine cps fun R hR => ?_
  have Hr := hide hr
  have hm' := hm
  unfold maxLen at hm'
  clear hr
  by_cases h5 : 500 < b.length
  · generalize b.length = n at *
    go_enter Try.func3, Try.ntmps3
    go_wp2_with fail
    refine (fspeaks_calls w).mono ?_
    rintro e w1 ⟨rfl, hb1⟩
    go_wp2_with fail
    exact hR.out _ _ ⟨rfl, hb1⟩
  obtain ⟨se, id, N, B, Q, E, F, len, pl, hP, hQ, hM⟩ := par_any b (by omega)
  have HP := hide hP
  have HQ := hide hQ
  have HM := hide hM
  have hke : fErr b ≤ 8 := by rcases fErr_cases b with ⟨h, _⟩ | ⟨h, _⟩ | ⟨h, _⟩ | ⟨h, _⟩ | ⟨h, _⟩ | ⟨h, _⟩ | ⟨h, _⟩ <;> omega
  have HF := hide (fun (A' : Option Addr) (c' : Nat) (y : World) (hm : c' ≤ maxLen) (hc : pl.length ≤ c') (hy : RdL Kd.byte (· < y.heap.size) y A' pl) gc gt => fenc_any se id N B Q E F len A' pl c' y hm hc hy gc gt)
  clear hP hQ hM
  generalize fErr b = k at *
  generalize hbl : b.length = n at *
  have Hbl := hide hbl
  generalize hpl : pl.length = m at *
  have Hpl := hide hpl
  clear hbl hpl
  go_enter Try.func3, Try.ntmps3
  go_wp2_with fail
  refine (fspeaks_calls w).mono ?_
  rintro e w1 ⟨rfl, hb1⟩
  go_wp2_with fail
  refine (fnew_calls w1).mono ?_
  rintro e w3 ⟨g, gt, rfl, hg, htab, hb3, -, -, hg1, ht1⟩
  have Hb3 := hide (hb1.trans (hb3.mono hb1.size))
  have Hg := hide hg
  have Ht := hide htab
  clear hg htab hb3 hb1
  have up := hide (fun (y : World) (hy : Below w3.heap.size w3 y) => (⟨(hy.block g hg1).trans Hg.out, Ht.out.keep (hy.block gt ht1), (Hr.out.below (Hb3.out.trans (hy.mono Hb3.out.size))).mono fun k hk => Nat.lt_of_lt_of_le hk (Hb3.out.trans (hy.mono Hb3.out.size)).size⟩ :
    y.heap[g]? = some (.cells #[.pointer (some ⟨gt, 0, none⟩)] 62 (0, 0)) ∧ TabAt y gt 256 ∧ RdL Kd.byte (· < y.heap.size) y A b))
  obtain ⟨u1, u2, u3⟩ := up.out w3 (Below.refl _ _)
  go_wp2_with fail
  refine (HP.out g gt A c w3 u1 u2 hm hc u3).mono ?_
  clear u1 u2 u3
  rintro e w4 ⟨A4, c4, rfl, hc4, hm4, hr4, hb4⟩
  obtain ⟨W4, hW4, hbW4, hWs4, hWh4⟩ := pbox' w4 (.int .u64 (se.toNat : Int)) (.int .i64 N) (.int .i64 B) (.int .i64 Q) (.int .i64 E) (.int .i64 F) (.int .i64 len) (.int .u64 (id.toNat : Int)) (.slice A4 m c4) 32
  have HW4 := hide hW4
  have HWh4 := hide hWh4
  have Hb4 := hide (hb4.trans (hbW4.mono hb4.size))
  have Hr4 := hide ((hr4.keep fun k hk => hbW4.block k hk.2).mono (S' := (· < W4.heap.size)) fun k hk => by omega)
  clear hW4 hWh4 hr4
  go_upto_region 7 with fail
  rw [← HW4.out]
  obtain ⟨u1, u2, u3⟩ := up.out W4 Hb4.out
  go_wp2_with fail
  refine (HQ.out A c W4 hm hc u3).mono ?_
  clear u1 u2 u3
  rintro e w5 ⟨A5, c5, rfl, hc5, hm5, hr5, hb5⟩
  obtain ⟨W5, hW5, hbW5, hWs5, hWh5⟩ := pbox' w5 (.int .u64 (se.toNat : Int)) (.int .i64 N) (.int .i64 B) (.int .i64 Q) (.int .i64 E) (.int .i64 F) (.int .i64 len) (.int .u64 (id.toNat : Int)) (.slice A5 m c5) 32
  have HW5 := hide hW5
  have HWh5 := hide hWh5
  have b45 := hb5.trans (hbW5.mono hb5.size)
  have Hb5 := hide (Hb4.out.trans (b45.mono Hb4.out.size))
  have Hr5 := hide ((hr5.keep fun k hk => hbW5.block k hk.2).mono (S' := (· < W5.heap.size)) fun k hk => by omega)
  have Hr45 := hide ((Hr4.out.below b45).mono (S' := (· < W5.heap.size)) fun k hk => Nat.lt_of_lt_of_le hk b45.size)
  have HWh45 := hide ((b45.block w4.heap.size (by omega)).trans HWh4.out)
  have hs := hide (psame_calls (se.toNat : Int) (id.toNat : Int) N B Q E F len A4 A5 pl m c4 c5 _ W5 Hpl.out Hr45.out Hr5.out (fun k hk => hk))
  clear hW5 hWh5 hr5 b45
  go_upto_region 8 with fail
  rw [← HW5.out]
  obtain ⟨c0, c1, c2, c3, c4', c5', c6, c7, c8⟩ := cells9 HWh45.out
  obtain ⟨d0, d1, d2, d3, d4, d5, d6, d7, d8⟩ := cells9 HWh5.out
  go_wp2_with fail
  refine hs.out.mono ?_
  rintro e w6 ⟨rfl, hb6⟩
  have Hb6 := hide (Hb5.out.trans (hb6.mono Hb5.out.size))
  clear c0 c1 c2 c3 c4' c5' c6 c7 c8 d0 d1 d2 d3 d4 d5 d6 d7 d8 hs
  by_cases hk0 : ¬ k = 0
  · go_wp2_with fail
    exact hR.out _ _ ⟨rfl, Hb3.out.trans (Hb6.out.mono Hb3.out.size)⟩
  obtain rfl : k = 0 := by omega
  obtain ⟨ek, eb⟩ := HM.out rfl
  have HWh6 := hide ((hb6.block w4.heap.size (by have := Hb5.out.size; have := Hb4.out.size; have h1 := (Array.getElem?_eq_some_iff.1 HWh45.out).1; exact h1)).trans HWh45.out)
  obtain ⟨c0, c1, c2, c3, c4', c5', c6, c7, c8⟩ := cells9 HWh6.out
  obtain ⟨u1, u2, u3⟩ := up.out w6 Hb6.out
  have hE := HF.out A4 c4 w6 hm4 hc4 ((Hr45.out.below hb6).mono fun k hk => Nat.lt_of_lt_of_le hk hb6.size) g gt u1 u2
  rw [ek, eb] at hE
  have HE := hide hE
  clear hE ek eb u1 u2 u3 hb6
  go_wp2_with fail
  refine HE.out.mono ?_
  rintro e w7 ⟨v7, rfl, hf7⟩
  have hb7 := hf7.2.1
  obtain ⟨A7, c7', rfl, -, -⟩ := hf7.1.shape
  have k1 := run_str (P := Try.prog) (w := w7) Try.underlying22 Try.underlying5 Try.underlying9 hf7.1.src c7'
  have k2 := run_str (P := Try.prog) (w := w7) Try.underlying22 Try.underlying5 Try.underlying9 (up.out w7 (Hb6.out.trans (hb7.mono Hb6.out.size))).2.2.srcB c
  have hbe := hide (Hb3.out.trans ((Hb6.out.trans (hb7.mono Hb6.out.size)).mono Hb3.out.size))
  rw [List.length_map] at *
  rw [Hbl.out] at *
  clear hf7 hb7 c0 c1 c2 c3 c4' c5' c6 c7 c8 HE
  generalize bstr b = str at k1 k2
  go_wp2_with fail
  exact hR.out _ _ ⟨rfl, hbe.out⟩
end Go.Proofs.Ytopfpadfjfmmiaa
