/- FrameEncodes, walked. -/
import Derived.Test.YtopfpadfjfmmiaaFrameAny
set_option linter.unusedVariables false
set_option linter.unusedSimpArgs false
namespace Go.Proofs.Ytopfpadfjfmmiaa
open Go.RowKit

/-- Bytes that are changed in their own blocks alone. -/
def UB (S : Nat → Prop) (u : Value) (n : Nat) (w wr : World) : Prop := Ch S w wr ∧ WB S wr u n
theorem UB.set {S : Nat → Prop} {u : Value} {n : Nat} {w wr : World} (h : UB S u n w wr) {g' : Nat} (hs : S g') (j : Nat) (y : UInt8) : UB S u n w (wr.setCell ⟨g', j, none⟩ (.int .u8 (y.toNat : Int))) :=
  ⟨h.1.trans (Ch.set wr ⟨g', j, none⟩ _) fun b hb => .inl (by simp at hb; subst hb; exact hs), h.2.set g' j y⟩
set_option maxRecDepth 100000 in
set_option maxHeartbeats 1000000 in
theorem Encodes_calls (se id : UInt64) (N B Q E F len : Int) (A : Option Addr) (pl : List UInt8) (c : Nat) (w : World) (hm : c ≤ maxLen) (hc : pl.length ≤ c) (hr : RdL Kd.byte (· < w.heap.size) w A pl) :
    Calls Try.prog 4 #[.agg #[.int .u64 (se.toNat : Int), .int .i64 N, .int .i64 B, .int .i64 Q, .int .i64 E, .int .i64 F, .int .i64 len, .int .u64 (id.toNat : Int), .slice A pl.length c]] w fun e w' => e = .returned (.bool true) ∧ Below w.heap.size w w' := by
  refine cps fun R hR => ?_
  obtain ⟨W, hW, hbW, hWs, hWh⟩ := pbox' w (.int .u64 (se.toNat : Int)) (.int .i64 N) (.int .i64 B) (.int .i64 Q) (.int .i64 E) (.int .i64 F) (.int .i64 len) (.int .u64 (id.toNat : Int)) (.slice A pl.length c) 32
  have Hr := hide hr
  have HW := hide hW
  have HWh := hide hWh
  clear hr hW hWh
  have HE := hide (fun (y : World) (hy : RdL Kd.byte (· < y.heap.size) y A pl) gc gt => fenc_any se id N B Q E F len A pl c y hm hc hy gc gt)
  have HF := hide (fun (y : World) (hy : RdL Kd.byte (· < y.heap.size) y A pl) => renc_any se id N B Q E F len A pl c y hm hc hy)
  obtain ⟨km, mb, hkm, Hhi, Hma⟩ : ∃ (km : Int) (mb : Bool), (km == 0) = mb ∧
      Hid (∀ y, Calls Try.prog 16 #[.agg #[.int .u64 (se.toNat : Int), .int .i64 N, .int .i64 B, .int .i64 Q, .int .i64 E, .int .i64 F, .int .i64 len, .int .u64 (id.toNat : Int)]] y fun e w' => e = .returned (.int .i64 km) ∧ Below y.heap.size y w') ∧
      Hid (∀ y, Calls Try.prog 17 #[.agg #[.int .u64 (se.toNat : Int), .int .i64 N, .int .i64 B, .int .i64 Q, .int .i64 E, .int .i64 F, .int .i64 len, .int .u64 (id.toNat : Int)]] y fun e w' => e = .returned (.bool mb) ∧ Below y.heap.size y w') :=
    ⟨_, _, by cases mayH N B Q E F len <;> rfl, hide (fun y => fcheck_calls _ _ N B Q E F len y), hide (fun y => fmay_calls _ _ N B Q E F len y)⟩
  have Hpar := hide (fun (b : List UInt8) h0 hb A1 a1 y gc gt => fpar_any se id N B Q E F len pl b h0 hb A1 a1 y gc gt)
  have Hno := hide (encBs_no (se := se) (id := id) (N := N) (B := B) (Q := Q) (E := E) (F := F) (len := len) (pl := pl))
  generalize encK N B Q E F len pl = k at *
  generalize hbs : encBs se id N B Q E F len pl = bs at *
  have Hbs := hide hbs
  clear hbs
  generalize hn : pl.length = n at *
  have Hn := hide hn
  clear hn
  go_enter Try.func4, Try.ntmps4
  go_wp2_with fail
  rw [← HW.out]
  refine (fspeaks_calls W).mono ?_
  rintro e w1 ⟨rfl, hb1⟩
  have Hh1 := hide ((hb1.block w.heap.size (by omega)).trans HWh.out)
  obtain ⟨c0, c1, c2, c3, c4, c5, c6, c7, c8⟩ := cells9 Hh1.out
  by_cases h5 : 300 < n
  · go_wp2_with fail
    exact hR.out _ _ ⟨rfl, hbW.trans (hb1.mono hbW.size)⟩
  go_wp2_with fail
  clear c0 c1 c2 c3 c4 c5 c6 c7 c8
  refine (fnew_calls w1).mono ?_
  rintro e w2 ⟨g, gt, rfl, hg, htab, hb2, hg0, ht0, hg1, ht1⟩
  have s1 := hb1.size
  have s2 := hb2.size
  have Hg := hide hg
  have Ht := hide htab
  clear hg htab
  have Hb2 := hide (hbW.trans ((hb1.trans (hb2.mono s1)).mono hbW.size))
  have Hh2 := hide ((hb2.block w.heap.size (by omega)).trans Hh1.out)
  obtain ⟨c0, c1, c2, c3, c4, c5, c6, c7, c8⟩ := cells9 Hh2.out
  go_wp2_with fail
  clear c0 c1 c2 c3 c4 c5 c6 c7 c8
  have Hr2 := hide ((Hr.out.keep fun k hk => Hb2.out.block k hk).mono (S' := (· < w2.heap.size)) fun k hk => by omega)
  refine (HE.out w2 Hr2.out g gt Hg.out Ht.out).mono ?_
  rintro e w3 ⟨v1, rfl, hf3⟩
  have hb3 := hf3.2.1
  have s3 := hb3.size
  have Hh3 := hide ((hb3.block w.heap.size (by omega)).trans Hh2.out)
  obtain ⟨c0, c1, c2, c3, c4, c5, c6, c7, c8⟩ := cells9 Hh3.out
  go_wp2_with fail
  clear c0 c1 c2 c3 c4 c5 c6 c7 c8
  have Hr3 := hide ((Hr2.out.keep fun k hk => hb3.block k hk).mono (S' := (· < w3.heap.size)) fun k hk => by omega)
  refine (HF.out w3 Hr3.out).mono ?_
  rintro e w4 ⟨v2, rfl, hf4⟩
  have hb4 := hf4.2.1
  have s4 := hb4.size
  have Hh4 := hide ((hb4.block w.heap.size (by omega)).trans Hh3.out)
  have Hb4 := hide (Hb2.out.trans ((hb3.trans (hb4.mono s3)).mono Hb2.out.size))
  obtain ⟨A1, a1, rfl, hca1, hma1⟩ := hf3.1.shape
  obtain ⟨A2, a2, rfl, hca2, hma2⟩ := hf4.1.shape
  rw [List.length_map] at *
  have Hrow := hide (hf3.1.keep fun k hk => hb4.block k (hf3.1.lt hk))
  have Hrow2 := hide hf4.1
  have Hown := hide hf3.own
  clear hf3 hf4
  have k1 := run_str (P := Try.prog) (w := w4) Try.underlying22 Try.underlying5 Try.underlying9 Hrow.out.src a1
  have k2 := run_str (P := Try.prog) (w := w4) Try.underlying22 Try.underlying5 Try.underlying9 Hrow2.out.src a2
  have k1' : (convert 22 9 (.slice A1 bs.length a1)).run Try.prog w4 = .ok (.string (bstr bs)) w4 := k1
  have k2' : (convert 22 9 (.slice A2 bs.length a2)).run Try.prog w4 = .ok (.string (bstr bs)) w4 := k2
  clear k1 k2
  obtain ⟨c0, c1, c2, c3, c4, c5, c6, c7, -⟩ := cells9 Hh4.out
  have hcv1 : Hid (∀ y, Below w4.heap.size w4 y → (convert 22 9 (.slice A1 bs.length a1)).run Try.prog y = .ok (.string (bstr bs)) y) := hide fun y hy => run_str (P := Try.prog) (w := y) Try.underlying22 Try.underlying5 Try.underlying9 (Hrow.out.keep (w' := y) fun k hk => hy.block k (Hrow.out.lt hk)).src a1
  have hcv2 : Hid (∀ y, Below w4.heap.size w4 y → (convert 22 9 (.slice A2 bs.length a2)).run Try.prog y = .ok (.string (bstr bs)) y) := hide fun y hy => run_str (P := Try.prog) (w := y) Try.underlying22 Try.underlying5 Try.underlying9 (Hrow2.out.keep (w' := y) fun k hk => hy.block k (Hrow2.out.lt hk)).src a2
  generalize hm1 : bs.length = m at *
  have Hm := hide hm1
  clear hm1
  generalize bstr bs = str at k1' k2' hcv1 hcv2
  have hcs : Hid (∀ y, Hid (Below w4.heap.size w4 y) → Hid (Below w4.heap.size w4 y) ∧ y.cell? ⟨w.heap.size, 0, none⟩ = some (.int .u64 (se.toNat : Int)) ∧ y.cell? ⟨w.heap.size, 1, none⟩ = some (.int .i64 N) ∧ y.cell? ⟨w.heap.size, 2, none⟩ = some (.int .i64 B) ∧ y.cell? ⟨w.heap.size, 3, none⟩ = some (.int .i64 Q) ∧
      y.cell? ⟨w.heap.size, 4, none⟩ = some (.int .i64 E) ∧ y.cell? ⟨w.heap.size, 5, none⟩ = some (.int .i64 F) ∧ y.cell? ⟨w.heap.size, 6, none⟩ = some (.int .i64 len) ∧ y.cell? ⟨w.heap.size, 7, none⟩ = some (.int .u64 (id.toNat : Int)) ∧ (convert 22 9 (.slice A1 m a1)).run Try.prog y = .ok (.string str) y ∧ (convert 22 9 (.slice A2 m a2)).run Try.prog y = .ok (.string str) y) := hide (fun y hy => by
    obtain ⟨d0, d1, d2, d3, d4, d5, d6, d7, -⟩ := cells9 ((hy.out.block w.heap.size (by omega)).trans Hh4.out)
    exact ⟨hy, d0, d1, d2, d3, d4, d5, d6, d7, hcv1.out y hy.out, hcv2.out y hy.out⟩)
  go_upto_region 8 with fail
  go_region_held (fun y => Hid (Below w4.heap.size w4 y) ∧ y.cell? ⟨w.heap.size, 0, none⟩ = some (.int .u64 (se.toNat : Int)) ∧ y.cell? ⟨w.heap.size, 1, none⟩ = some (.int .i64 N) ∧ y.cell? ⟨w.heap.size, 2, none⟩ = some (.int .i64 B) ∧ y.cell? ⟨w.heap.size, 3, none⟩ = some (.int .i64 Q) ∧
      y.cell? ⟨w.heap.size, 4, none⟩ = some (.int .i64 E) ∧ y.cell? ⟨w.heap.size, 5, none⟩ = some (.int .i64 F) ∧ y.cell? ⟨w.heap.size, 6, none⟩ = some (.int .i64 len) ∧ y.cell? ⟨w.heap.size, 7, none⟩ = some (.int .u64 (id.toNat : Int)) ∧ (convert 22 9 (.slice A1 m a1)).run Try.prog y = .ok (.string str) y ∧ (convert 22 9 (.slice A2 m a2)).run Try.prog y = .ok (.string str) y)
    (exact hcs.out _ (by repeat (first | assumption | exact hide (Below.refl _ _) | refine held_alloc ?_ | refine held_drew ?_))) (first
    | (go_at_call 16
       refine (Hhi.out _).mono ?_
       rintro e w5 ⟨rfl, hb5⟩
       have hb5' : Hid (Below w4.heap.size w4 w5) := hide (Below.trans (Hid.out (by repeat (first | assumption | exact hide (Below.refl _ _) | refine held_alloc ?_ | refine held_drew ?_))) (hb5.mono (Below.size (Hid.out (by repeat (first | assumption | exact hide (Below.refl _ _) | refine held_alloc ?_ | refine held_drew ?_))))))
       clear hb5)
    | (go_at_call 17
       refine (Hma.out _).mono ?_
       rintro e w6 ⟨rfl, hb6⟩
       have hb6' : Hid (Below w4.heap.size w4 w6) := hide (Below.trans (Hid.out (by repeat (first | assumption | exact hide (Below.refl _ _) | refine held_alloc ?_ | refine held_drew ?_))) (hb6.mono (Below.size (Hid.out (by repeat (first | assumption | exact hide (Below.refl _ _) | refine held_alloc ?_ | refine held_drew ?_))))))
       clear hb6))
  clear c0 c1 c2 c3 c4 c5 c6 c7 k1' k2'
  by_cases hk0 : ¬ k = 0
  · have hm0 : m = 0 := by rw [← Hm.out, Hno.out hk0]; rfl
    subst hm0
    go_wp2_with fail
    exact hR.out _ _ ⟨rfl, Hb4.out.trans (hb6'.out.mono Hb4.out.size)⟩
  obtain rfl : k = 0 := by omega
  go_wp2_with fail
  have s6 := hb6'.out.size
  have Hg6 := hide ((hb6'.out.block g (by omega)).trans ((hb4.block g (by omega)).trans ((hb3.block g hg1).trans Hg.out)))
  have Ht6 := hide (Ht.out.keep (w' := w6) ((hb6'.out.block gt (by omega)).trans ((hb4.block gt (by omega)).trans (hb3.block gt ht1))))
  have Hrow6 := hide (Hrow.out.keep (w' := w6) fun k hk => hb6'.out.block k (Hrow.out.lt hk))
  have hp := Hpar.out bs (by trivial) rfl A1 a1 w6 g gt Hg6.out Ht6.out hma1 (by rw [Hm.out]; exact hca1) (by rw [Hm.out] at *; exact Hrow6.out.rdlt)
  rw [Hm.out] at hp
  refine hp.mono ?_
  clear hp
  rintro e w7 ⟨A', a', rfl, hca', hma', hr7, hb7⟩
  have s7 := hb7.size
  obtain ⟨W8, hW8, hbW8, hWs8, hWh8⟩ := pbox' w7 (.int .u64 (se.toNat : Int)) (.int .i64 N) (.int .i64 B) (.int .i64 Q) (.int .i64 E) (.int .i64 F) (.int .i64 len) (.int .u64 (id.toNat : Int)) (.slice A' n a') 32
  have Hb68 := hide (hb7.trans (hbW8.mono s7))
  have Hb8 := hide (Hb4.out.trans ((hb6'.out.trans (Hb68.out.mono s6)).mono Hb4.out.size))
  have Hb48 := hide (hb6'.out.trans (Hb68.out.mono s6))
  have Hwb := hide (show UB (fun q => w2.heap.size ≤ q ∧ q < w3.heap.size) (.slice A1 m a1) m W8 W8 from ⟨Ch.refl _, by
    have := Hrow.out.wb
    rw [Hm.out] at this
    exact (this.mono fun k hk => Hown.out k hk).keep fun k hk => Hb48.out.block k (by omega)⟩)
  have Hr8 := hide ((hr7.keep fun k hk => hbW8.block k hk.2).mono (S' := fun q => w6.heap.size ≤ q ∧ q < W8.heap.size) fun k hk => by omega)
  have Hh8 := hide ((Hb48.out.block w.heap.size (by omega)).trans Hh4.out)
  have HWh8 := hide hWh8
  have HW8 := hide hW8
  clear hW8 hWh8 hr7 hbW8
  have hs78 := hide (show w7.heap.size < W8.heap.size by omega)
  have hs07 := hide (show w6.heap.size ≤ w7.heap.size ∧ w3.heap.size ≤ w6.heap.size ∧ w.heap.size < w2.heap.size ∧ w2.heap.size ≤ w3.heap.size by omega)
  clear hWs8
  go_wp2_with fail
  rw [← HW8.out]
  go_loopw [62] (fun i wr => ∃ j : Nat, j ≤ m ∧ i = .int .i64 (j : Int) ∧ UB (fun q => w2.heap.size ≤ q ∧ q < w3.heap.size) (.slice A1 m a1) m W8 wr) (fun i _ => m - (intOf i).toNat)
  case atStart => exact ⟨0, Nat.zero_le _, rfl, Hwb.out⟩
  case round =>
    obtain ⟨j, hj, rfl, hp⟩ := hrel
    by_cases hjl : j < m
    · obtain ⟨gk, off, x, c9, e9, -, -, hsk, hcx, hfx⟩ := hp.2.cell hjl
      injection e9 with e9 _ _
      subst e9
      obtain ⟨y, hy⟩ := inc8 x
      have Hp2 := hide (hp.set hsk (off + j) y)
      have Hjl := hide hjl
      have hj9 := Nat.lt_of_lt_of_le hjl (Nat.le_trans hca1 hma1)
      unfold maxLen at hj9
      clear hp
      generalize (x.toNat : Int) = xi at hcx hy
      generalize (y.toNat : Int) = yi at hy Hp2
      go_wp2_with fail
      go_roundw
      case rel => exact ⟨j + 1, Hjl.out, by go_num, Hp2.out⟩
      case measure => have := Hjl.out; simp [intOf]; omega
    · have Hp2 := hide hp.1
      clear hp
      have h07 := hs07.out
      have h78 := hs78.out
      obtain ⟨c0, c1, c2, c3, c4, c5, c6, c7, c8⟩ := cells9 ((Hp2.out.block w.heap.size (by have := Hb8.out.size; omega) (by omega)).trans Hh8.out)
      obtain ⟨d0, d1, d2, d3, d4, d5, d6, d7, d8⟩ := cells9 ((Hp2.out.block w7.heap.size hs78.out (by omega)).trans HWh8.out)
      have hbf := Hp2.out.below Hb8.out Hb8.out.size (fun b hb => by omega)
      have hq1 : RdL Kd.byte (· < wr.heap.size) wr A pl := (Hr.out.keep fun k hk => hbf.block k hk).mono fun k hk => Nat.lt_of_lt_of_le hk hbf.size
      have hq2 : RdL Kd.byte (· < wr.heap.size) wr A' pl := (Hr8.out.keep fun k hk => Hp2.out.block k hk.2 (by omega)).mono fun k hk => Nat.lt_of_lt_of_le hk.2 Hp2.out.size
      have Hsm := hide (psame_calls (se.toNat : Int) (id.toNat : Int) N B Q E F len A A' pl n c a' _ wr Hn.out hq1 hq2 (fun _ h => h))
      have Hbf := hide hbf
      clear hbf hq1 hq2 h07 h78
      obtain rfl : m = j := by omega
      go_wp2_with fail
      refine Hsm.out.mono ?_
      rintro e w9 ⟨rfl, hb9⟩
      go_wp2_with fail
      exact hR.out _ _ ⟨rfl, Hbf.out.trans (hb9.mono Hbf.out.size)⟩
end Go.Proofs.Ytopfpadfjfmmiaa
