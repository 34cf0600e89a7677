/- FrameIDs: what two frames that differ by their ID differ by; walked. -/
import Derived.Test.YtopfpadfjfmmiaaFrameAny
import Derived.Test.YtopfpadfjfmmiaaFrameRpar3
set_option linter.unusedVariables false
set_option linter.unusedSimpArgs false
namespace Go.Proofs.Ytopfpadfjfmmiaa
open Go.RowKit

theorem putL_inj8 {a b : Nat} (ha : a < 18446744073709551616) (hb : b < 18446744073709551616) (h : putL a 8 = putL b 8) : a = b := by
  have h1 := getN_putL (n := a) (k := 8) (by omega) ha
  have h2 := getN_putL (n := b) (k := 8) (by omega) hb
  rw [← h1, h, h2]
theorem head_split (s N B Q E F len d : Nat) : ∃ p : List UInt8, p.length = 30 ∧ ∀ d, headL s N B Q E F len d = p ++ putL d 8 :=
  ⟨[] ++ putL 16716 2 ++ putL 1 1 ++ putL s 8 ++ putL N 4 ++ putL B 2 ++ putL Q 1 ++ putL E 2 ++ putL F 2 ++ putL len 8, by simp only [List.length_append, putL_len, List.length_nil], fun d => fieldsL ..⟩
theorem ids_math {se i1 i2 : UInt64} {N B Q E F len : Int} {pl b b' : List UInt8} (h0 : encK N B Q E F len pl = 0) (hb : encBs se i1 N B Q E F len pl = b) (hb' : encBs se i2 N B Q E F len pl = b') :
    b.length = 42 + pl.length ∧ b'.length = 42 + pl.length ∧ (b = b' ↔ i1 = i2) ∧ (mid b 30 8 = mid b' 30 8 ↔ i1 = i2) ∧ ∀ i, (i < 30 ∨ (38 ≤ i ∧ i < 38 + pl.length)) → b[i]? = b'[i]? := by
  have l1 := encBs_len h0 hb
  have l2 := encBs_len h0 hb'
  obtain ⟨n, q, e, f, l, rfl, rfl, rfl, rfl, rfl, rfl, hmay, e1⟩ := encBs_yes h0 hb
  obtain ⟨n', q', e', f', l', h1, -, h2, h3, h4, h5, -, e2⟩ := encBs_yes h0 hb'
  obtain rfl : n = n' := by omega
  obtain rfl : q = q' := by omega
  obtain rfl : e = e' := by omega
  obtain rfl : f = f' := by omega
  obtain rfl : l = l' := by omega
  obtain ⟨p, hp, hd⟩ := head_split se.toNat n pl.length q e f l 0
  rw [hd, sealL, List.append_assoc, List.append_assoc] at e1 e2
  have m1 : mid b 30 8 = putL i1.toNat 8 := by
    rw [mid, e1, show 30 = p.length from hp.symm, List.drop_left, put_cut.1]
  have m2 : mid b' 30 8 = putL i2.toNat 8 := by
    rw [mid, e2, show 30 = p.length from hp.symm, List.drop_left, put_cut.1]
  have hm : mid b 30 8 = mid b' 30 8 ↔ i1 = i2 := by
    rw [m1, m2]
    exact ⟨fun h => UInt64.toNat_inj.1 (putL_inj8 i1.toNat_lt i2.toNat_lt h), fun h => by rw [h]⟩
  refine ⟨l1, l2, ⟨fun h => hm.1 (by rw [h]), fun h => by subst h; rw [← hb, hb']⟩, hm, fun i hi => ?_⟩
  rw [e1, e2]
  have p1 := putL_len i1.toNat 8
  have p2 := putL_len i2.toNat 8
  rcases hi with hi | ⟨h1, h2⟩
  · rw [List.getElem?_append_left (by omega), List.getElem?_append_left (by omega)]
  · have k1 : ∀ (x : Nat) (r : List UInt8), (p ++ (putL x 8 ++ (pl ++ r)))[i]? = pl[i - 38]? := fun x r => by
      have hx : (p ++ (putL x 8 ++ (pl ++ r))).drop 38 = pl ++ r := by
        rw [show 38 = 30 + 8 from rfl, ← List.drop_drop, show 30 = p.length from hp.symm, List.drop_left, put_cut.2]
      have : (p ++ (putL x 8 ++ (pl ++ r)))[i]? = ((p ++ (putL x 8 ++ (pl ++ r))).drop 38)[i - 38]? := by
        rw [List.getElem?_drop]; congr 1; omega
      rw [this, hx, List.getElem?_append_left (by omega)]
    rw [k1, k1]

set_option maxRecDepth 100000 in
set_option maxHeartbeats 1000000 in
theorem IDs_calls (se id i2 : UInt64) (N B Q E F len : Int) (A : Option Addr) (pl : List UInt8) (c : Nat) (w : World) (hm : c ≤ maxLen) (hc : pl.length ≤ c) (hr : RdL Kd.byte (· < w.heap.size) w A pl) :
    Calls Try.prog 7 #[.agg #[.int .u64 (se.toNat : Int), .int .i64 N, .int .i64 B, .int .i64 Q, .int .i64 E, .int .i64 F, .int .i64 len, .int .u64 (id.toNat : Int), .slice A pl.length c], .int .u64 (i2.toNat : Int)] w fun e w' => e = .returned (.bool true) ∧ Below w.heap.size w w' := by
  refine cps fun R hR => ?_
  obtain ⟨W, hW, hbW, hWs, hWh⟩ := pbox' w (.int .u64 (se.toNat : Int)) (.int .i64 N) (.int .i64 B) (.int .i64 Q) (.int .i64 E) (.int .i64 F) (.int .i64 len) (.int .u64 (id.toNat : Int)) (.slice A pl.length c) 32
  have Hr := hide hr
  have HW := hide hW
  have HWh := hide hWh
  clear hr hW hWh
  have HE := hide (fun (y : World) (hy : RdL Kd.byte (· < y.heap.size) y A pl) gc gt => fenc_any se id N B Q E F len A pl c y hm hc hy gc gt)
  have HF := hide (fun (y : World) (hy : RdL Kd.byte (· < y.heap.size) y A pl) gc gt => fenc_any se i2 N B Q E F len A pl c y hm hc hy gc gt)
  have Hmath := hide (fun (b b' : List UInt8) h0 hb hb' => ids_math (se := se) (i1 := id) (i2 := i2) (N := N) (B := B) (Q := Q) (E := E) (F := F) (len := len) (pl := pl) (b := b) (b' := b') h0 hb hb')
  have Hin : Hid (id = i2 ↔ (id.toNat : Int) = (i2.toNat : Int)) := hide ⟨fun h => by rw [h], fun h => UInt64.toNat_inj.1 (by omega)⟩
  generalize encK N B Q E F len pl = k at *
  generalize encBs se id N B Q E F len pl = bs at *
  generalize encBs se i2 N B Q E F len pl = bs2 at *
  generalize hn : pl.length = n at *
  have Hn := hide hn
  clear hn
  generalize (id.toNat : Int) = idn at *
  generalize (i2.toNat : Int) = i2n at *
  go_enter Try.func7, Try.ntmps7
  go_wp2_with fail
  rw [← HW.out]
  refine (fspeaks_calls W).mono ?_
  rintro e w1 ⟨rfl, hb1⟩
  have Hh1 := hide ((hb1.block w.heap.size (by omega)).trans HWh.out)
  obtain ⟨c0, c1, c2, c3, c4, c5, c6, c7, c8⟩ := cells9 Hh1.out
  by_cases h5 : 300 < n
  · go_wp2_with fail
    exact hR.out _ _ ⟨rfl, hbW.trans (hb1.mono hbW.size)⟩
  go_wp2_with fail
  clear c0 c1 c2 c3 c4 c5 c6 c7 c8
  refine (fnew_calls w1).mono ?_
  rintro e w2 ⟨g, gt, rfl, hg, htab, hb2, hg0, ht0, hg1, ht1⟩
  have s1 := hb1.size
  have s2 := hb2.size
  have Hg := hide hg
  have Ht := hide htab
  clear hg htab
  have Hb2 := hide (hbW.trans ((hb1.trans (hb2.mono s1)).mono hbW.size))
  have Hh2 := hide ((hb2.block w.heap.size (by omega)).trans Hh1.out)
  obtain ⟨c0, c1, c2, c3, c4, c5, c6, c7, c8⟩ := cells9 Hh2.out
  go_wp2_with fail
  clear c0 c1 c2 c3 c4 c5 c6 c7 c8
  have Hr2 := hide ((Hr.out.keep fun k hk => Hb2.out.block k hk).mono (S' := (· < w.heap.size)) fun k hk => by omega)
  refine (HE.out w2 (Hr2.out.mono fun k hk => by omega) g gt Hg.out Ht.out).mono ?_
  rintro e w3 ⟨v1, rfl, hf3⟩
  have hb3 := hf3.2.1
  have s3 := hb3.size
  have Hh3 := hide ((hb3.block w.heap.size (by omega)).trans Hh2.out)
  have Hb3 := hide (Hb2.out.trans (hb3.mono Hb2.out.size))
  obtain ⟨A1, a1, rfl, hca1, hma1⟩ := hf3.1.shape
  rw [List.length_map] at *
  have Hrow := hide hf3.1
  have Hown := hide hf3.own
  clear hf3
  by_cases hk0 : ¬ k = 0
  · go_wp2_with fail
    exact hR.out _ _ ⟨rfl, Hb3.out⟩
  obtain rfl : k = 0 := by omega
  obtain ⟨hl1, hl2, he1, he2, hat⟩ := Hmath.out bs bs2 (by trivial) rfl rfl
  obtain ⟨s, hs⟩ : ∃ s : Bool, (idn == i2n) = s := ⟨_, rfl⟩
  have q1 : ((bstr bs).toList == (bstr bs2).toList) = s := by
    rw [bstr_eq, ← hs]
    by_cases h : bs = bs2
    · rw [decide_eq_true h, eq_comm, beq_iff_eq]; exact Hin.out.1 (he1.1 h)
    · rw [decide_eq_false h, eq_comm, beq_eq_false_iff_ne]; exact fun e => h (he1.2 (Hin.out.2 e))
  have q2 : ((bstr (mid bs 30 8)).toList == (bstr (mid bs2 30 8)).toList) = s := by
    rw [bstr_eq, ← hs]
    by_cases h : mid bs 30 8 = mid bs2 30 8
    · rw [decide_eq_true h, eq_comm, beq_iff_eq]; exact Hin.out.1 (he2.1 h)
    · rw [decide_eq_false h, eq_comm, beq_eq_false_iff_ne]; exact fun e => h (he2.2 (Hin.out.2 e))
  have Hat := hide hat
  have Hl1 := hide hl1
  have Hl2 := hide hl2
  clear hat he1 he2 hl1 hl2 Hmath HE
  have hf7 : w3.frozen? ⟨w.heap.size, 7, none⟩ = false := by simp [World.frozen?, Hh3.out]
  obtain ⟨c0, c1, c2, c3, c4, c5, c6, c7, c8⟩ := cells9 Hh3.out
  go_wp2_with fail
  clear c0 c1 c2 c3 c4 c5 c6 c7 c8
  obtain ⟨X, hX⟩ : ∃ X, X = w3.setCell ⟨w.heap.size, 7, none⟩ (.int .u64 i2n) := ⟨_, rfl⟩
  rw [← hX]
  have hch : Ch (· = w.heap.size) w3 X := by rw [hX]; exact Ch.set w3 ⟨w.heap.size, 7, none⟩ _
  have sX : X.heap.size = w3.heap.size := by rw [hX]; simp [World.setCell]
  clear hX
  have hgX := (hch.block g (by omega) (by omega)).trans ((hb3.block g hg1).trans Hg.out)
  have htX := Ht.out.keep (w' := X) ((hch.block gt (by omega) (by omega)).trans (hb3.block gt ht1))
  have hbX : Below w.heap.size w X := hch.below Hb3.out Hb3.out.size (fun b hb => by omega)
  have hrX : RdL Kd.byte (· < X.heap.size) X A pl := (Hr.out.keep fun k hk => hbX.block k hk).mono fun k hk => Nat.lt_of_lt_of_le hk hbX.size
  refine (HF.out X hrX g gt hgX htX).mono ?_
  clear hrX hgX htX
  rintro e w4 ⟨v2, rfl, hf4⟩
  have hb4 := hf4.2.1
  have s4 := hb4.size
  obtain ⟨A2, a2, rfl, hca2, hma2⟩ := hf4.1.shape
  rw [List.length_map] at *
  have Hrow4 := hide (Hrow.out.keep (w' := w4) fun k hk => (hb4.block k (by have := Hown.out k hk; omega)).trans (hch.block k (by have := Hown.out k hk; omega) (by have := Hown.out k hk; omega)))
  have Hrow2 := hide hf4.1
  have Hb4 := hide (hbX.trans (hb4.mono hbX.size))
  clear hf4 hbX hch
  have k1 := run_str (P := Try.prog) (w := w4) Try.underlying22 Try.underlying5 Try.underlying9 Hrow4.out.src a1
  have k2 := run_str (P := Try.prog) (w := w4) Try.underlying22 Try.underlying5 Try.underlying9 Hrow2.out.src a2
  rw [Hl1.out] at k1 hca1 ⊢
  rw [Hl2.out] at k2 hca2 ⊢
  have k1' : (convert 22 9 (.slice A1 (42 + n) a1)).run Try.prog w4 = .ok (.string (bstr bs)) w4 := k1
  have k2' : (convert 22 9 (.slice A2 (42 + n) a2)).run Try.prog w4 = .ok (.string (bstr bs2)) w4 := k2
  clear k1 k2
  have hrd1 := hide Hrow4.out.rdlt
  have hrd2 := hide Hrow2.out.rdlt
  have hm9 := Nat.le_trans hca1 hma1
  unfold maxLen at hm9
  generalize hm0 : 42 + n = m at k1' k2' hca1 hca2 hm9 Hl1 Hl2 ⊢
  have Hm0 := hide hm0
  clear hm0
  generalize bstr bs = st1 at k1' q1
  generalize bstr bs2 = st2 at k2' q1
  go_wp2_with fail
  go_loopw [61] (fun i wr => ∃ (j : Nat), j ≤ m ∧ i = .int .i64 (j : Int) ∧ Below w4.heap.size w4 wr) (fun i _ => m - (intOf i).toNat)
  case atStart => exact ⟨0, Nat.zero_le _, rfl, Below.refl _ _⟩
  case round =>
    obtain ⟨j, hj, rfl, hbr⟩ := hrel
    have e1 : IntKind.i64.wrap ((m : Int) - 4) = (m : Int) - 4 := by have := Hm0.out; rw [IntKind.wrap_i64]; omega
    by_cases hjl : j < m
    · have Hjl := hide hjl
      have lj1 : j < bs.length := by rw [Hl1.out]; exact hjl
      have lj2 : j < bs2.length := by rw [Hl2.out]; exact hjl
      obtain ⟨b1, o1, u1, eA1, -, hu1, hc1⟩ := (hrd1.out.below hbr).at1 rfl (i := j) (by rw [Hl1.out]; exact hjl)
      obtain ⟨b2, o2, u2, eA2, -, hu2, hc2⟩ := (hrd2.out.below hbr).at1 rfl (i := j) (by rw [Hl2.out]; exact hjl)
      subst eA1
      subst eA2
      obtain ⟨_, eu1, rfl⟩ := hu1
      obtain ⟨_, eu2, rfl⟩ := hu2
      injection eu1 with eu1 _
      injection eu2 with eu2 _
      subst eu1
      subst eu2
      have Hbr := hide hbr
      clear hbr
      by_cases hin : j < 30 ∨ (38 ≤ j ∧ j < m - 4)
      · have hx := Hat.out j (by have := Hm0.out; omega)
        rw [List.getElem?_eq_getElem (by rw [Hl1.out]; exact hjl), List.getElem?_eq_getElem (by rw [Hl2.out]; exact hjl)] at hx
        injection hx with hx
        rw [hx] at hc1
        clear hx
        generalize (bs2[j].toNat : Int) = x at hc1 hc2
        clear lj1 lj2
        rcases hin with hin | ⟨hin1, hin2⟩
        · skip
          have fa : decide ((j : Int) < 30) = true := by simp; omega
          have k1 := fun x : Later wr => later_cell hc1 x
          have k2 := fun x : Later wr => later_cell hc2 x
          clear hc1 hc2
          go_wp2_with fail
          refine wp_region_later (by kernel_rfl) (by kernel_rfl) ?_
          repeat (go_big_quiet_step (fail))
          refine wpQuiet_nil ?_
          intro _ hw'
          obtain ⟨⟨w5, hb5⟩, rfl⟩ := hw'
          go_wp2_with fail
          go_roundw
          case rel => exact ⟨j + 1, Hjl.out, by go_num, Hbr.out.trans (hb5.mono Hbr.out.size)⟩
          case measure => have := Hjl.out; simp [intOf]; omega
        · have f1 : ¬ j < 30 := by omega
          have fa : decide ((j : Int) < 30) = false := by simp; omega
          have fb : decide ((38 : Int) ≤ (j : Int)) = true := by simp; omega
          have fc : decide ((j : Int) < (m : Int) - 4) = true := by simp; omega
          have k1 := fun x : Later wr => later_cell hc1 x
          have k2 := fun x : Later wr => later_cell hc2 x
          clear hc1 hc2
          go_wp2_with fail
          refine wp_region_later (by kernel_rfl) (by kernel_rfl) ?_
          repeat (go_big_quiet_step (fail))
          refine wpQuiet_nil ?_
          intro _ hw'
          obtain ⟨⟨w5, hb5⟩, rfl⟩ := hw'
          go_wp2_with fail
          go_roundw
          case rel => exact ⟨j + 1, Hjl.out, by go_num, Hbr.out.trans (hb5.mono Hbr.out.size)⟩
          case measure => have := Hjl.out; simp [intOf]; omega
      · have f1 : ¬ j < 30 := by omega
        generalize (bs[j].toNat : Int) = x1 at hc1
        generalize (bs2[j].toNat : Int) = x2 at hc2
        clear lj1 lj2
        by_cases h38 : 38 ≤ j
        · have f2 : ¬ j < m - 4 := by omega
          have f3 : decide ((j : Int) < (m : Int) - 4) = false := by simp; omega
          have fa : decide ((j : Int) < 30) = false := by simp; omega
          have fb : decide ((38 : Int) ≤ (j : Int)) = true := by simp; omega
          have k1 := fun x : Later wr => later_cell hc1 x
          have k2 := fun x : Later wr => later_cell hc2 x
          clear hc1 hc2
          go_wp2_with fail
          refine wp_region_later (by kernel_rfl) (by kernel_rfl) ?_
          repeat (go_big_quiet_step (fail))
          refine wpQuiet_nil ?_
          intro _ hw'
          obtain ⟨⟨w5, hb5⟩, rfl⟩ := hw'
          go_wp2_with fail
          go_roundw
          case rel => exact ⟨j + 1, Hjl.out, by go_num, Hbr.out.trans (hb5.mono Hbr.out.size)⟩
          case measure => have := Hjl.out; simp [intOf]; omega
        · skip
          have fa : decide ((j : Int) < 30) = false := by simp; omega
          have fb : decide ((38 : Int) ≤ (j : Int)) = false := by simp; omega
          have k1 := fun x : Later wr => later_cell hc1 x
          have k2 := fun x : Later wr => later_cell hc2 x
          clear hc1 hc2
          go_wp2_with fail
          refine wp_region_later (by kernel_rfl) (by kernel_rfl) ?_
          repeat (go_big_quiet_step (fail))
          refine wpQuiet_nil ?_
          intro _ hw'
          obtain ⟨⟨w5, hb5⟩, rfl⟩ := hw'
          go_wp2_with fail
          go_roundw
          case rel => exact ⟨j + 1, Hjl.out, by go_num, Hbr.out.trans (hb5.mono Hbr.out.size)⟩
          case measure => have := Hjl.out; simp [intOf]; omega
    · obtain ⟨b1, o1, u1, eA1, -, hu1, hc1⟩ := (hrd1.out.below hbr).at1 rfl (i := 0) (by rw [Hl1.out]; have := Hm0.out; omega)
      obtain ⟨b2, o2, u2, eA2, -, hu2, hc2⟩ := (hrd2.out.below hbr).at1 rfl (i := 0) (by rw [Hl2.out]; have := Hm0.out; omega)
      subst eA1
      subst eA2
      clear hu1 hu2 hc1 hc2
      have hm42 : 42 ≤ m := by have := Hm0.out; omega
      have r1 := (hrd1.out.below hbr)
      have r2 := (hrd2.out.below hbr)
      have r1' := mid_rd' r1 30 8 (by rw [Hl1.out]; omega) (by omega) (c := a1) (by rw [Hl1.out]; exact hca1)
      have r2' := mid_rd' r2 30 8 (by rw [Hl2.out]; omega) (by omega) (c := a2) (by rw [Hl2.out]; exact hca2)
      have c1 : ∀ q, (convert 22 9 (.slice (some ⟨b1, o1 + 30, none⟩) 8 (a1 - 30))).run Try.prog (wr.drewN q) = .ok (.string (bstr (mid bs 30 8))) (wr.drewN q) := fun q => by
        have := run_str (P := Try.prog) (w := wr.drewN q) Try.underlying22 Try.underlying5 Try.underlying9 (r1'.keep (w' := wr.drewN q) fun _ _ => rfl).srcB (a1 - 30)
        rw [mid_len (by rw [Hl1.out]; omega)] at this
        exact this
      have c2 : ∀ q, (convert 22 9 (.slice (some ⟨b2, o2 + 30, none⟩) 8 (a2 - 30))).run Try.prog (wr.drewN q) = .ok (.string (bstr (mid bs2 30 8))) (wr.drewN q) := fun q => by
        have := run_str (P := Try.prog) (w := wr.drewN q) Try.underlying22 Try.underlying5 Try.underlying9 (r2'.keep (w' := wr.drewN q) fun _ _ => rfl).srcB (a2 - 30)
        rw [mid_len (by rw [Hl2.out]; omega)] at this
        exact this
      have Hbf := hide (Hb4.out.trans (hbr.mono Hb4.out.size))
      have g1 : ¬ a1 = 30 := by omega
      have g2 : ¬ a2 = 30 := by omega
      have g3 : 38 ≤ a1 := by omega
      have g4 : 38 ≤ a2 := by omega
      clear r1 r2 r1' r2' hbr
      generalize bstr (mid bs 30 8) = st3 at c1 q2
      generalize bstr (mid bs2 30 8) = st4 at c2 q2
      go_wp2_with fail
      go_quiet (fail)
      go_wp2_with fail
      exact hR.out _ _ ⟨rfl, Hbf.out.os, Hbf.out.tape, Hbf.out.output, Hbf.out.size, Hbf.out.block⟩
end Go.Proofs.Ytopfpadfjfmmiaa
