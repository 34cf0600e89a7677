/- The law's own test: all closed equations hold of the values. -/
import Derived.Test.YtdppjhfndolbjaaBatU
set_option linter.unusedVariables false
set_option linter.unusedSimpArgs false
namespace Go.Proofs.Ytdppjhfndolbjaa
open Go.RowKit

def allL (vs : Vals) (of : List Int) (v : List UInt8) (k : Nat) : List (List UInt8) := v :: (of.take k).map (valAt vs)
theorem allL_succ {vs : Vals} {of : List Int} {v : List UInt8} {k : Nat} (hk : k < of.length) : allL vs of v (k + 1) = allL vs of v k ++ [valAt vs of[k]] := by
  rw [allL, List.take_succ_eq_append_getElem hk, List.map_append]; rfl
theorem allL_len {vs : Vals} {of : List Int} {v : List UInt8} {k : Nat} (hk : k ≤ of.length) : (allL vs of v k).length = k + 1 := by
  simp [allL]; omega
theorem rd_val {T : Nat → Prop} {w : World} {A : Option Addr} {vs : Vals} {k : Nat} {b : List UInt8} (h : RdL kOb T w A vs) (hk : vs[k]? = some (some b)) : ∃ q off a c, A = some ⟨q, off, none⟩ ∧ w.cell? ⟨q, off + k, none⟩ = some (.slice (some a) b.length c) ∧ b.length ≤ c ∧ c ≤ maxLen ∧ RdL Kd.byte T w (some a) b := by
  have hkl := (List.getElem?_eq_some_iff.1 hk).1
  obtain ⟨q, off, u, e, -, hu, hc⟩ := h.at1 rfl hkl
  rw [(List.getElem?_eq_some_iff.1 hk).2] at hu
  obtain ⟨a, c, hu', h1, h2, h3⟩ := hu
  injection hu' with hu'
  subst hu'
  exact ⟨q, off, a, c, e, hc, h1, h2, h3⟩
set_option maxHeartbeats 40000000 in
set_option maxRecDepth 100000 in
theorem holds_calls (all size : Nat) (al sz : Int) (Bo Bv Bw Ak : Option Addr) (gv : Nat) (cf : Bool) (of : List (List Int)) (vals : List (List UInt8)) (kn : List Int) (vs : Vals) (co lv cv cw ck L : Nat) (w : World) (hco : L ≤ co) (hcom : co ≤ maxLen) (hcw : L ≤ cw) (hcwm : cw ≤ maxLen) (hkc : kn.length ≤ ck) (hkm : ck ≤ maxLen) (hol : L = of.length) (hvl : L = vals.length) (hL : L ≤ 1000)
    (ho : RdL (Kd.sl kInt) (· < w.heap.size) w Bo of) (hv : RdL (Kd.sl Kd.byte) (· < w.heap.size) w Bw vals) (hk : RdL kInt (· < w.heap.size) w Ak kn) (hvr : RdL kOb (· < w.heap.size) w (some ⟨gv, 0, none⟩) vs) (hall : all ≤ 1000) (hsz : size ≤ 1000) (hoe : ∀ o ∈ of, o.length ≤ 1000) (hve : ∀ v ∈ vals, v.length = size)
    (hkn : kn = knT vs all) (hwv : WV all size vs) (hno : ∀ k (h1 : k < of.length) (h2 : k < vals.length), fitsI all of[k] = true → leftV vs of[k] = [] → zeroB (restV vs of[k] vals[k]) = true) :
    Calls Try.prog 15 #[.int .i64 (all : Int), .agg #[.int .u8 al, .int .u8 sz, .slice Bo L co, .slice Bv lv cv], .slice Bw L cw, .agg #[.slice Ak kn.length ck, .slice (some ⟨gv, 0, none⟩) all all, .bool cf]] w fun e w' => e = .returned (.bool true) ∧ Below w.heap.size w w' := by
  refine cps fun R hR => ?_
  have Hkm := hide hkm
  unfold maxLen at hcom hcwm
  obtain ⟨lk, hlk⟩ : ∃ lk, lk = kn.length := ⟨_, rfl⟩
  rw [← hlk] at hkc ⊢
  obtain ⟨w1, hw1⟩ : ∃ w1, w1 = (w.alloc (.cells #[.int .u8 al, .int .u8 sz, .slice Bo L co, .slice Bv lv cv] 25)).alloc (.cells #[.slice Ak lk ck, .slice (some ⟨gv, 0, none⟩) all all, .bool cf] 33) := ⟨_, rfl⟩
  have hb1 : Below w.heap.size w w1 := by rw [hw1]; exact (balloc w _).alloc (by simp) _
  have h1 : w1.heap[w.heap.size]? = some (.cells #[.int .u8 al, .int .u8 sz, .slice Bo L co, .slice Bv lv cv] 25 (0, 0)) := by
    rw [hw1, (balloc (w.alloc (.cells #[.int .u8 al, .int .u8 sz, .slice Bo L co, .slice Bv lv cv] 25)) _).block _ (by simp)]; exact heap_alloc_new w _
  have h2 : w1.heap[w.heap.size + 1]? = some (.cells #[.slice Ak lk ck, .slice (some ⟨gv, 0, none⟩) all all, .bool cf] 33 (0, 0)) := by
    rw [hw1]
    have := heap_alloc_new (w.alloc (.cells #[.int .u8 al, .int .u8 sz, .slice Bo L co, .slice Bv lv cv] 25)) (.cells #[.slice Ak lk ck, .slice (some ⟨gv, 0, none⟩) all all, .bool cf] 33)
    simpa using this
  have c2 : w1.cell? ⟨w.heap.size, 2, none⟩ = some (.slice Bo L co) := by rw [cell_of_row _ _ 2 _ _ _ h1]; rfl
  have k0 : w1.cell? ⟨w.heap.size + 1, 0, none⟩ = some (.slice Ak lk ck) := by rw [cell_of_row _ _ 0 _ _ _ h2]; rfl
  have k1 : w1.cell? ⟨w.heap.size + 1, 1, none⟩ = some (.slice (some ⟨gv, 0, none⟩) all all) := by rw [cell_of_row _ _ 1 _ _ _ h2]; rfl
  obtain ⟨p7, hp7⟩ : ∃ p7, p7 = w.heap.size + 1 := ⟨_, rfl⟩
  rw [← hp7] at k0 k1
  have Ho := hide (rd_all ho (fun z hz => hz) hb1)
  have Hv := hide (rd_all hv (fun z hz => hz) hb1)
  have Hk := hide (rd_all hk (fun z hz => hz) hb1)
  have Hvr := hide (rd_all hvr (fun z hz => hz) hb1)
  have Hlk := hide hlk
  have Hol := hide hol
  have Hvl := hide hvl
  have Hoe := hide hoe
  have Hve := hide hve
  have Hkn := hide hkn
  have Hwv := hide hwv
  have Hno := hide hno
  have Hb1 := hide hb1
  have Hw1 := hide hw1
  have Hp7 := hide hp7
  clear ho hv hk hvr hlk hol hvl hoe hve hkn hwv hno hb1 hw1 h1 h2 hkm hp7
  go_enter Try.func15, Try.ntmps15
  go_upto_region 1 with fail
  rw [← Hw1.out, ← Hp7.out]
  clear Hw1
  go_wp2_with fail
  go_loopw [17] (fun i wr => ∃ j : Nat, j ≤ L ∧ i = .int .i64 (j : Int) ∧ Below w1.heap.size w1 wr) (fun i _ => L - (intOf i).toNat)
  case atStart => exact ⟨0, Nat.zero_le _, rfl, Below.refl _ _⟩
  case round =>
    obtain ⟨j, hj, rfl, hbx⟩ := hrel
    by_cases hlt : j < L
    · have hjo : j < of.length := by rw [← Hol.out]; exact hlt
      have hjv : j < vals.length := by rw [← Hvl.out]; exact hlt
      have hno := Hno.out j hjo hjv
      obtain ⟨b, off, A, c, rfl, hsb, q0, a1, a2, hrA⟩ := sl_at Ho.out hjo
      obtain ⟨b', off', Bx, dd, rfl, hsb', q1, a4, a5, hrB⟩ := sl_at Hv.out hjv
      have hee := Hoe.out of[j] (List.getElem_mem hjo)
      have hvv := Hve.out vals[j] (List.getElem_mem hjv)
      generalize of[j] = o at hno q0 a1 hrA hee
      generalize vals[j] = v at hno q1 a4 hrB hvv
      have c0 := keep8 q0 hbx
      have c1 := keep8 q1 hbx
      have d0 := keep8 k0 hbx
      have d1 := keep8 k1 hbx
      have hA3 := rd_all hrA (fun z hz => hz) hbx
      obtain ⟨lo, hlo⟩ : ∃ lo, lo = o.length := ⟨_, rfl⟩
      rw [← hlo] at q0 c0 a1 hee
      obtain ⟨ln, hln⟩ : ∃ ln, ln = v.length := ⟨_, rfl⟩
      rw [← hln] at q1 c1 a4 hvv
      have hfi := rfits_calls A o c (all : Int) (· < wr.heap.size) wr a2 (by rw [← hlo]; exact a1) hA3 (fun k hk => hk)
      rw [← hlo] at hfi
      obtain ⟨ok, hok⟩ : ∃ ok, ok = fitsI (all : Int) o := ⟨_, rfl⟩
      rw [← hok] at hfi hno
      have Hfi := hide hfi
      have Hno2 := hide hno
      have HA := hide hrA
      have HB := hide hrB
      have Hlo := hide hlo
      have Hln := hide hln
      have Hvv := hide hvv
      have Hok := hide hok
      have Hbx := hide hbx
      have Hq1 := hide q1
      have i1 : (0 : Int) ≤ (j : Int) := by omega
      have i2 : (j : Int) < (L : Int) := by omega
      clear hno hA3 hlo hln hvv q0 hsb hsb' hrA hrB hjo hjv hok hfi hbx
      go_wp2_with fail
      refine Hfi.out.mono ?_
      rintro _ w7 ⟨rfl, hb7⟩
      have hb17 := Hbx.out.trans (hb7.mono Hbx.out.size)
      have f0 := keep8 k0 hb17
      have f1 := keep8 k1 hb17
      have Hb17 := hide hb17
      clear c0 c1 d0 d1 hb7 hb17
      cases ok
      · go_wp2_with fail
        exact ⟨⟨j + 1, by omega, by rw [Int.natCast_succ], Hb17.out⟩, by simp only [intOf]; omega⟩
      · have hle := rleft_calls (K := Ak) (A := A) (kn := kn) (of := o) (ck := ck) (c := c) (w := w7) (by rw [← Hlk.out]; exact hkc) Hkm.out (by rw [← Hlo.out]; exact a1) a2 (by rw [← Hlo.out]; omega) (rd_all Hk.out (fun z hz => hz) Hb17.out) (rd_all HA.out (fun z hz => hz) Hb17.out) (fun k hk => hk)
        rw [Hkn.out, leftV_kn Hwv.out.len, ← Hkn.out, ← Hlk.out, ← Hlo.out] at hle
        have Hle := hide hle
        clear hle
        go_wp2_with fail
        refine Hle.out.mono ?_
        rintro _ w8 ⟨v8, rfl, ho8⟩
        obtain ⟨Al, cl, rfl, hcl1, hcl2⟩ := ho8.shape
        obtain ⟨ll, hll⟩ : ∃ ll, ll = (leftV vs o).length := ⟨_, rfl⟩
        rw [← hll] at hcl1 ho8 ⊢
        have hb8 := ho8.bel
        have hb18 := Hb17.out.trans (hb8.mono Hb17.out.size)
        have e1 := keep8 Hq1.out hb18
        have Hb18 := hide hb18
        have Hll := hide hll
        clear f0 f1 hb8 hb18 ho8 hll
        by_cases h1 : ll = 0
        · subst h1
          have hle0 : leftV vs o = [] := List.length_eq_zero_iff.1 Hll.out.symm
          have hz := Hno2.out (by first | rfl | trivial) hle0
          obtain ⟨hra, hkal⟩ := rest_all (v := v) hle0
          rw [hra] at hz
          have Hz := hide hz
          have Hkal := hide hkal
          have t1 : decide ((0 : Int) < (0 : Int)) = false := rfl
          obtain ⟨w9, hw9⟩ : ∃ w9, w9 = w8.alloc (.cells #[.slice Bx ln dd] 38) := ⟨_, rfl⟩
          have hb9 : Below w8.heap.size w8 w9 := by rw [hw9]; exact balloc w8 _
          have hB8 := rd_all HB.out (fun z hz => hz) Hb18.out
          have hr9 : ORow (Kd.sl Kd.byte) (· < w8.heap.size) w9 38 (.slice (some ⟨w8.heap.size, 0, none⟩) 1 1) (allL vs o v 0) := by
            rw [hw9]
            exact orow_lit1 (d := Kd.sl Kd.byte) (w := w8) 38 (.slice Bx ln dd) v rfl ⟨Bx, dd, by rw [Hln.out], by rw [← Hln.out]; exact a4, a5, hB8.keep fun k hk => (balloc w8 _).block k hk⟩
          have Hr9 := hide hr9
          have Hb9 := hide hb9
          have Hw9 := hide hw9
          clear hle0 hz hra hkal hr9 hb9 hw9 hB8
          go_upto_region 6 with fail
          rw [← Hw9.out]
          clear Hw9
          go_wp2_with fail
          go_loopw [11, 41] (fun l i wr => ∃ k : Nat, k ≤ lo ∧ i = .int .i64 (k : Int) ∧ ORow (Kd.sl Kd.byte) (· < w8.heap.size) wr 38 l (allL vs o v k) ∧ (∀ z, l.ownBlock = some z → w8.heap.size ≤ z) ∧ Below w8.heap.size w8 wr) (fun _ i _ => lo - (intOf i).toNat)
          case atStart => exact ⟨0, Nat.zero_le _, rfl, Hr9.out, fun z hz => by have hz' : some w8.heap.size = some z := hz; injection hz' with hz'; omega, Hb9.out⟩
          case round =>
            obtain ⟨k, hkl, rfl, hor, hown, hbw⟩ := hrel
            obtain ⟨Ao, co2, rfl, hco1, hco2⟩ := hor.shape
            have hll2 : (allL vs o v k).length = k + 1 := allL_len (by rw [← Hlo.out]; exact hkl)
            rw [hll2] at hor hown hco1 ⊢
            have hbz := Hb18.out.trans (hbw.mono Hb18.out.size)
            by_cases hkt : k < lo
            · have hko : k < o.length := by rw [← Hlo.out]; exact hkt
              obtain ⟨b2, off2, u2, rfl, -, hu2, hcx⟩ := (HA.out.keep (w' := wr) fun z hz => hbz.block z hz).at1 rfl hko
              obtain rfl := (Kd.int_cell hu2).1
              have hkx := Hkal.out o[k] (List.getElem_mem hko)
              obtain ⟨kx, bx, hxe, hbx2⟩ := knB_iff.1 hkx
              have hva : valAt vs (kx : Int) = bx := valAt_of hbx2
              have hbl : bx.length = size := Hwv.out.el bx (List.mem_of_getElem? hbx2)
              have hkv : kx < all := by have := (List.getElem?_eq_some_iff.1 hbx2).1; have := Hwv.out.len; omega
              have hsu := allL_succ (vs := vs) (v := v) hko
              rw [hxe] at hcx hsu
              rw [hva] at hsu
              obtain ⟨q3, off3, a3, c3, e3, hcu, g1, g2, g3⟩ := rd_val (Hvr.out.keep (w' := wr) fun z hz => hbz.block z hz) hbx2
              injection e3 with e3; injection e3 with e31 e32
              subst e31; subst e32
              rw [Nat.zero_add] at hcu
              obtain ⟨lx, hlx⟩ : ∃ lx, lx = bx.length := ⟨_, rfl⟩
              rw [← hlx] at hcu g1
              have d1 := keep8 k1 hbz
              obtain ⟨w10, hw10⟩ : ∃ w10, w10 = wr.alloc (.cells #[.slice (some a3) lx c3] 38) := ⟨_, rfl⟩
              have hb10 : Below wr.heap.size wr w10 := by rw [hw10]; exact balloc wr _
              have hor2 : ORow (Kd.sl Kd.byte) (· < w8.heap.size) w10 38 (.slice Ao (k + 1) co2) (allL vs o v k) := hor.keep fun z hz => hb10.block z (hz.elim (fun hz => Nat.lt_of_lt_of_le hz hbw.size) fun hz => hor.lt hz)
              have hel : (Kd.sl Kd.byte).R (· < w8.heap.size) w10 bx [.slice (some a3) lx c3] := ⟨some a3, c3, by rw [hlx], by rw [← hlx]; exact g1, g2, (g3.keep fun z hz => hb10.block z (Nat.lt_of_lt_of_le hz hbz.size)).mono fun z hz => Nat.lt_of_lt_of_le hz Hb18.out.size⟩
              have hnew : w10.heap[wr.heap.size]? = some (.cells #[.slice (some a3) lx c3] 38 (0, 0)) := by rw [hw10]; exact heap_alloc_new wr _
              have Hor2 := hide hor2
              have Hel := hide hel
              have Hnew := hide hnew
              have hone := hide (show ∀ u ∈ [Value.slice (some a3) lx c3], u.oneCell' = true from fun u hu => by simp at hu; subst hu; rfl)
              have hby := hide (show ((allL vs o v k).length + 1) * 24 ≤ 140737488355328 ∧ (allL vs o v k).length + 1 ≤ maxLen from ⟨by rw [hll2]; omega, by rw [hll2]; unfold maxLen; omega⟩)
              have hSc := hide (show ∀ z, z < w8.heap.size → z < w10.heap.size ∧ some z ≠ (Value.slice Ao (k + 1) co2).ownBlock from fun z hz => ⟨by have := hbw.size; have := hb10.size; omega, fun e => by have := hown z e.symm; omega⟩)
              have Hb10 := hide hb10
              have Hw10 := hide hw10
              have Hsu := hide hsu
              have Hown := hide hown
              have Hbw := hide hbw
              have i3 : (0 : Int) ≤ (k : Int) := by omega
              have i4 : (k : Int) < (lo : Int) := by omega
              have i5 : (0 : Int) ≤ (kx : Int) := by omega
              have i6 : (kx : Int) < (all : Int) := by omega
              clear hor hor2 hel hnew hb10 hw10 hva hlx hbx2 hkx hxe hsu hown hbw hbl hll2 hbz g3 hko hu2
              go_wp2_with (at_builtin; rw [← Hw10.out]; with_reducible refine wp_push 52 rfl rfl (.tmp 45) (.tmp 51) 23 rfl Try.underlying23 infoSB ?_ (d := Kd.sl Kd.byte) (S := (· < w8.heap.size)) (xs := allL vs o v k) ?_ Hor2.out (g := wr.heap.size) (y := bx) (cs := [.slice (some a3) lx c3]) ?_ Hnew.out Hel.out hone.out hby.out.1 hby.out.2 hSc.out ?_)
              all_goals first | rfl | skip
              intro v9 w11 hr11 g11 o11
              have hb11 : Below w8.heap.size w8 w11 := (Ch.of_grown g11).below (Hbw.out.trans (Hb10.out.mono Hbw.out.size)) (Nat.le_trans Hbw.out.size Hb10.out.size) Hown.out
              have hown11 : ∀ z, v9.ownBlock = some z → w8.heap.size ≤ z := fun z hz => by
                rcases o11 with e | e
                · exact Hown.out z (e ▸ hz)
                · rw [hz] at e; injection e with e; have := Hbw.out.size; have := Hb10.out.size; omega
              have Hr11 := hide hr11
              have Hb11 := hide hb11
              have Hown11 := hide hown11
              clear hr11 g11 o11 hb11 hown11
              go_wp2_with fail
              exact ⟨⟨k + 1, by omega, by rw [Int.natCast_succ], by rw [Hsu.out]; exact Hr11.out, Hown11.out, Hb11.out⟩, by simp only [intOf]; omega⟩
            · obtain rfl : k = lo := by omega
              have hfull : allL vs o v k = v :: o.map (valAt vs) := by rw [allL, List.take_of_length_le (by rw [← Hlo.out]; exact Nat.le_refl _)]
              have hal : ∀ y ∈ allL vs o v k, y.length = ln := fun y hy => by
                rw [hfull] at hy
                rcases List.mem_cons.1 hy with rfl | hy
                · exact Hln.out.symm
                · obtain ⟨i, hi, rfl⟩ := List.mem_map.1 hy
                  rw [Hvv.out]
                  exact Hwv.out.val (Hkal.out i hi)
              have hln9 : ln ≤ 1000 := by have := Hvv.out; omega
              have hft := fits_calls (ln : Int) Ao (allL vs o v k) co2 (fun z => z < w8.heap.size ∨ (Value.slice Ao (k + 1) co2).ownBlock = some z) wr hco2 (by rw [hll2]; exact hco1) hor.rd
              rw [show fitsB (ln : Int) (allL vs o v k) = true from (fitsB_iff _ _).2 ⟨by omega, fun y hy => by rw [hal y hy]⟩, hll2] at hft
              have hss := refsum_calls ln Ao (allL vs o v k) co2 (fun z => z < w8.heap.size ∨ (Value.slice Ao (k + 1) co2).ownBlock = some z) wr (by omega) hco2 (by rw [hll2]; exact hco1) hal hor.rd (fun z hz => hz.elim (fun hz => Nat.lt_of_lt_of_le hz hbw.size) fun hz => hor.lt hz)
              rw [show sumL (zs ln) (allL vs o v k) = sumL v (o.map (valAt vs)) by rw [hfull, Hln.out]; show sumL (xorL (zs v.length) v) _ = _; rw [zs_xor], hll2] at hss
              have hze := fun (y : World) (g : Nat) (hw : Wr y (some ⟨g, 0, none⟩) g [] [] 5 (sumL v (o.map (valAt vs)))) => refzero_calls (some ⟨g, 0, none⟩) (sumL v (o.map (valAt vs))) ln _ y (by unfold maxLen; omega) (by
                rw [sumL_len ln _ _ Hln.out.symm fun y hy => hal y (by rw [hfull]; exact List.mem_cons_of_mem _ hy)]; exact Nat.le_refl _) hw.rdB
              rw [Hz.out, show (sumL v (o.map (valAt vs))).length = ln from sumL_len ln _ _ Hln.out.symm fun y hy => hal y (by rw [hfull]; exact List.mem_cons_of_mem _ hy)] at hze
              have d2 := keep8 Hq1.out hbz
              have Hft := hide hft
              have Hss := hide hss
              have Hze := hide hze
              have Hbz := hide hbz
              clear hft hss hze hbz hal hfull hor hown hbw hll2
              go_wp2_with fail
              refine Hft.out.mono ?_
              rintro _ w12 ⟨rfl, rfl⟩
              go_wp2_with fail
              refine Hss.out.mono ?_
              rintro _ w13 ⟨rfl, m1, m2, m3⟩
              have Hzr := hide (Hze.out _ _ m1)
              have M3 := hide m3
              clear m1 m2 m3
              go_wp2_with fail
              refine Hzr.out.mono ?_
              rintro _ w14 ⟨rfl, rfl⟩
              go_wp2_with fail
              exact ⟨⟨j + 1, by omega, by rw [Int.natCast_succ], Hbz.out.trans (M3.out.mono Hbz.out.size)⟩, by simp only [intOf]; omega⟩
        · have e2 : decide ((0 : Int) < (ll : Int)) = true := by simp; omega
          have e3 : 0 < ll := by omega
          clear h1
          go_wp2_with fail
          exact ⟨⟨j + 1, by omega, by rw [Int.natCast_succ], Hb18.out⟩, by simp only [intOf]; omega⟩
    · obtain rfl : j = L := by omega
      have Hbx := hide hbx
      clear hbx
      go_wp2_with fail
      exact hR.out _ _ ⟨rfl, Hb1.out.trans (Hbx.out.mono Hb1.out.size)⟩
end Go.Proofs.Ytdppjhfndolbjaa
