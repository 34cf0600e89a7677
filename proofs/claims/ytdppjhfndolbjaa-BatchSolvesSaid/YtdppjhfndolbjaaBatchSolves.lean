/- BatchSolves, walked. -/
import Derived.Test.YtdppjhfndolbjaaBatchTwice
import Derived.Test.YtdppjhfndolbjaaBatV
set_option linter.unusedVariables false
set_option linter.unusedSimpArgs false
namespace Go.Proofs.Ytdppjhfndolbjaa
open Go.RowKit

theorem zipE_valN (n : Nat) (of : List (List Int)) (vals : List (List UInt8)) (k : Nat) : zipE of (valN n vals k) k = eqN n of vals k := by
  unfold zipE eqN
  refine List.map_congr_left fun i hi => ?_
  have hi' := List.mem_range.1 hi
  congr 1
  rw [valN, List.getD_eq_getElem?_getD, List.getElem?_map, List.getElem?_range hi']; rfl
theorem valN_len (n : Nat) (vals : List (List UInt8)) (k : Nat) : (valN n vals k).length = k := by simp [valN]
theorem valN_mem {n : Nat} {vals : List (List UInt8)} {k : Nat} {v : List UInt8} (h : v ∈ valN n vals k) : v.length = n := by
  obtain ⟨i, -, rfl⟩ := List.mem_map.1 h
  exact padN_len _ _
theorem kOb_str {S : Nat → Prop} {w : World} {x : Option (List UInt8)} {u : Value} (h : kOb.R S w x [u]) (hS : ∀ k, S k → k < w.heap.size) : ∃ A c, u = .slice A (x.getD []).length c ∧ ∀ y : World, Below w.heap.size w y → (convert 38 9 u).run Try.prog y = .ok (.string (bstr (x.getD []))) y := by
  cases x with
  | none =>
    have h' : [u] = [.slice none 0 0] := h
    injection h' with h1
    subst h1
    exact ⟨none, 0, rfl, fun y _ => run_str (xs := []) Try.underlying38 Try.underlying5 Try.underlying9 Src.nil 0⟩
  | some b =>
    obtain ⟨a, c, e, h1, h2, h3⟩ := h
    injection e with e1
    subst e1
    exact ⟨some a, c, rfl, fun y hy => run_str Try.underlying38 Try.underlying5 Try.underlying9 ((h3.keep (w' := y) fun z hz => hy.block z (hS z hz)).srcB) c⟩
theorem val_len {all size : Nat} {vs : Vals} (h : WV all size vs) {i : Nat} (hi : i < vs.length) : ((vs[i]).getD []).length = if knB vs (i : Int) = true then size else 0 := by
  rcases val_cell hi with ⟨h1, h2⟩ | ⟨h1, h2⟩
  · rw [h1, h2]; rfl
  · rw [if_pos h1, h2]
    exact h.val h1
set_option maxHeartbeats 40000000 in
set_option maxRecDepth 100000 in
theorem BatchSolves_calls (al sz : Int) (hal : 0 ≤ al ∧ al ≤ 255) (hsz : 0 ≤ sz ∧ sz ≤ 255) (Bo Bv : Option Addr) (of : List (List Int)) (vals : List (List UInt8)) (co cv : Nat) (w : World) (hco : of.length ≤ co) (hcom : co ≤ maxLen) (hcv : vals.length ≤ cv) (hcvm : cv ≤ maxLen)
    (ho : RdL (Kd.sl kInt) (· < w.heap.size) w Bo of) (hv : RdL (Kd.sl Kd.byte) (· < w.heap.size) w Bv vals) (hbd : ∀ o ∈ of, o.length ≤ 1000000000000000000) :
    Calls Try.prog 3 #[eqsV al sz Bo of.length co Bv vals.length cv] w fun e w' => e = .returned (.bool true) ∧ Below w.heap.size w w' := by
  refine cps fun R hR => ?_
  obtain ⟨w1, hw1⟩ : ∃ w1, w1 = w.alloc (.cells #[.int .u8 al, .int .u8 sz, .slice Bo of.length co, .slice Bv vals.length cv] 25) := ⟨_, rfl⟩
  have hb1 : Below w.heap.size w w1 := by rw [hw1]; exact balloc w _
  have hh : w1.heap[w.heap.size]? = some (.cells #[.int .u8 al, .int .u8 sz, .slice Bo of.length co, .slice Bv vals.length cv] 25 (0, 0)) := by rw [hw1]; exact heap_alloc_new w _
  obtain ⟨lo, hlo⟩ : ∃ lo, lo = of.length := ⟨_, rfl⟩
  obtain ⟨lv, hlv⟩ : ∃ lv, lv = vals.length := ⟨_, rfl⟩
  rw [← hlo] at hco hw1 hh ⊢
  rw [← hlv] at hcv hw1 hh ⊢
  obtain ⟨n, hn, hn6⟩ : ∃ n : Nat, sz.tmod 6 = (n : Int) ∧ n < 6 := by
    obtain ⟨s, rfl⟩ := Int.eq_ofNat_of_zero_le hsz.1
    exact ⟨s % 6, rfl, Nat.mod_lt _ (by omega)⟩
  obtain ⟨m, hm, hm40⟩ : ∃ m : Nat, al.tmod 40 = (m : Int) ∧ m < 40 := by
    obtain ⟨s, rfl⟩ := Int.eq_ofNat_of_zero_le hal.1
    exact ⟨s % 40, rfl, Nat.mod_lt _ (by omega)⟩
  have Ho := hide ho
  have Hv := hide hv
  have Hbd := hide hbd
  have Hb1 := hide hb1
  have Hh := hide hh
  have Hw1 := hide hw1
  have Hlo := hide hlo
  have Hlv := hide hlv
  have hq := hide (show w.heap.size < w1.heap.size by rw [hw1]; simp)
  clear ho hv hbd hb1 hh hw1 hlo hlv
  go_enter Try.func3, Try.ntmps3
  go_upto_region 1 with fail
  rw [← Hw1.out]
  clear Hw1
  go_wp2_with fail
  refine (bspeaks_calls w1).mono ?_
  rintro _ w2 ⟨rfl, hb2⟩
  have h2 : w2.heap[w.heap.size]? = some (.cells #[.int .u8 al, .int .u8 sz, .slice Bo lo co, .slice Bv lv cv] 25 (0, 0)) := (hb2.block _ hq.out).trans Hh.out
  have c0 : w2.cell? ⟨w.heap.size, 0, none⟩ = some (.int .u8 al) := by rw [cell_of_row _ _ 0 _ _ _ h2]; rfl
  have c1 : w2.cell? ⟨w.heap.size, 1, none⟩ = some (.int .u8 sz) := by rw [cell_of_row _ _ 1 _ _ _ h2]; rfl
  have c2 : w2.cell? ⟨w.heap.size, 2, none⟩ = some (.slice Bo lo co) := by rw [cell_of_row _ _ 2 _ _ _ h2]; rfl
  have c3 : w2.cell? ⟨w.heap.size, 3, none⟩ = some (.slice Bv lv cv) := by rw [cell_of_row _ _ 3 _ _ _ h2]; rfl
  have hb02 := Hb1.out.trans (hb2.mono Hb1.out.size)
  have Hb02 := hide hb02
  have hbig := big_calls Bo of co _ w2 hcom (by rw [← Hlo.out]; exact hco) (Ho.out.below hb02) Hbd.out
  rw [← Hlo.out] at hbig
  have Hbig := hide hbig
  have hq2 := hide (Nat.lt_of_lt_of_le hq.out hb2.size)
  clear hb2 hb02 hbig h2
  go_wp2_with fail
  refine Hbig.out.mono ?_
  rintro _ w3 ⟨bb, rfl, hbb, rfl⟩
  cases bb
  · have hsum := hbb rfl
    have hlen := sumO_len of
    have Hlen := hide (show of.length ≤ 300 ∧ ∀ o ∈ of, o.length ≤ 300 from ⟨by omega, fun o ho => by have := hlen.2 o ho; omega⟩)
    clear hbb hsum hlen
    go_wp2_with fail
    obtain ⟨l1, l2⟩ := hal
    obtain ⟨z1, z2⟩ := hsz
    go_quiet (fail)
    obtain ⟨w4, hw4⟩ : ∃ w4, w4 = w2.drewN nq := ⟨_, rfl⟩
    have hb4 : Below w2.heap.size w2 w4 := by rw [hw4]; exact ⟨rfl, rfl, rfl, Nat.le_refl _, fun _ _ => rfl⟩
    have hb04 := Hb02.out.trans (hb4.mono Hb02.out.size)
    have heqs := eqs_calls al sz n hn hn6 ⟨z1, z2⟩ Bo Bv of vals co cv w4 (by rw [← Hlo.out]; exact hco) hcom (by rw [← Hlv.out]; exact hcv) hcvm ((Ho.out.below hb04).mono fun z hz => Nat.lt_of_lt_of_le hz hb04.size) ((Hv.out.below hb04).mono fun z hz => Nat.lt_of_lt_of_le hz hb04.size) (by have := Hlen.out.1; omega)
    rw [← Hlo.out, ← Hlv.out] at heqs
    have d0 : w4.cell? ⟨w.heap.size, 0, none⟩ = some (.int .u8 al) := (hb4.cell hq2.out).trans c0
    have d1 : w4.cell? ⟨w.heap.size, 1, none⟩ = some (.int .u8 sz) := (hb4.cell hq2.out).trans c1
    have d2 : w4.cell? ⟨w.heap.size, 2, none⟩ = some (.slice Bo lo co) := (hb4.cell hq2.out).trans c2
    have d3 : w4.cell? ⟨w.heap.size, 3, none⟩ = some (.slice Bv lv cv) := (hb4.cell hq2.out).trans c3
    have Heqs := hide heqs
    have Hb04 := hide hb04
    rw [← hw4]
    clear hb4 hb04 heqs c0 c1 c2 c3 hn hm hw4
    go_wp2_with fail
    refine Heqs.out.mono ?_
    rintro _ w5 ⟨vl, vv, Se, rfl, hES⟩
    obtain ⟨Al, cl, rfl, hcl1, hcl2⟩ := hES.rl.shape
    obtain ⟨es, hes⟩ : ∃ es, es = eqN n of vals lo := ⟨_, rfl⟩
    have hesl : es.length = lo := by rw [hes]; simp [eqN]
    have hesm : ∀ e ∈ es, e.1.length ≤ 1000 := fun e he => by
      rw [hes] at he
      exact eqN_small (fun o ho => by have := Hlen.out.2 o ho; omega) he
    rw [← hes] at hES hcl1 ⊢
    rw [hesl] at hES hcl1 ⊢
    have hT5 : ∀ z, (Se z ∨ (Value.slice Al lo cl).ownBlock = some z) → z < w5.heap.size := fun z hz => hz.elim (fun hz => (hES.sb z hz).1) fun hz => hES.rl.lt hz
    have hso := solve_calls m n Al es cl (fun z => Se z ∨ (Value.slice Al lo cl).ownBlock = some z) w5 hcl2 (by rw [hesl]; exact hcl1) hES.rl.rd (fun z hz => hz.elim (fun hz => (hES.sb z hz).1) fun hz => hES.rl.lt hz) (by omega) (by omega) (by have := Hlen.out.1; have := Hlo.out; omega) hesm
    rw [hesl] at hso
    obtain ⟨Aw, cw, rfl, hcw1, hcw2⟩ := hES.rv.shape
    rw [valN_len] at hES hcw1 ⊢
    have Hso := hide hso
    have HES := hide hES
    have Hesl := hide hesl
    have Hesm := hide hesm
    have Hes := hide hes
    have hl300 : lo ≤ 300 := by have := Hlen.out.1; have := Hlo.out; omega
    clear hes hesl hesm hES hso
    go_wp2_with fail
    refine Hso.out.mono ?_
    rintro _ w6 ⟨vs, vk, gv, S, hfin, rfl, hrs⟩
    obtain ⟨Ak, ck, rfl, hck1, hck2⟩ := hrs.row.shape
    obtain ⟨kn, hkn⟩ : ∃ kn, kn = knT vs m := ⟨_, rfl⟩
    have hrow := hrs.row
    rw [List.length_map, ← hkn] at hrs hck1 hrow ⊢
    obtain ⟨w7, hw7⟩ : ∃ w7, w7 = w6.alloc (.cells #[.slice Ak kn.length ck, .slice (some ⟨gv, 0, none⟩) m m, .bool (confB m n es vs)] 33) := ⟨_, rfl⟩
    have hb7 : Below w6.heap.size w6 w7 := by rw [hw7]; exact balloc w6 _
    have hh7 : w7.heap[w6.heap.size]? = some (.cells #[.slice Ak kn.length ck, .slice (some ⟨gv, 0, none⟩) m m, .bool (confB m n es vs)] 33 (0, 0)) := by rw [hw7]; exact heap_alloc_new w6 _
    obtain ⟨p7, hp7⟩ : ∃ p7, p7 = w6.heap.size := ⟨_, rfl⟩
    have hb57 : Below w5.heap.size w5 w7 := hrs.bel.trans (hb7.mono hrs.bel.size)
    have hb47 : Below w4.heap.size w4 w7 := HES.out.bel.trans (hb57.mono HES.out.bel.size)
    have hb07 := Hb04.out.trans (hb47.mono Hb04.out.size)
    have g2 := keep8 d2 hb47
    have g0 := keep8 d0 hb47
    have g1 := keep8 d1 hb47
    have g3 := keep8 d3 hb47
    obtain ⟨cf, hcf⟩ : ∃ cf, cf = confB m n es vs := ⟨_, rfl⟩
    rw [← hcf] at hw7 hh7 ⊢
    rw [← hp7] at hh7
    have k0 : w7.cell? ⟨p7, 0, none⟩ = some (.slice Ak kn.length ck) := by rw [cell_of_row _ _ 0 _ _ _ hh7]; rfl
    have k1 : w7.cell? ⟨p7, 1, none⟩ = some (.slice (some ⟨gv, 0, none⟩) m m) := by rw [cell_of_row _ _ 1 _ _ _ hh7]; rfl
    have k2 : w7.cell? ⟨p7, 2, none⟩ = some (.bool cf) := by rw [cell_of_row _ _ 2 _ _ _ hh7]; rfl
    have hof7 : RdL (Kd.sl kInt) (· < w7.heap.size) w7 Bo of := (Ho.out.below hb07).mono fun z hz => Nat.lt_of_lt_of_le hz hb07.size
    have hvl7 : RdL (Kd.sl Kd.byte) (· < w7.heap.size) w7 Aw (valN n vals lo) := (HES.out.rv.rd.mono fun z hz => hz.elim (fun hz => (HES.out.sb z hz).1) fun hz => HES.out.rv.lt hz).keep (fun z hz => hb57.block z hz) |>.mono fun z hz => Nat.lt_of_lt_of_le hz hb57.size
    have hrv := rsolve_calls m n Bo Aw of (valN n vals lo) co cw lo (· < w7.heap.size) w7 hco hcom hcw1 hcw2 Hlo.out (valN_len n vals lo).symm (by omega) hof7 hvl7 (fun z hz => hz) (by omega) (by omega) (fun o ho => by have := Hlen.out.2 o ho; omega) (fun v hv => valN_mem hv)
    rw [zipE_valN, ← Hes.out] at hrv
    have hkr7 : RdL kInt (· < w7.heap.size) w7 Ak kn := row_ints (hrow.keep (w' := w7) fun z hz => hb7.block z (hrow.lt hz)) (by rw [hkn]; exact knT_wf (by omega)) (fun z hz => Nat.lt_of_lt_of_le (hrow.lt hz) hb7.size)
    have hvo7 : RdL kOb (· < w7.heap.size) w7 (some ⟨gv, 0, none⟩) vs := ((hrs.vr.keep (w' := w7) fun z hz => hb7.block z (hz.elim (fun hz => (hrs.sb z hz).2) fun hz => by rw [hz]; exact hrs.vr.lt)).rd).mono fun z hz => Nat.lt_of_lt_of_le (hz.elim (fun hz => (hrs.sb z hz).2) fun hz => by rw [hz]; exact hrs.vr.lt) hb7.size
    have hwv : WV m n vs := hfin.der.wv
    have Hrv := hide hrv
    have Hof7 := hide hof7
    have Hvl7 := hide hvl7
    have Hkr7 := hide hkr7
    have Hvo7 := hide hvo7
    have Hwv := hide hwv
    have Hkn := hide hkn
    have Hcf := hide hcf
    have Hw7 := hide hw7
    have Hp7 := hide hp7
    have Hb07 := hide hb07
    have Hfin := hide hfin
    have hn40 := hide (show kn.length ≤ 40 by rw [hkn]; have := knT_len vs m; omega)
    clear hrs hrow hkn hcf hw7 hb7 hh7 hp7 hb57 hb47 hb07 hrv hof7 hvl7 hkr7 hvo7 hwv hfin d0 d1 d2 d3 Hso
    go_upto_region 8 with fail
    rw [← Hw7.out, ← Hp7.out]
    clear Hw7
    go_wp2_with fail
    refine Hrv.out.mono ?_
    rintro _ w8 ⟨vs2, vk2, vo2, S2, hfin2, rfl, hq8⟩
    obtain rfl := hfin2.one Hfin.out
    rw [← Hcf.out]
    obtain ⟨Ak2, ck2, Ao2, co2, rfl, hk1, hk2, rfl, hv1, hv2⟩ := hq8.shape
    rw [← Hkn.out] at hq8 hk1 ⊢
    have hb78 : Below w7.heap.size w7 w8 := hq8.fk.bel
    have hsm := same_calls Ak kn ck Ak2 kn ck2 (· < w8.heap.size) w8 hck2 hck1 (rd_all Hkr7.out (fun z hz => hz) hb78) hk2 hk1 (by have := hq8.rdK (by omega); rwa [← Hkn.out] at this) (fun z hz => hz)
    rw [sameN_yes] at hsm
    have m0 := keep8 k0 hb78
    have m1 := keep8 k1 hb78
    have m2 := keep8 k2 hb78
    have tcf : (cf == !cf) = false := by cases cf <;> rfl
    obtain ⟨ag, hag⟩ : ∃ ag : Bool, ag = !cf := ⟨_, rfl⟩
    rw [← hag] at tcf ⊢
    have Hag := hide hag
    have Hq8 := hide hq8
    have Hsm := hide hsm
    have Hb78 := hide hb78
    clear hag hq8 hsm hb78 hfin2
    go_wp2_with fail
    refine Hsm.out.mono ?_
    rintro _ w9 ⟨rfl, hb9⟩
    have n1 := keep8 m1 hb9
    have n2 := keep8 m2 hb9
    have Hb9 := hide hb9
    have hmm : ((m : Int) != (m : Int)) = false := by simp
    clear m0 hb9
    go_wp2_with fail
    go_loopw [67] (fun i wr => ∃ j : Nat, j ≤ m ∧ i = .int .i64 (j : Int) ∧ Below w9.heap.size w9 wr) (fun i _ => m - (intOf i).toNat)
    case atStart => exact ⟨0, Nat.zero_le _, rfl, Below.refl _ _⟩
    case round =>
      obtain ⟨j, hj, rfl, hbw⟩ := hrel
      have hb8r : Below w8.heap.size w8 wr := Hb9.out.trans (hbw.mono Hb9.out.size)
      have hb7r : Below w7.heap.size w7 wr := Hb78.out.trans (hb8r.mono Hb78.out.size)
      by_cases hlt : j < m
      · have hjv : j < vs2.length := by rw [Hwv.out.len]; exact hlt
        obtain ⟨b1, off1, u1, e1, -, hu1, hc1⟩ := (Hvo7.out.keep (w' := wr) fun z hz => hb7r.block z hz).at1 rfl hjv
        injection e1 with e1; injection e1 with e11 e12
        subst e11; subst e12
        rw [Nat.zero_add] at hc1
        obtain ⟨q2, u2, e2, hc2, hu2⟩ := (Hq8.out.fv.keep (w' := wr) fun z hz => hb8r.block z ((Hq8.out.sb z hz).2)).at hjv
        obtain ⟨A1, c1', rfl, hs1⟩ := kOb_str hu1 fun z hz => Nat.lt_of_lt_of_le hz hb7r.size
        obtain ⟨A2, c2', rfl, hs2⟩ := kOb_str hu2 fun z hz => Nat.lt_of_lt_of_le ((Hq8.out.sb z (.inl hz)).2) hb8r.size
        have hln := val_len Hwv.out hjv
        obtain ⟨ln, hlne⟩ : ∃ ln, ln = ((vs2[j]).getD []).length := ⟨_, rfl⟩
        obtain ⟨str, hstr⟩ : ∃ str, str = bstr ((vs2[j]).getD []) := ⟨_, rfl⟩
        rw [← hlne] at hc1 hc2 hs1 hs2 hln
        rw [← hstr] at hs1 hs2
        have hha := rhas_calls Ak2 kn ck2 (j : Int) (· < wr.heap.size) wr hk2 hk1 (rd_all (by have := Hq8.out.rdK (by omega); rwa [← Hkn.out] at this) (fun z hz => hz) hb8r)
        rw [Hkn.out, has_kn Hwv.out.len, ← Hkn.out] at hha
        obtain ⟨th, hth⟩ : ∃ th, th = knB vs2 (j : Int) := ⟨_, rfl⟩
        rw [← hth] at hha hln
        have p1 := fun q => hs1 (wr.drewN q) (drewN0 (Below.refl _ _) q)
        have p2 := fun q => hs2 (wr.drewN q) (drewN0 (Below.refl _ _) q)
        have q3 : (str.toList != str.toList) = false := by simp
        have i1 : (0 : Int) ≤ (j : Int) := by omega
        have i2 : (j : Int) < (m : Int) := by omega
        have Hha := hide hha
        have Hln := hide hln
        have Hbw := hide hbw
        subst e2
        clear hha hln hbw hb8r hb7r hlne hstr hth hs1 hs2 hu1 hu2 n1 n2 m1 m2 hjv
        go_wp2_with fail
        refine Hha.out.mono ?_
        rintro _ w10 ⟨rfl, rfl⟩
        cases th
        · have hl0 : ln = 0 := by simpa using Hln.out
          subst hl0
          have t0 : decide ((0 : Int) < (0 : Int)) = false := rfl
          cases ag
          all_goals
            go_wp2_with fail
            go_quiet (fail)
            go_wp2_with fail
            exact ⟨⟨j + 1, by omega, by rw [Int.natCast_succ], drewN0 Hbw.out nq⟩, by simp only [intOf]; omega⟩
        · have hl0 : ln = n := by simpa using Hln.out
          subst hl0
          have t0 : ((ln : Int) != (ln : Int)) = false := by simp
          cases ag
          all_goals
            go_wp2_with fail
            go_quiet (fail)
            go_wp2_with fail
            exact ⟨⟨j + 1, by omega, by rw [Int.natCast_succ], drewN0 Hbw.out nq⟩, by simp only [intOf]; omega⟩
      · obtain rfl : j = m := by omega
        cases ag
        · have Hb8r := hide (Hb07.out.trans (hb7r.mono Hb07.out.size))
          clear hbw hb8r hb7r n1 n2 m1 m2
          go_wp2_with fail
          exact hR.out _ _ ⟨rfl, Hb8r.out⟩
        · have hcf0 : cf = false := by have := Hag.out; simpa using this.symm
          subst hcf0
          have hho := holds_calls j n al sz Bo Bv Aw Ak gv false of (valN n vals lo) kn vs2 co lv cv cw ck lo wr hco hcom hcw1 hcw2 hck1 hck2 Hlo.out (valN_len n vals lo).symm (by omega) (rd_all Hof7.out (fun z hz => hz) hb7r) (rd_all Hvl7.out (fun z hz => hz) hb7r) (rd_all Hkr7.out (fun z hz => hz) hb7r) (rd_all Hvo7.out (fun z hz => hz) hb7r) (by omega) (by omega) (fun o ho => by have := Hlen.out.2 o ho; omega) (fun v hv => valN_mem hv) Hkn.out Hwv.out (fun k h1 h2 hf hl => by
            have hke : k < es.length := by rw [Hesl.out]; rw [valN_len] at h2; exact h2
            have he : es[k] = (of[k], (valN n vals lo)[k]) := by
              have := zipE_at (of := of) (vals := valN n vals lo) (n := lo) (k := k) (by rw [valN_len] at h2; exact h2) (by rw [← Hlo.out]; exact Nat.le_refl _) (by rw [valN_len]; exact Nat.le_refl _)
              simp only [Hes.out, ← zipE_valN]
              exact this
            have hra := rest_all (v := (valN n vals lo)[k]) hl
            rw [hra.1]
            refine noconf (es := es) Hcf.out.symm (e := (of[k], (valN n vals lo)[k])) (by rw [← he]; exact List.getElem_mem hke) ?_ hra.2
            have h3 : decide ((((valN n vals lo)[k]).length : Int) = (n : Int)) = true := by rw [valN_mem (List.getElem_mem h2)]; simp
            show (fitsI (j : Int) of[k] && decide ((((valN n vals lo)[k]).length : Int) = (n : Int))) = true
            rw [hf, h3]; rfl)
          have e0 := keep8 k0 hb7r
          have e1 := keep8 k1 hb7r
          have e2 := keep8 k2 hb7r
          have f0 := keep8 g0 hb7r
          have f1 := keep8 g1 hb7r
          have f2 := keep8 g2 hb7r
          have f3 := keep8 g3 hb7r
          have Hho := hide hho
          have Hb7r := hide (Hb07.out.trans (hb7r.mono Hb07.out.size))
          clear hho hbw hb8r hb7r n1 n2 m1 m2
          go_wp2_with fail
          refine Hho.out.mono ?_
          rintro _ w10 ⟨rfl, hb10⟩
          have Hb10 := hide hb10
          clear hb10
          go_wp2_with fail
          exact hR.out _ _ ⟨rfl, Hb7r.out.trans (Hb10.out.mono Hb7r.out.size)⟩
  · go_wp2_with fail
    exact hR.out _ _ ⟨rfl, Hb02.out⟩
end Go.Proofs.Ytdppjhfndolbjaa
