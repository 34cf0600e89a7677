/- BatchOrder, walked. -/
import Derived.Test.YtdppjhfndolbjaaBatchTwice
import Derived.Test.YtdppjhfndolbjaaBatOrd1
import Derived.Test.YtdppjhfndolbjaaCat
import Derived.Deep.RegionLaw
set_option linter.unusedVariables false
set_option linter.unusedSimpArgs false
namespace Go.Proofs.Ytdppjhfndolbjaa
open Go.RowKit Go.Maps

theorem wrap_succ (j : Nat) (h : j ≤ 1000) : wrap64 ((j : Int) + 1) = ((j + 1 : Nat) : Int) := by
  rw [IntWalk.wrap64_in _ ⟨by omega, by omega⟩]; rfl
theorem kEq_one {S : Nat → Prop} {w : World} {y : EqB} {cs : List Value} (h : kEq.R S w y cs) : ∀ u ∈ cs, u.oneCell' = true := by
  obtain ⟨_, _, rfl, ⟨_, _, rfl, -⟩, _, _, rfl, -⟩ := h
  intro u hu
  simp at hu
  rcases hu with rfl | rfl <;> rfl
theorem kEq_two {S : Nat → Prop} {w : World} {y : EqB} {u1 u2 : Value} (h : kEq.R S w y [u1, u2]) : ∃ A1 n1 c1 A2 n2 c2, u1 = .slice A1 n1 c1 ∧ u2 = .slice A2 n2 c2 := by
  obtain ⟨_, _, e, ⟨A, c, rfl, -⟩, A', c', rfl, -⟩ := h
  injection e with e1 e2
  injection e2 with e2
  exact ⟨_, _, _, _, _, _, e1, e2⟩
theorem swapE_eq {l : List EqB} {i k : Nat} (hi : i < l.length) (hk : k < l.length) : (l.set i l[k]).set k l[i] = swapE l i k := by
  have gi : l.getD i ([], []) = l[i] := by rw [List.getD_eq_getElem?_getD, List.getElem?_eq_getElem hi]; rfl
  have gk : l.getD k ([], []) = l[k] := by rw [List.getD_eq_getElem?_getD, List.getElem?_eq_getElem hk]; rfl
  rw [swapE, gi, gk]
theorem knT_congr {vs vs' : Vals} (h : ∀ i, knB vs i = knB vs' i) (m : Nat) : knT vs m = knT vs' m := by
  unfold knT
  congr 1
  refine List.filter_congr fun k _ => ?_
  have := h (k : Int)
  rwa [knB_nat, knB_nat] at this
set_option maxHeartbeats 40000000 in
set_option maxRecDepth 100000 in
theorem BatchOrder_calls (al sz : Int) (by0 : Nat) (hby0 : by0 ≤ 255) (hal : 0 ≤ al ∧ al ≤ 255) (hsz : 0 ≤ sz ∧ sz ≤ 255) (Bo Bv : Option Addr) (of : List (List Int)) (vals : List (List UInt8)) (co cv : Nat) (w : World) (hco : of.length ≤ co) (hcom : co ≤ maxLen) (hcv : vals.length ≤ cv) (hcvm : cv ≤ maxLen)
    (ho : RdL (Kd.sl kInt) (· < w.heap.size) w Bo of) (hv : RdL (Kd.sl Kd.byte) (· < w.heap.size) w Bv vals) (hbd : ∀ o ∈ of, o.length ≤ 1000000000000000000) :
    Calls Try.prog 5 #[eqsV al sz Bo of.length co Bv vals.length cv, .int .u8 (by0 : Int)] w fun e w' => e = .returned (.bool true) ∧ Below w.heap.size w w' := by
  refine cps fun R hR => ?_
  obtain ⟨w1, hw1⟩ : ∃ w1, w1 = w.alloc (.cells #[.int .u8 al, .int .u8 sz, .slice Bo of.length co, .slice Bv vals.length cv] 25) := ⟨_, rfl⟩
  have hb1 : Below w.heap.size w w1 := by rw [hw1]; exact balloc w _
  have hh : w1.heap[w.heap.size]? = some (.cells #[.int .u8 al, .int .u8 sz, .slice Bo of.length co, .slice Bv vals.length cv] 25 (0, 0)) := by rw [hw1]; exact heap_alloc_new w _
  obtain ⟨lo, hlo⟩ : ∃ lo, lo = of.length := ⟨_, rfl⟩
  obtain ⟨lv, hlv⟩ : ∃ lv, lv = vals.length := ⟨_, rfl⟩
  rw [← hlo] at hco hw1 hh ⊢
  rw [← hlv] at hcv hw1 hh ⊢
  obtain ⟨n, hn, hn6⟩ : ∃ n : Nat, sz.tmod 6 = (n : Int) ∧ n < 6 := by
    obtain ⟨s, rfl⟩ := Int.eq_ofNat_of_zero_le hsz.1
    exact ⟨s % 6, rfl, Nat.mod_lt _ (by omega)⟩
  obtain ⟨m, hm, hm40⟩ : ∃ m : Nat, al.tmod 40 = (m : Int) ∧ m < 40 := by
    obtain ⟨s, rfl⟩ := Int.eq_ofNat_of_zero_le hal.1
    exact ⟨s % 40, rfl, Nat.mod_lt _ (by omega)⟩
  have Ho := hide ho
  have Hv := hide hv
  have Hbd := hide hbd
  have Hb1 := hide hb1
  have Hh := hide hh
  have Hw1 := hide hw1
  have Hlo := hide hlo
  have Hlv := hide hlv
  have hq := hide (show w.heap.size < w1.heap.size by rw [hw1]; simp)
  clear ho hv hbd hb1 hh hw1 hlo hlv
  go_enter Try.func5, Try.ntmps5
  go_upto_region 1 with fail
  rw [← Hw1.out]
  clear Hw1
  go_wp2_with fail
  refine (bspeaks_calls w1).mono ?_
  rintro _ w2 ⟨rfl, hb2⟩
  have h2 : w2.heap[w.heap.size]? = some (.cells #[.int .u8 al, .int .u8 sz, .slice Bo lo co, .slice Bv lv cv] 25 (0, 0)) := (hb2.block _ hq.out).trans Hh.out
  have c0 : w2.cell? ⟨w.heap.size, 0, none⟩ = some (.int .u8 al) := by rw [cell_of_row _ _ 0 _ _ _ h2]; rfl
  have c1 : w2.cell? ⟨w.heap.size, 1, none⟩ = some (.int .u8 sz) := by rw [cell_of_row _ _ 1 _ _ _ h2]; rfl
  have c2 : w2.cell? ⟨w.heap.size, 2, none⟩ = some (.slice Bo lo co) := by rw [cell_of_row _ _ 2 _ _ _ h2]; rfl
  have c3 : w2.cell? ⟨w.heap.size, 3, none⟩ = some (.slice Bv lv cv) := by rw [cell_of_row _ _ 3 _ _ _ h2]; rfl
  have hb02 := Hb1.out.trans (hb2.mono Hb1.out.size)
  have Hb02 := hide hb02
  have hbig := big_calls Bo of co _ w2 hcom (by rw [← Hlo.out]; exact hco) (Ho.out.below hb02) Hbd.out
  rw [← Hlo.out] at hbig
  have Hbig := hide hbig
  have hq2 := hide (Nat.lt_of_lt_of_le hq.out hb2.size)
  clear hb2 hb02 hbig h2
  go_wp2_with fail
  refine Hbig.out.mono ?_
  rintro _ w3 ⟨bb, rfl, hbb, rfl⟩
  cases bb
  · have hsum := hbb rfl
    have hlen := sumO_len of
    have Hlen := hide (show of.length ≤ 300 ∧ ∀ o ∈ of, o.length ≤ 300 from ⟨by omega, fun o ho => by have := hlen.2 o ho; omega⟩)
    clear hbb hsum hlen
    go_wp2_with fail
    obtain ⟨l1, l2⟩ := hal
    obtain ⟨z1, z2⟩ := hsz
    go_quiet (fail)
    obtain ⟨w4, hw4⟩ : ∃ w4, w4 = w2.drewN nq := ⟨_, rfl⟩
    have hb4 : Below w2.heap.size w2 w4 := by rw [hw4]; exact ⟨rfl, rfl, rfl, Nat.le_refl _, fun _ _ => rfl⟩
    have hb04 := Hb02.out.trans (hb4.mono Hb02.out.size)
    have heqs := eqs_calls al sz n hn hn6 ⟨z1, z2⟩ Bo Bv of vals co cv w4 (by rw [← Hlo.out]; exact hco) hcom (by rw [← Hlv.out]; exact hcv) hcvm ((Ho.out.below hb04).mono fun z hz => Nat.lt_of_lt_of_le hz hb04.size) ((Hv.out.below hb04).mono fun z hz => Nat.lt_of_lt_of_le hz hb04.size) (by have := Hlen.out.1; omega)
    rw [← Hlo.out, ← Hlv.out] at heqs
    have d0 : w4.cell? ⟨w.heap.size, 0, none⟩ = some (.int .u8 al) := (hb4.cell hq2.out).trans c0
    have d1 : w4.cell? ⟨w.heap.size, 1, none⟩ = some (.int .u8 sz) := (hb4.cell hq2.out).trans c1
    have d2 : w4.cell? ⟨w.heap.size, 2, none⟩ = some (.slice Bo lo co) := (hb4.cell hq2.out).trans c2
    have d3 : w4.cell? ⟨w.heap.size, 3, none⟩ = some (.slice Bv lv cv) := (hb4.cell hq2.out).trans c3
    have Heqs := hide heqs
    have Hb04 := hide hb04
    rw [← hw4]
    clear hb4 hb04 heqs c0 c1 c2 c3 hn hm hw4
    go_wp2_with fail
    refine Heqs.out.mono ?_
    rintro _ w5 ⟨vl, vv, Se, rfl, hES⟩
    obtain ⟨Al, cl, rfl, hcl1, hcl2⟩ := hES.rl.shape
    obtain ⟨es, hes⟩ : ∃ es, es = eqN n of vals lo := ⟨_, rfl⟩
    have hesl : es.length = lo := by rw [hes]; simp [eqN]
    have hesm : ∀ e ∈ es, e.1.length ≤ 1000 := fun e he => by
      rw [hes] at he
      exact eqN_small (fun o ho => by have := Hlen.out.2 o ho; omega) he
    rw [← hes] at hES hcl1 ⊢
    rw [hesl] at hES hcl1 ⊢
    have hT5 : ∀ z, (Se z ∨ (Value.slice Al lo cl).ownBlock = some z) → z < w5.heap.size := fun z hz => hz.elim (fun hz => (hES.sb z hz).1) fun hz => hES.rl.lt hz
    have hrd : RdL kEq (· < w5.heap.size) w5 Al es := hES.rl.rd.mono hT5
    have Hrd := hide hrd
    have HES := hide hES
    have Hesl := hide hesl
    have Hesm := hide hesm
    have hl300 : lo ≤ 300 := by have := Hlen.out.1; have := Hlo.out; omega
    have ht0 := hide (show turnE es by0 0 = [] from rfl)
    clear hes hesl hesm hES hT5 hrd d0 d1 d2 d3
    go_wp2_with fail
    go_loopw [9, 38] (fun vt i wr => ∃ j : Nat, j ≤ lo ∧ i = .int .i64 (j : Int) ∧ ORow kEq (· < w5.heap.size) wr 43 vt (turnE es by0 j) ∧ (∀ k, vt.ownBlock = some k → w5.heap.size ≤ k) ∧ Below w5.heap.size w5 wr) (fun _ i _ => lo - (intOf i).toNat)
    case atStart => exact ⟨0, Nat.zero_le _, rfl, by rw [ht0.out]; exact ORow.nil, fun k hk => by simp [Value.ownBlock] at hk, Below.refl _ _⟩
    case round =>
      obtain ⟨j, hj, rfl, hT, hTo, hTb⟩ := hrel
      obtain ⟨At, ct, rfl, hct1, hct2⟩ := hT.shape
      rw [turnE_len] at hT hct1 hTo ⊢
      by_cases hlt : j < lo
      · obtain ⟨p, hp, hpl⟩ : ∃ p : Nat, p = j * (2 * by0 + 1) ∧ p ≤ 300 * 511 := ⟨_, rfl, Nat.mul_le_mul (by omega) (by omega)⟩
        obtain ⟨q, hq', hql⟩ : ∃ q : Nat, q = (p + by0) % lo ∧ q < lo := ⟨_, rfl, Nat.mod_lt _ (by omega)⟩
        have hqt : q = turnI es.length by0 j := by rw [hq', hp, Hesl.out]; rfl
        have e48 : wrap64 ((j : Int) * (2 * (by0 : Int) + 1)) = (p : Int) := by
          have : (j : Int) * (2 * (by0 : Int) + 1) = (p : Int) := by rw [hp]; push_cast; rfl
          rw [this, IntWalk.wrap64_in _ ⟨by omega, by omega⟩]
        have e54 : Int.tmod ((p : Int) + (by0 : Int)) (lo : Int) = (q : Int) := by rw [hq']; rfl
        have i0 : ¬ (lo : Int) = 0 := by omega
        have i1 : (0 : Int) ≤ (q : Int) := by omega
        have i2 : (q : Int) < (lo : Int) := by omega
        have hqe : q < es.length := by rw [Hesl.out]; exact hql
        obtain ⟨bE, oE, A1, c1', A2, c2', eA, hbE, g0, g1, f1, f2, f3⟩ := eq_at Hrd.out hqe
        have hts := turnE_succ es by0 j
        rw [← hqt, List.getD_eq_getElem?_getD, List.getElem?_eq_getElem hqe, Option.getD_some] at hts
        obtain ⟨y, hy⟩ : ∃ y, y = es[q] := ⟨_, rfl⟩
        rw [← hy] at hts g0 g1 f1 f3
        obtain ⟨r1, hr1⟩ : ∃ r1, r1 = y.1.length := ⟨_, rfl⟩
        obtain ⟨r2, hr2⟩ : ∃ r2, r2 = y.2.length := ⟨_, rfl⟩
        rw [← hr1] at g0 f1
        rw [← hr2] at g1
        subst eA
        have k0 : wr.cell? ⟨bE, oE + q * 2, none⟩ = some (.slice A1 r1 c1') := (hTb.cell hbE).trans g0
        have k1 : wr.cell? ⟨bE, oE + q * 2 + 1, none⟩ = some (.slice A2 r2 c2') := (hTb.cell hbE).trans g1
        obtain ⟨o1, ho1⟩ : ∃ o1 : Obj, o1 = .cells #[.slice A1 r1 c1', .slice A2 r2 c2'] 43 := ⟨_, rfl⟩
        have hb0 := balloc wr o1
        have hb01 : Below w5.heap.size w5 (wr.alloc o1) := hTb.alloc hTb.size o1
        have hor : ORow kEq (· < w5.heap.size) (wr.alloc o1) 43 (.slice At j ct) (turnE es by0 j) :=
          hT.keep fun z hz => hb0.block z (hz.elim (fun hz => Nat.lt_of_lt_of_le hz hTb.size) fun hz => hT.lt hz)
        have hel : kEq.R (· < w5.heap.size) (wr.alloc o1) y [.slice A1 r1 c1', .slice A2 r2 c2'] :=
          ⟨[_], [_], rfl, ⟨A1, c1', by rw [hr1], by rw [← hr1]; exact f1, f2, f3.1.keep fun z hz => hb01.block z hz⟩, A2, c2', by rw [hr2], f3.2.1, f3.2.2.1, f3.2.2.2.keep fun z hz => hb01.block z hz⟩
        have Hnew9 := hide (show (wr.alloc o1).heap[wr.heap.size]? = some o1 from heap_alloc_new wr o1)
        have Hor := hide hor
        have Hel := hide hel
        have Hts := hide hts
        have Hb01 := hide hb01
        have HTo := hide hTo
        have hone := hide (show ∀ u ∈ [Value.slice A1 r1 c1', .slice A2 r2 c2'], u.oneCell' = true from fun u hu => by simp at hu; rcases hu with rfl | rfl <;> rfl)
        have hby := hide (show ((turnE es by0 j).length + 1) * 48 ≤ 140737488355328 ∧ (turnE es by0 j).length + 1 ≤ maxLen from ⟨by rw [turnE_len]; omega, by rw [turnE_len]; unfold maxLen; omega⟩)
        have hSc := hide (show ∀ z, z < w5.heap.size → z < (wr.alloc o1).heap.size ∧ some z ≠ (Value.slice At j ct).ownBlock from fun z hz => ⟨by have := hTb.size; simp; omega, fun e => by have := hTo z e.symm; omega⟩)
        subst ho1
        clear hor hel hb0 hb01 hts hTb hT hTo hr1 hr2 hy hp hq' hqt hqe f1 f2 f3 g0 g1 hbE
        go_wp2_with (with_reducible refine stopAt 51 rfl ?_)
        unfold Stopped
        rw [e48]
        clear e48
        go_wp2_with (at_builtin; with_reducible refine wp_push 58 rfl rfl (.tmp 41) (.tmp 57) 28 rfl Try.underlying28 infoEq ?_ (d := kEq) (S := fun z => z < w5.heap.size) (xs := turnE es by0 j) ?_ Hor.out (g := wr.heap.size) (y := y) (cs := [.slice A1 r1 c1', .slice A2 r2 c2']) ?_ Hnew9.out Hel.out hone.out hby.out.1 hby.out.2 hSc.out ?_)
        all_goals first | rfl | skip
        intro v9 w9 hr9 g9 o9
        have HT9 := hide hr9
        have Hb9 := hide (show Below w5.heap.size w5 w9 from (Ch.of_grown g9).below Hb01.out Hb01.out.size fun z hz => HTo.out z hz)
        have Ho9 := hide (show ∀ k, v9.ownBlock = some k → w5.heap.size ≤ k from fun k hk => by
          rcases o9 with e | e
          · exact HTo.out k (e ▸ hk)
          · rw [hk] at e; injection e with e; have := Hb01.out.size; omega)
        obtain ⟨V9, c9, rfl, -, -⟩ := hr9.shape
        rw [List.length_append, turnE_len, List.length_singleton] at HT9 Ho9 ⊢
        clear hr9 g9 o9
        go_wp2_with fail
        exact ⟨⟨j + 1, by omega, by rw [Int.natCast_succ], by rw [Hts.out]; exact HT9.out, Ho9.out, Hb9.out⟩, by simp only [intOf]; omega⟩
      · obtain rfl : lo = j := by omega
        obtain ⟨mb, hmb⟩ : ∃ mb, mb = wr.heap.size := ⟨_, rfl⟩
        obtain ⟨w7, hw7⟩ : ∃ w7, w7 = wr.alloc (.map #[] 0) := ⟨_, rfl⟩
        have hM7 : SeenM w7 mb 0 (seenK lo by0 0) := by rw [hw7, hmb]; exact SeenM.made wr
        have hbr7 : Below wr.heap.size wr w7 := by rw [hw7]; exact balloc wr _
        have hT7 : ORow kEq (· < w5.heap.size) w7 43 (.slice At lo ct) (turnE es by0 lo) := hT.keep fun z hz => hbr7.block z (hz.elim (fun hz => Nat.lt_of_lt_of_le hz hTb.size) fun hz => hT.lt hz)
        have hb7 : Below w5.heap.size w5 w7 := hTb.trans (hbr7.mono hTb.size)
        have hmb5 : w5.heap.size ≤ mb := by rw [hmb]; exact hTb.size
        have hmbT : (Value.slice At lo ct).ownBlock ≠ some mb := fun e => by have := hT.lt e; omega
        have HM7 := hide hM7
        have HT7 := hide hT7
        have HTo := hide hTo
        have Hb7 := hide hb7
        have Hmb := hide hmb
        have Hw7 := hide hw7
        have Hmb5 := hide hmb5
        have HmbT := hide hmbT
        have hmm := @run_makeMap Try.prog
        clear hT hTo hTb hmb hw7 hM7 hbr7 hT7 hb7 hmb5 hmbT
        go_upto_region 14 with fail
        rw [← Hw7.out, ← Hmb.out]
        clear Hw7 Hmb hmm
        go_wp2_with fail
        go_loopw [63] (fun i wr => ∃ j : Nat, j ≤ lo ∧ i = .int .i64 (j : Int) ∧ SeenM wr mb j (seenK lo by0 j) ∧ Ch (fun z => some mb = some z) w7 wr) (fun i _ => lo - (intOf i).toNat)
        case atStart => exact ⟨0, Nat.zero_le _, rfl, HM7.out, Ch.refl _⟩
        case round =>
          obtain ⟨j, hj, rfl, hM, hC⟩ := hrel
          by_cases hlt : j < lo
          · obtain ⟨p, hp, hpl⟩ : ∃ p : Nat, p = j * (2 * by0 + 1) ∧ p ≤ 300 * 511 := ⟨_, rfl, Nat.mul_le_mul (by omega) (by omega)⟩
            obtain ⟨q, hq', hql⟩ : ∃ q : Nat, q = (p + by0) % lo ∧ q < lo := ⟨_, rfl, Nat.mod_lt _ (by omega)⟩
            have hqt : q = turnI lo by0 j := by rw [hq', hp]; rfl
            have e72 : wrap64 ((j : Int) * (2 * (by0 : Int) + 1)) = (p : Int) := by
              have : (j : Int) * (2 * (by0 : Int) + 1) = (p : Int) := by rw [hp]; push_cast; rfl
              rw [this, IntWalk.wrap64_in _ ⟨by omega, by omega⟩]
            have e78 : Int.tmod ((p : Int) + (by0 : Int)) (lo : Int) = (q : Int) := by rw [hq']; rfl
            have i0 : ¬ (lo : Int) = 0 := by omega
            obtain ⟨D, hown, hTd, hsz, hha, hat⟩ := hM
            obtain ⟨c, hcj, hc⟩ := hat q
            have HTd := hide hTd
            have Hsz := hide hsz
            have Hha := hide hha
            have Hat := hide hat
            have Hqt := hide hqt
            have Hc := hide hc
            have HC := hide hC
            have Hj := hide hlt
            have hwd : Hid ((Lit.int .i64 (q : Int)).wf = true) := hide (WalkArith.wf_i64 (by omega))
            clear hTd hsz hha hat hqt hc hC hp hq'
            go_wp2_with (with_reducible refine stopAt 75 rfl ?_)
            unfold Stopped
            rw [e72]
            clear e72
            go_wp2_with (first
              | (at_lookup; refine wpList_lookup_own_int _ rfl _ _ 46 rfl 3 3 .i64 law3 Try.underlying46 Try.underlying3 (zero3 _) mb j _ rfl hown _ _ rfl (keyOf_int_mk Try.underlying3 hwd.out) ?_; intro c' hat' hwc)
              | (at_mapUpdate; refine wpList_mapUpdate_own _ rfl _ _ _ 46 rfl 3 3 law3 Try.underlying46 _ mb j _ rfl hown (by have := Hj.out; unfold maxLen; omega) _ _ _ rfl rfl (keyOf_int_mk Try.underlying3 hwd.out) _ [] (plainElem_int Try.underlying3 (wrap64_wf _)) ?_; intro w9 hown9 hgrow9))
            have hcc : c' = (c : Int) := by
              rw [Hc.out] at hat'
              simpa using hat'.symm
            have e1 : wrap64 (c' + 1) = ((c + 1 : Nat) : Int) := by rw [hcc]; exact wrap_succ c (Nat.le_trans hcj (Nat.le_trans (Nat.le_of_lt Hj.out) (Nat.le_trans hl300 (by decide))))
            rw [e1] at hown9
            clear e1 hat'
            have hM9 := SeenM.put (n := j) (m := j + 1) (x := q) (c := c + 1) HTd.out Hsz.out Hha.out Hat.out (Nat.le_succ j) (Nat.succ_le_succ hcj) hown9
            rw [Hqt.out] at hM9
            have hC9 := HC.out.trans (Ch.of_grown hgrow9) fun b hb => .inl hb
            clear e78 hown9 hgrow9
            exact ⟨⟨j + 1, Nat.succ_le_of_lt Hj.out, by rw [Int.natCast_succ], hM9, hC9⟩, by have := Hj.out; simp only [intOf]; omega⟩
          · obtain rfl : lo = j := by omega
            obtain ⟨D, hown, -, hszD, -, -⟩ := hM
            obtain ⟨sk, hsk⟩ : ∃ sk, sk = (seenK lo by0 lo).length := ⟨_, rfl⟩
            rw [← hsk] at hszD
            have hskl : sk ≤ lo := by rw [hsk]; exact seenK_len lo by0 lo
            have hT9 : ORow kEq (· < w5.heap.size) wr 43 (.slice At lo ct) (turnE es by0 lo) := HT7.out.keep fun z hz => hC.block z (hz.elim (fun hz => Nat.lt_of_lt_of_le hz Hb7.out.size) fun hz => HT7.out.lt hz) fun e => by
              injection e with e; subst e
              rcases hz with hz | hz
              · have := Hmb5.out; omega
              · exact HmbT.out hz
            have hb9 : Below w5.heap.size w5 wr := hC.below Hb7.out Hb7.out.size fun b hb => by injection hb with hb; subst hb; exact Hmb5.out
            obtain ⟨bb, hbb⟩ : ∃ bb : Bool, bb = ((sk : Int) != (lo : Int)) := ⟨_, rfl⟩
            have tt : ((sk : Int) != (lo : Int)) = bb := hbb.symm
            obtain ⟨w8, hw8⟩ : ∃ w8 : World, w8 = wr := ⟨_, rfl⟩
            rw [← hw8] at hT9 hb9 hown ⊢
            have Hbb := hide hbb
            have HszD := hide hszD
            have Hsk := hide hsk
            have HT9 := hide hT9
            have Hb9 := hide hb9
            clear hw8 hbb hszD hsk hT9 hb9 hC HM7 HT7 Hb7 hskl
            go_upto_if 86 with (at_len; refine wpList_len_own _ rfl _ 46 rfl 3 3 Try.underlying46 _ mb lo D rfl hown ?_; rw [HszD.out])
            go_cut [9] from 86 to 113 (fun s9 wx => ∃ (At' : Option Addr) (ct' : Nat) (l2 : List EqB), s9 = .slice At' lo ct' ∧ ORow kEq (· < w5.heap.size) wx 43 (.slice At' lo ct') l2 ∧ l2.length = lo ∧ (∀ e, e ∈ es ↔ e ∈ l2) ∧ (∀ k, (Value.slice At' lo ct').ownBlock = some k → w5.heap.size ≤ k) ∧ Below w5.heap.size w5 wx)
            case first =>
              cases bb
              · clear tt
                go_wp2_with fail
                go_meet
                case rel =>
                  have e1 : sk = lo := by have := Hbb.out; simp at this; omega
                  refine ⟨At, ct, turnE es by0 lo, rfl, HT9.out, turnE_len .., fun e => ?_, HTo.out, Hb9.out⟩
                  have := turnE_full (l := es) (b := by0) (by rw [Hesl.out, ← Hsk.out]; exact e1) e
                  rwa [Hesl.out] at this
              · have hlo0 : 0 < lo := by
                  have h1 := Hbb.out
                  have h2 := Hsk.out
                  have h3 := seenK_len lo by0 lo
                  rcases Nat.eq_zero_or_pos lo with e | e
                  · subst e
                    rw [← h2] at h3
                    have : sk = 0 := by omega
                    subst this
                    simp at h1
                  · exact e
                have Hlit := hide (orow_lit0 (d := kEq) (S := (· < w5.heap.size)) w8 43)
                have Horow := hide (((HES.out.rl.keep (w' := w8.alloc (.cells #[] 43)) fun k hk => (Hb9.out.alloc Hb9.out.size _).block k (hk.elim (fun hk => (HES.out.sb k hk).1) fun hk => HES.out.rl.lt hk)).mono fun k hk => (HES.out.sb k hk).1))
                have hlp := hide (show 0 < es.length by rw [Hesl.out]; exact hlo0)
                have hby := hide (show es.length * 48 ≤ 140737488355328 ∧ es.length ≤ maxLen from ⟨by rw [Hesl.out]; omega, by rw [Hesl.out]; unfold maxLen; omega⟩)
                have hSc := hide (show ∀ k, k < w5.heap.size → k < (w8.alloc (.cells #[] 43)).heap.size ∧ some k ≠ (Value.slice (some ⟨w8.heap.size, 0, none⟩) 0 0).ownBlock from fun k hk => ⟨by have := Hb9.out.size; simp; omega, fun e => by have := Hb9.out.size; injection e with e; simp at e; omega⟩)
                go_wp2_with (at_builtin; with_reducible refine wp_cat 89 rfl rfl (.tmp 87) (.tmp 88) 28 rfl Try.underlying28 infoEq ?_ (S := (· < w5.heap.size)) ?_ Hlit.out (S2 := (· < w5.heap.size)) (ys := es) ?_ Horow.out hlp.out (fun y hy cs => kEq_one) hby.out.1 hby.out.2 hSc.out ?_)
                all_goals first | rfl | skip
                intro v3 w3 hr3 g3 o3
                obtain ⟨Ao, co3, rfl, hc3, hc3m⟩ := hr3.shape
                rw [Hesl.out] at hr3 hc3 ⊢
                obtain ⟨zo, rfl⟩ := hr3.addr (by rw [Hesl.out]; exact hlo0)
                have hzo : w5.heap.size ≤ zo := by
                  have := Hb9.out.size
                  rcases o3 with h | h
                  · have h' : some zo = some w8.heap.size := h
                    injection h' with h'; omega
                  · have h' : some zo = some (w8.alloc (.cells #[] 43)).heap.size := h
                    injection h' with h'; rw [h']; simp; omega
                have hb3 : Below w5.heap.size w5 w3 := (Ch.of_grown g3).below (Hb9.out.alloc Hb9.out.size _) (by have := Hb9.out.size; simp; omega) fun k hk => by have := Hb9.out.size; injection hk with hk; simp at hk; omega
                have Hr3 := hide hr3
                have Hb3 := hide hb3
                have Hzo := hide hzo
                clear hr3 hb3 hzo g3 o3 Hlit Horow hSc hby hlp HT9 tt
                go_wp2_with fail
                go_loopw [13, 14] (fun i k wr => ∃ (a b : Nat) (l2 : List EqB), i = .int .i64 (a : Int) ∧ k = .int .i64 (b : Int) ∧ a + b = lo - 1 ∧ ORow kEq (· < w5.heap.size) wr 43 (.slice (some ⟨zo, 0, none⟩) lo co3) l2 ∧ l2.length = lo ∧ (∀ e, e ∈ es ↔ e ∈ l2) ∧ Below w5.heap.size w5 wr) (fun _ k _ => (intOf k).toNat)
                case atStart => exact ⟨0, lo - 1, es, rfl, by congr 1; omega, by omega, Hr3.out, Hesl.out, fun e => Iff.rfl, Hb3.out⟩
                case round =>
                  obtain ⟨a, b, l2, rfl, rfl, hab, hT, hl2, hm2, hbw⟩ := hrel
                  by_cases hlt : a < b
                  · have hai : a < l2.length := by omega
                    have hbi : b < l2.length := by omega
                    obtain ⟨p1, p2, q1, q2, ⟨hR1, hR2⟩, ⟨a1, a2, a3, a4⟩, ⟨⟨x1, b1⟩, b2, ⟨x2, b3⟩, b4⟩, ⟨⟨x3, c1⟩, c2, ⟨x4, c3⟩, c4⟩, hsw⟩ := orow_swap rfl (hT.keep (w' := wr.drew) fun _ _ => rfl) (fun z hz => by have := Hzo.out; omega) hai hbi
                    obtain ⟨A1, n1, e1, A2, n2, e2, rfl, rfl⟩ := kEq_two hR1
                    obtain ⟨B1, m1, f1, B2, m2, f2, rfl, rfl⟩ := kEq_two hR2
                    clear hR1 hR2
                    have d1 : wr.cell? ⟨zo, a * 2, none⟩ = some _ := a1
                    have d2 : wr.cell? ⟨zo, a * 2 + 1, none⟩ = some _ := a2
                    have d3 : wr.cell? ⟨zo, b * 2, none⟩ = some _ := a3
                    have d4 : wr.cell? ⟨zo, b * 2 + 1, none⟩ = some _ := a4
                    rw [swapE_eq hai hbi] at hsw
                    have z1 : wr.frozen? ⟨zo, a * 2, none⟩ = false := b2
                    have z2 : wr.frozen? ⟨zo, a * 2 + 1, none⟩ = false := by simpa using b4
                    have z3 : wr.frozen? ⟨zo, b * 2, none⟩ = false := by simpa using c2
                    have z4 : wr.frozen? ⟨zo, b * 2 + 1, none⟩ = false := by simpa using c4
                    have hsm := hide (swapE_mem hai hbi)
                    have Hsw := hide hsw
                    have Hm2 := hide hm2
                    have Hbw := hide hbw
                    have Hl2 := hide hl2
                    have i1 : (0 : Int) ≤ (a : Int) := by omega
                    have i2 : (a : Int) < (lo : Int) := by omega
                    have i3 : (0 : Int) ≤ (b : Int) := by omega
                    have i4 : (b : Int) < (lo : Int) := by omega
                    clear hT hsw hm2 hbw hl2 hai hbi b1
                    go_wp2_with fail
                    go_region_law (fail)
                    all_goals
                      go_wp2_with fail
                      have hz := Hzo.out
                      exact ⟨⟨a + 1, b - 1, swapE l2 a b, by rw [Int.natCast_succ], by congr 1; omega, by omega, Hsw.out.keep fun _ _ => rfl, by rw [swapE_len]; exact Hl2.out, fun e => (Hm2.out e).trans (hsm.out e), ((((Hbw.out.setCell (by show w5.heap.size ≤ zo; exact hz) _).setCell (by show w5.heap.size ≤ zo; exact hz) _).setCell (by show w5.heap.size ≤ zo; exact hz) _).setCell (by show w5.heap.size ≤ zo; exact hz) _).drew⟩, by simp only [intOf]; omega⟩
                  · go_wp2_with fail
                    go_meet
                    case rel => exact ⟨_, co3, l2, rfl, hT, hl2, hm2, fun k hk => by have hk' : some zo = some k := hk; injection hk' with hk'; have := Hzo.out; omega, hbw⟩
            case rest =>
              obtain ⟨At2, ct2, l2, rfl, hT2, hl2, hm2, hTo2, hb2⟩ := hcut
              obtain ⟨w9, hw9⟩ : ∃ w9 : World, w9 = wc := ⟨_, rfl⟩
              rw [← hw9] at hT2 hb2 ⊢
              clear hw9
              have hct : lo ≤ ct2 ∧ ct2 ≤ maxLen := by
                obtain ⟨A, c, e, h1, h2⟩ := hT2.shape
                injection e with e1 e2 e3
                subst e3
                exact ⟨by omega, h2⟩
              have hso := solve_calls m n Al es cl (· < w5.heap.size) w9 hcl2 (by rw [Hesl.out]; exact hcl1) (Hrd.out.below hb2) (fun z hz => Nat.lt_of_lt_of_le hz hb2.size) (by omega) (by omega) (by rw [Hesl.out]; omega) Hesm.out
              have hso2 := fun (y : World) (hy : Below w9.heap.size w9 y) => solve_calls m n At2 l2 ct2 (· < w9.heap.size) y hct.2 (by rw [hl2]; exact hct.1) ((hT2.rd.mono fun z hz => hz.elim (fun hz => Nat.lt_of_lt_of_le hz hb2.size) fun hz => hT2.lt hz).below hy) (fun z hz => Nat.lt_of_lt_of_le hz hy.size) (by omega) (by omega) (by rw [hl2]; omega) (fun e he => Hesm.out e ((hm2 e).2 he))
              rw [Hesl.out] at hso
              rw [hl2] at hso2
              have Hso := hide hso
              have Hso2 := hide hso2
              have Hm2 := hide hm2
              have Hb2 := hide hb2
              clear hso hso2 hm2 hb2 hT2 hTo2 hl2 hct
              go_wp2_with fail
              refine Hso.out.mono ?_
              rintro _ wA ⟨vs, vk, gv, S, hfin, rfl, hrs⟩
              have Hbel := hide hrs.bel
              have Hrs := hide hrs
              have Hfin := hide hfin
              clear hrs hfin
              go_wp2_with fail
              refine (Hso2.out wA Hbel.out).mono ?_
              rintro _ wB ⟨vs2, vk2, gv2, S2, hfin2, rfl, hrs2⟩
              obtain ⟨hk, hcf, hve⟩ := fin_same Hfin.out hfin2 Hm2.out
              rw [← hcf]
              obtain ⟨Ak, ck, rfl, hck1, hck2⟩ := Hrs.out.row.shape
              obtain ⟨Ak2, ck2, rfl, hk1, hk2⟩ := hrs2.row.shape
              have hrow := Hrs.out.row
              have hrow2 := hrs2.row
              rw [← knT_congr hk m] at hrs2 hk1 hrow2 ⊢
              obtain ⟨kn, hkn⟩ : ∃ kn, kn = knT vs m := ⟨_, rfl⟩
              rw [List.length_map, ← hkn] at hrs2 hk1 hck1 ⊢
              rw [← hkn] at hrow hrow2
              obtain ⟨cf, hcfe⟩ : ∃ cf, cf = confB m n es vs := ⟨_, rfl⟩
              rw [← hcfe] at hve ⊢
              have hwfk : ∀ x ∈ kn, (Lit.int .i64 x).wf = true := fun x hx => by
                rw [hkn] at hx
                obtain ⟨k, rfl, hk, -⟩ := knT_mem hx
                simp [Lit.wf, IntKind.min, IntKind.max, IntKind.signed, IntKind.bits]; omega
              rw [List.length_map] at hrow hrow2
              obtain ⟨wC, hwC⟩ : ∃ wC, wC = (wB.alloc (.cells #[.slice Ak kn.length ck, .slice (some ⟨gv, 0, none⟩) m m, .bool cf] 33)).alloc (.cells #[.slice Ak2 kn.length ck2, .slice (some ⟨gv2, 0, none⟩) m m, .bool cf] 33) := ⟨_, rfl⟩
              have hbC : Below wB.heap.size wB wC := by rw [hwC]; exact (balloc wB _).alloc (by simp) _
              have hhC1 : wC.heap[wB.heap.size]? = some (.cells #[.slice Ak kn.length ck, .slice (some ⟨gv, 0, none⟩) m m, .bool cf] 33 (0, 0)) := by
                rw [hwC, (balloc (wB.alloc (.cells #[.slice Ak kn.length ck, .slice (some ⟨gv, 0, none⟩) m m, .bool cf] 33)) _).block _ (by simp)]; exact heap_alloc_new wB _
              have hhC2 : wC.heap[wB.heap.size + 1]? = some (.cells #[.slice Ak2 kn.length ck2, .slice (some ⟨gv2, 0, none⟩) m m, .bool cf] 33 (0, 0)) := by
                rw [hwC]
                have := heap_alloc_new (wB.alloc (.cells #[.slice Ak kn.length ck, .slice (some ⟨gv, 0, none⟩) m m, .bool cf] 33)) (.cells #[.slice Ak2 kn.length ck2, .slice (some ⟨gv2, 0, none⟩) m m, .bool cf] 33)
                simpa using this
              have hzC : wC.heap.size = wB.heap.size + 2 := by rw [hwC]; simp
              have hbAB := hrs2.bel
              have hbAC := hbAB.trans (hbC.mono hbAB.size)
              have hvrC := Hrs.out.vr.keep (w' := wC) fun z hz => hbAC.block z (hz.elim (fun hz => (Hrs.out.sb z hz).2) fun hz => by rw [hz]; exact Hrs.out.vr.lt)
              have hvr2C := hrs2.vr.keep (w' := wC) fun z hz => hbC.block z (hz.elim (fun hz => (hrs2.sb z hz).2) fun hz => by rw [hz]; exact hrs2.vr.lt)
              have hrwC := hrow.keep (w' := wC) fun z hz => hbAC.block z (hrow.lt hz)
              have hrw2C := hrow2.keep (w' := wC) fun z hz => hbC.block z (hrow2.lt hz)
              have hsm := same_calls Ak kn ck Ak2 kn ck2 (· < wC.heap.size) wC hck2 hck1 (row_ints hrwC hwfk fun z hz => hrwC.lt hz) hk2 hk1 (row_ints hrw2C hwfk fun z hz => hrw2C.lt hz) (fun z hz => hz)
              rw [sameN_yes] at hsm
              have hstr : ∀ i : Nat, i < m → ∃ A ln c A' ln' c' s s', wC.cell? ⟨gv, i, none⟩ = some (.slice A ln c) ∧ wC.cell? ⟨gv2, i, none⟩ = some (.slice A' ln' c') ∧ (cf = false → s = s') ∧ ∀ y : World, Below wC.heap.size wC y → (convert 38 9 (.slice A ln c)).run Try.prog y = .ok (.string s) y ∧ (convert 38 9 (.slice A' ln' c')).run Try.prog y = .ok (.string s') y := fun i hi => by
                obtain ⟨A, ln, c, g1, g2⟩ := hvrC.str (fun k hk => by have := (Hrs.out.sb k hk).2; have := hbAC.size; omega) hi
                obtain ⟨A', ln', c', g1', g2'⟩ := hvr2C.str (fun k hk => by have := (hrs2.sb k hk).2; omega) hi
                exact ⟨A, ln, c, A', ln', c', _, _, g1, g1', fun h => by rw [hve h], fun y hy => ⟨g2 y hy, g2' y hy⟩⟩
              obtain ⟨pC, hpC⟩ : ∃ pC, pC = wB.heap.size := ⟨_, rfl⟩
              rw [← hpC] at hhC1 hhC2
              have hkn40 : kn.length ≤ 40 := by rw [hkn]; have := knT_len vs m; omega
              have Hstr := hide hstr
              have Hsm := hide hsm
              have HC1 := hide hhC1
              have HC2 := hide hhC2
              have HwC := hide hwC
              have HpC := hide hpC
              have hpC1 := hide (show pC + 1 < wC.heap.size by omega)
              have Hend := hide (show Below w.heap.size w wC from ((Hb04.out.trans (HES.out.bel.mono Hb04.out.size)).trans (Hb2.out.mono (by have := HES.out.bel.size; have := Hb04.out.size; omega))).trans ((Hbel.out.trans (hbAC.mono Hbel.out.size)).mono (by have := HES.out.bel.size; have := Hb04.out.size; have := Hb2.out.size; omega)))
              clear hwfk hbC hhC1 hhC2 hzC hbAB hbAC hvrC hvr2C hrwC hrw2C hsm hstr hwC hpC hrs2 hrow hrow2 hcf hve hk hkn hcfe hfin2 Hfin Hrs Hbel Hso2
              go_upto_region 26 with fail
              rw [← HwC.out, ← HpC.out]
              clear HwC HpC
              have k0 : wC.cell? ⟨pC, 0, none⟩ = some (.slice Ak kn.length ck) := by rw [cell_of_row _ _ 0 _ _ _ HC1.out]; rfl
              have k1 : wC.cell? ⟨pC, 1, none⟩ = some (.slice (some ⟨gv, 0, none⟩) m m) := by rw [cell_of_row _ _ 1 _ _ _ HC1.out]; rfl
              have k2 : wC.cell? ⟨pC, 2, none⟩ = some (.bool cf) := by rw [cell_of_row _ _ 2 _ _ _ HC1.out]; rfl
              have m0 : wC.cell? ⟨pC + 1, 0, none⟩ = some (.slice Ak2 kn.length ck2) := by rw [cell_of_row _ _ 0 _ _ _ HC2.out]; rfl
              have m1 : wC.cell? ⟨pC + 1, 1, none⟩ = some (.slice (some ⟨gv2, 0, none⟩) m m) := by rw [cell_of_row _ _ 1 _ _ _ HC2.out]; rfl
              have m2 : wC.cell? ⟨pC + 1, 2, none⟩ = some (.bool cf) := by rw [cell_of_row _ _ 2 _ _ _ HC2.out]; rfl
              have tcf : (cf != cf) = false := by cases cf <;> rfl
              go_wp2_with fail
              refine Hsm.out.mono ?_
              rintro _ wD ⟨rfl, hbD⟩
              have n1 := keep8 k1 hbD
              have n2 := keep8 k2 hbD
              have r1 := keep8 m1 hbD
              have r2 := keep8 m2 hbD
              have HbD := hide hbD
              clear k0 m0 hbD
              go_wp2_with fail
              go_loopw [138] (fun i wr => ∃ j : Nat, j ≤ m ∧ i = .int .i64 (j : Int) ∧ Below wC.heap.size wC wr) (fun i _ => m - (intOf i).toNat)
              case atStart => exact ⟨0, Nat.zero_le _, rfl, HbD.out⟩
              case round =>
                obtain ⟨j, hj, rfl, hbw⟩ := hrel
                have n1' := keep8 k1 hbw
                have n2' := keep8 k2 hbw
                have n3' := keep8 m1 hbw
                by_cases hlt : j < m
                · obtain ⟨A, ln, c, A', ln', c', sx, sy, g1, g2, hs, g3⟩ := Hstr.out j hlt
                  have g4 := keep8 g1 hbw
                  have g5 := keep8 g2 hbw
                  have q1 := fun q => (g3 (wr.drewN q) ⟨hbw.os, hbw.tape, hbw.output, hbw.size, hbw.block⟩).1
                  have q2 := fun q => (g3 (wr.drewN q) ⟨hbw.os, hbw.tape, hbw.output, hbw.size, hbw.block⟩).2
                  have i1 : (0 : Int) ≤ (j : Int) := by omega
                  have i2 : (j : Int) < (m : Int) := by omega
                  have Hbw := hide hbw
                  clear g1 g2 g3 hbw k1 k2 m1 m2 n1 n2 r1 r2
                  cases cf
                  · obtain rfl := hs rfl
                    clear hs
                    have q3 : (sx.toList != sx.toList) = false := by simp
                    go_wp2_with fail
                    go_quiet (fail)
                    go_wp2_with fail
                    exact ⟨⟨j + 1, by omega, by rw [Int.natCast_succ], ⟨Hbw.out.os, Hbw.out.tape, Hbw.out.output, Hbw.out.size, Hbw.out.block⟩⟩, by simp only [intOf]; omega⟩
                  · clear hs
                    go_wp2_with fail
                    go_quiet (fail)
                    go_wp2_with fail
                    exact ⟨⟨j + 1, by omega, by rw [Int.natCast_succ], ⟨Hbw.out.os, Hbw.out.tape, Hbw.out.output, Hbw.out.size, Hbw.out.block⟩⟩, by simp only [intOf]; omega⟩
                · obtain rfl : j = m := by omega
                  have Hbw := hide hbw
                  clear hbw
                  go_wp2_with fail
                  exact hR.out _ _ ⟨rfl, Hend.out.trans (Hbw.out.mono Hend.out.size)⟩
  · go_wp2_with fail
    exact hR.out _ _ ⟨rfl, Hb02.out⟩
end Go.Proofs.Ytdppjhfndolbjaa
