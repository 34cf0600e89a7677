/- WholeShares, walked. -/
import Derived.Test.YtakbkopekcmcjaaShare1
import Derived.Test.YtakbkopekcmcjaaWholeSeeds
import Derived.Maps.Own
import Derived.Maps.OwnOps
import Derived.Maps.Views
import Derived.WalkKit
set_option linter.unusedVariables false
set_option linter.unusedSimpArgs false
namespace Go.Proofs.Ytakbkopekcmcjaa
open Go.RowKit Go.Maps

theorem law3 : Keyed Try.prog 3 := int_keyed Try.underlying3
theorem zero3 (w : World) : (zeroValue 3).run Try.prog w = .ok (.int .i64 0) w := by kernel_rfl
/-- Block B is a map that holds the counts cn of 1 to 4, and no more than n others. -/
def MapC (w : World) (B n : Nat) (cn : Nat → Nat) : Prop :=
  ∃ D : DataW Unit, w.ownsMap Try.prog 3 (plainElem Try.prog 3) B n D ∧ Go.Maps.IsMap D ∧ ∀ d : Nat, d ≤ 4 → D.atKey (.int .i64 (d : Int)) (.lit (.int .i64 0)) = .lit (.int .i64 (cn d : Int))
theorem cntN_all {s d : Nat} (h1 : 1 ≤ d) (h4 : d ≤ 4) : cntN (allN s) d = cntA (seedN s) 8000 d := by
  have h := all_pk s
  rw [pk_cnt] at h
  have a1 := cntA_le (seedN s) 8000 1
  have a2 := cntA_le (seedN s) 8000 2
  have a3 := cntA_le (seedN s) 8000 3
  have a4 := cntA_le (seedN s) 8000 4
  rw [h]
  have : d = 1 ∨ d = 2 ∨ d = 3 ∨ d = 4 := by omega
  rcases this with rfl | rfl | rfl | rfl
  all_goals simp only [cntN]; omega
theorem chk_bd {n : Nat} (h : chkN n = true) : 959 ≤ cntN n 1 ∧ cntN n 1 ≤ 1706 ∧ 3293 ≤ cntN n 2 ∧ cntN n 2 ≤ 5595 ∧ 1070 ≤ cntN n 3 ∧ cntN n 3 ≤ 1891 ∧ 515 ≤ cntN n 4 ∧ cntN n 4 ≤ 965 ∧ cntN n 1 + cntN n 2 + cntN n 3 + cntN n 4 = 8000 := by
  simp only [chkN, Bool.and_eq_true, Nat.ble_eq] at h
  exact ⟨h.1.1.1.1.1.1.1.1, h.1.1.1.1.1.1.1.2, h.1.1.1.1.1.1.2, h.1.1.1.1.1.2, h.1.1.1.1.2, h.1.1.1.2, h.1.1.2, h.1.2, Nat.eq_of_beq_eq_true h.2⟩
theorem refbel4 (k : Nat) (b : Nat) (w : World) (hk : k + 1 < 4) (hb : bel 4 500 (k + 1) = b) : Calls Try.prog 14 #[.agg #[.int .i64 9, .int .i64 1, .int .i64 1, .int .i64 500, .int .i64 4], .int .i64 ((k + 1 : Nat) : Int)] w fun e w' => e = .returned (.int .u64 (b : Int)) ∧ Below w.heap.size w w' := by
  have := refbel_calls may4 9 1 1 k w hk
  rw [hb] at this
  exact this
theorem MapC.put {w' : World} {B n d : Nat} {cn : Nat → Nat} {D : DataW Unit} (hD : Go.Maps.IsMap D) (hv : ∀ d : Nat, d ≤ 4 → D.atKey (.int .i64 (d : Int)) (.lit (.int .i64 0)) = .lit (.int .i64 (cn d : Int))) (hd : d ≤ 4)
    (h : w'.ownsMap Try.prog 3 (plainElem Try.prog 3) B n (D.put (.int .i64 (d : Int)) (.lit (.int .i64 ((cn d + 1 : Nat) : Int))))) : MapC w' B n (fun j => cn j + if d = j then 1 else 0) := by
  refine ⟨_, h, ?_, fun j hj => ?_⟩
  · obtain ⟨es, rfl⟩ := hD; exact ⟨_, rfl⟩
  · by_cases e : d = j
    · subst e
      show _ = DataW.lit (.int .i64 ((cn d + (if d = d then 1 else 0) : Nat) : Int))
      rw [Go.Maps.atKey_put_same hD (show WideAt.IsKeyLit (.int .i64 (d : Int)) from trivial), if_pos rfl]
    · show _ = DataW.lit (.int .i64 ((cn j + (if d = j then 1 else 0) : Nat) : Int))
      rw [Go.Maps.atKey_put_other (fun h => e (by injection h with h1 h2; omega)), hv j hj, if_neg e, Nat.add_zero]
theorem MapC.keep {w w' : World} {B n : Nat} {cn : Nat → Nat} (h : MapC w B n cn) (hk : w'.heap[B]? = w.heap[B]?) : MapC w' B n cn := by
  obtain ⟨D, ⟨es, clock, h1, h2⟩, h3⟩ := h
  exact ⟨D, ⟨es, clock, hk.trans h1, h2⟩, h3⟩
theorem MapC.lt {w : World} {B n : Nat} {cn : Nat → Nat} (h : MapC w B n cn) : B < w.heap.size := by
  obtain ⟨D, ⟨es, clock, h1, h2⟩, h3⟩ := h
  exact (Array.getElem?_eq_some_iff.1 h1).1
set_option maxHeartbeats 4000000 in
set_option maxRecDepth 100000 in
theorem Shares_calls (s0 : Nat) (w : World) (hs0 : s0 < 18446744073709551616) :
    Calls Try.prog 8 #[.int .u64 (s0 : Int)] w fun e w' => e = .returned (.bool true) ∧ Below w.heap.size w w' := by
  refine cps fun R hR => ?_
  obtain ⟨W, hW, hb, hs, d0, d1, d2, d3, d4⟩ := box5 w 9 1 1 500 4 23
  have HW := hide hW
  have Hb := hide hb
  have hN : Calls Try.prog 10 #[.agg #[.int .i64 9, .int .i64 1, .int .i64 1, .int .i64 500, .int .i64 4]] W fun e w' => ∃ g, e = .returned (.tuple #[.pointer (some ⟨g, 0, none⟩), .int .i64 0]) ∧ Tab w' W.heap.size g (belL 4 500 3) ∧ Below W.heap.size W w' := new_calls may4 9 1 1 W (by decide)
  have HN := hide hN
  have hmm := @run_makeMap Try.prog
  clear hW hb hN
  go_enter Try.func8, Try.ntmps8
  go_upto_region 2 with fail
  rw [← HW.out]
  clear HW
  go_wp2_with fail
  refine HN.out.mono ?_
  rintro _ w1 ⟨g, rfl, hT1, hb1⟩
  go_wp2_with fail
  have hz1 : w.heap.size < w1.heap.size := Nat.lt_of_lt_of_le hs hb1.size
  have Hcells := hide (show ∀ x, Below w1.heap.size w1 x → x.cell? ⟨w.heap.size, 0, none⟩ = some (.int .i64 9) ∧ x.cell? ⟨w.heap.size, 1, none⟩ = some (.int .i64 1) ∧ x.cell? ⟨w.heap.size, 2, none⟩ = some (.int .i64 1) ∧ x.cell? ⟨w.heap.size, 3, none⟩ = some (.int .i64 500) ∧ x.cell? ⟨w.heap.size, 4, none⟩ = some (.int .i64 4) from fun x hx => ⟨(hx.cell hz1).trans ((hb1.cell hs).trans d0), (hx.cell hz1).trans ((hb1.cell hs).trans d1), (hx.cell hz1).trans ((hb1.cell hs).trans d2), (hx.cell hz1).trans ((hb1.cell hs).trans d3), (hx.cell hz1).trans ((hb1.cell hs).trans d4)⟩)
  obtain ⟨xq, hxq⟩ : ∃ xq : UInt64, xq = UInt64.ofNat (s0 % 64) := ⟨_, rfl⟩
  have hx64 : xq.toNat = s0 % 64 := by rw [hxq, UInt64.toNat_ofNat']; exact Nat.mod_eq_of_lt (by omega)
  obtain ⟨w2, hw2⟩ : ∃ w2, w2 = w1.alloc (.cells #[.int .u64 ((s0 : Int) % 64), .int .u64 77] 31) := ⟨_, rfl⟩
  have hb2 : Below w1.heap.size w1 w2 := by rw [hw2]; exact balloc w1 _
  have hz2 : w2.heap.size = w1.heap.size + 1 := by rw [hw2]; simp
  have hr2 : RdL Kd.u64 (fun k => k = w1.heap.size) w2 (some ⟨w1.heap.size, 0, none⟩) [xq, 77] := by
    refine RdL.block1 (cs := #[.int .u64 ((s0 : Int) % 64), .int .u64 77]) (t := 31) (fr := (0, 0)) rfl (by rw [hw2]; exact alloc_head _ _) rfl (fun i x hx => ?_)
    match i, hx with
    | 0, hx => simp at hx; subst hx; exact ⟨.int .u64 ((s0 : Int) % 64), rfl, _, rfl, by show Value.int .u64 ((s0 : Int) % 64) = .int .u64 (xq.toNat : Int); rw [hx64]; rfl⟩
    | 1, hx => simp at hx; subst hx; exact ⟨.int .u64 77, rfl, _, rfl, rfl⟩
    | i + 2, hx => simp at hx
  have hra := hide (rngnew_calls (some ⟨w1.heap.size, 0, none⟩) 2 [xq, 77] _ w2 (by unfold maxLen; omega) (by simp) (fun k hk => by subst hk; omega) hr2)
  rw [← hw2]
  have hst : Hid ((seedF [xq, 77]).toNat = seedN (s0 % 64)) := hide (by
    simp only [seedF, List.foldl_cons, List.foldl_nil, seedN, ← mixN_eq, UInt64.toNat_xor, UInt64.toNat_add, hx64]
    rfl)
  have T1 := hide hT1
  have B1 := hide hb1
  have Hb2 := hide hb2
  have Hz2 := hide hz2
  generalize seedF [xq, 77] = st0 at *
  have Hcn : Hid (∀ d, 1 ≤ d → d ≤ 4 → cntN (allN (s0 % 64)) d = cntA (seedN (s0 % 64)) 8000 d) := hide fun d h1 h4 => cntN_all h1 h4
  generalize seedN (s0 % 64) = st at *
  clear hr2 hw2 hb2 hz2 hT1 hb1 hx64 hxq
  refine hra.out.mono ?_
  rintro _ w3 ⟨rfl, hA3, hb3⟩
  obtain ⟨ga, hga⟩ : ∃ ga, ga = w2.heap.size := ⟨_, rfl⟩
  obtain ⟨mb, hmb⟩ : ∃ mb, mb = w3.heap.size := ⟨_, rfl⟩
  have hbw : Below w1.heap.size w1 w3 := below_step Hb2.out Hb2.out.size hb3
  have hga1 : w1.heap.size ≤ ga := by have := Hz2.out; omega
  have hgm : ga < mb := by rw [hga, hmb]; exact hA3.lt
  rw [← hga] at hA3 ⊢
  obtain ⟨w4, hw4⟩ : ∃ w4, w4 = w3.alloc (.map #[] 0) := ⟨_, rfl⟩
  have hM4 : MapC w4 mb 0 (cntA st 0) := by
    rw [hw4, hmb]
    exact ⟨_, World.ownsMap_made _ _ _ _, Go.Maps.isMap_empty, fun d hd => rfl⟩
  have hA4 : RandAt w4 ga st0 := by rw [hw4]; exact hA3.below (balloc w3 _)
  have hB4 : Below w1.heap.size w1 w4 := by rw [hw4]; exact hbw.alloc hbw.size _
  have A4 := hide hA4
  have M4 := hide hM4
  have B4 := hide hB4
  have HW4 := hide hw4
  have Hmb := hide hmb
  have Hg := hide (show w1.heap.size ≤ ga ∧ ga < mb from ⟨hga1, hgm⟩)
  clear hga hmb hA3 hb3 hw4 hM4 hA4 hB4 hbw hga1 hgm hra
  go_upto_region 7 with fail
  rw [← HW4.out, ← Hmb.out]
  clear HW4 Hmb
  go_wp2_with fail
  go_loopw [31] (fun i wr => ∃ (k : Nat) (sk : UInt64), k ≤ 8000 ∧ i = .int .i64 (k : Int) ∧ sk.toNat = stN st k ∧ RandAt wr ga sk ∧ MapC wr mb k (cntA st k) ∧ Below w1.heap.size w1 wr) (fun i _ => 8000 - (intOf i).toNat)
  case atStart => exact ⟨0, st0, by omega, rfl, by rw [hst.out, stN]; have := st0.toNat_lt; rw [hst.out] at this; omega, A4.out, M4.out, B4.out⟩
  case round =>
    obtain ⟨k, sk, hk, rfl, hsk, hA, hM, hB⟩ := hrel
    by_cases hlt : k < 8000
    · obtain ⟨sk2, hsk2⟩ : ∃ sk2, sk2 = sk + stepC := ⟨_, rfl⟩
      obtain ⟨mx, hmx⟩ : ∃ mx, mx = (mix64 (sk + stepC)).toNat := ⟨_, rfl⟩
      have hs2 : sk2.toNat = stN st (k + 1) := by
        rw [hsk2, UInt64.toNat_add, hsk, stN, stN]
        show ((st + k * 11400714819323198485) % 18446744073709551616 + 11400714819323198485) % 18446744073709551616 = _
        omega
      have hdeg : Hid (degN mx = degN (mixN (stN st (k + 1)))) := hide (by rw [hmx, ← hsk2, ← hs2, mixN_eq])
      have hnx := hide (next_to ga sk sk2 mx w1 wr hmx hsk2 hA hB Hg.out.1)
      have Hd := hide (degN_of mx)
      obtain ⟨d, hd⟩ : ∃ d, d = degN mx := ⟨_, rfl⟩
      have hd4 : Hid (1 ≤ d ∧ d ≤ 4) := hide (by rw [hd]; exact degN_bd mx)
      rw [← hd] at Hd hdeg
      have HM := hide hM
      have Hs2 := hide hs2
      have Hk := hide hlt
      have t1 : decide ((k : Int) < 8000) = true := by simp; omega
      clear hA hM hB hsk hsk2 hmx hs2 hd hlt hk
      go_wp2_with fail
      refine hnx.out.mono ?_
      rintro _ w5 ⟨rfl, hA5, hb5, ho5⟩
      have hof := hide (of_at may4 g _ mx d w5 (T1.out.below hb5) Hd.out)
      have M5 := hide (HM.out.keep (ho5 mb (by have := Hg.out.2; omega)))
      have A5 := hide hA5
      have B5 := hide hb5
      clear hA5 hb5 ho5 hnx
      go_wp2_with fail
      refine hof.out.mono ?_
      rintro _ w6 ⟨rfl, hb6⟩
      have M6 := hide (M5.out.keep (hb6.block mb M5.out.lt))
      have A6 := hide (A5.out.below hb6)
      have B6 := hide (below_step B5.out B5.out.size hb6)
      obtain ⟨D, hown, hD, hv⟩ := M6.out
      have Hv := hide hv
      have HD := hide hD
      have hwd : Hid ((Lit.int .i64 (d : Int)).wf = true) := hide (WalkArith.wf_i64 (by have := hd4.out; omega))
      clear hb6 hof hv hD
      go_wp2_with (first
        | (at_lookup; refine wpList_lookup_own_int _ rfl _ _ 49 rfl 3 3 .i64 law3 Try.underlying49 Try.underlying3 (zero3 _) mb k _ rfl hown _ _ rfl (keyOf_int_mk Try.underlying3 hwd.out) ?_; intro c hat hwc)
        | (at_mapUpdate; refine wpList_mapUpdate_own _ rfl _ _ _ 49 rfl 3 3 law3 Try.underlying49 _ mb k _ rfl hown (by have := Hk.out; unfold maxLen; omega) _ _ _ rfl rfl (keyOf_int_mk Try.underlying3 hwd.out) _ [] (plainElem_int Try.underlying3 (wrap64_wf _)) ?_; intro w7 hown7 hgrow7))
      have hc : c = (cntA st k d : Int) := by
        rw [Hv.out d hd4.out.2] at hat
        simpa using hat.symm
      have hle := cntA_le st k d
      have hk8 := Hk.out
      have e1 : wrap64 (c + 1) = ((cntA st k d + 1 : Nat) : Int) := by rw [hc, IntWalk.wrap64_in _ ⟨by omega, by omega⟩]; omega
      have e2 : wrap64 ((k : Int) + 1) = ((k + 1 : Nat) : Int) := by rw [IntWalk.wrap64_in _ ⟨by omega, by omega⟩]; omega
      rw [e1] at hown7
      have hM7 := MapC.put HD.out Hv.out hd4.out.2 hown7
      have hA7 : RandAt w7 ga sk2 := A6.out.keep (hgrow7.block ga A6.out.lt (fun e => by injection e with e; have := Hg.out.2; omega))
      have hB7 : Below w1.heap.size w1 w7 := (Ch.of_grown hgrow7).below B6.out B6.out.size (fun b hb => by injection hb with hb; have := Hg.out; omega)
      rw [e2]
      clear e1 e2 hat hown7 t1
      refine ⟨⟨k + 1, sk2, by omega, rfl, Hs2.out, hA7, ?_, hB7⟩, ?_⟩
      · have : (fun j => cntA st k j + if d = j then 1 else 0) = cntA st (k + 1) := by funext j; rw [cntA, ← hdeg.out]
        rw [← this]; exact hM7
      · simp only [intOf]; omega
    · obtain rfl : k = 8000 := by omega
      obtain ⟨y1, y2, y3, y4, y5, y6, y7, y8, y9⟩ := chk_bd (chk_all (s0 % 64) (Nat.mod_lt _ (by decide)))
      rw [Hcn.out 1 (by decide) (by decide)] at y1 y2 y9
      rw [Hcn.out 2 (by decide) (by decide)] at y3 y4 y9
      rw [Hcn.out 3 (by decide) (by decide)] at y5 y6 y9
      rw [Hcn.out 4 (by decide) (by decide)] at y7 y8 y9
      obtain ⟨a1, ha1⟩ : ∃ a1, a1 = cntA st 8000 1 := ⟨_, rfl⟩
      obtain ⟨a2, ha2⟩ : ∃ a2, a2 = cntA st 8000 2 := ⟨_, rfl⟩
      obtain ⟨a3, ha3⟩ : ∃ a3, a3 = cntA st 8000 3 := ⟨_, rfl⟩
      obtain ⟨a4, ha4⟩ : ∃ a4, a4 = cntA st 8000 4 := ⟨_, rfl⟩
      rw [← ha1] at y1 y2 y9
      rw [← ha2] at y3 y4 y9
      rw [← ha3] at y5 y6 y9
      rw [← ha4] at y7 y8 y9
      have Ha := hide (show a1 = cntA st 8000 1 ∧ a2 = cntA st 8000 2 ∧ a3 = cntA st 8000 3 ∧ a4 = cntA st 8000 4 from ⟨ha1, ha2, ha3, ha4⟩)
      have Hy := hide (show a1 ≤ 1706 ∧ a2 ≤ 5595 ∧ a3 ≤ 1891 ∧ a4 ≤ 965 ∧ a1 + a2 + a3 + a4 = 8000 from ⟨y2, y4, y6, y8, y9⟩)
      have t1l : decide ((a1 : Int) < 959) = false := by simp; omega
      have t1h : decide ((1706 : Int) < (a1 : Int)) = false := by simp; omega
      have t2l : decide ((a2 : Int) < 3293) = false := by simp; omega
      have t2h : decide ((5595 : Int) < (a2 : Int)) = false := by simp; omega
      have t3l : decide ((a3 : Int) < 1070) = false := by simp; omega
      have t3h : decide ((1891 : Int) < (a3 : Int)) = false := by simp; omega
      have t4l : decide ((a4 : Int) < 515) = false := by simp; omega
      have t4h : decide ((965 : Int) < (a4 : Int)) = false := by simp; omega
      clear y1 y2 y3 y4 y5 y6 y7 y8 y9 ha1 ha2 ha3 ha4
      have HM := hide hM
      have HB := hide hB
      clear hA hM hB hsk hlt hk
      go_wp2_with fail
      generalize wr = wm at *
      clear d0 d1 d2 d3 d4 hmm
      go_loopw [9, 10] (fun l i wr => ∃ j : Nat, 1 ≤ j ∧ j ≤ 5 ∧ i = .int .i64 (j : Int) ∧ l = .int .u64 ((if j = 1 then 0 else if j = 2 then 3074457345618258602 else if j = 3 then 13322648497679120611 else 16738712215032741281 : Nat) : Int) ∧ MapC wr mb 8000 (cntA st 8000) ∧ Below w1.heap.size w1 wr) (fun _ i _ => 5 - (intOf i).toNat)
      case atStart => exact ⟨1, by omega, by omega, rfl, rfl, HM.out, HB.out⟩
      case round =>
        obtain ⟨j, h1, h5, rfl, rfl, hM, hB⟩ := hrel
        obtain ⟨k0, k1, k2, k3, k4⟩ := Hcells.out wr hB
        have : j = 1 ∨ j = 2 ∨ j = 3 ∨ j = 4 ∨ j = 5 := by omega
        rcases this with rfl | rfl | rfl | rfl | rfl
        · have rb := hide (refbel4 0 3074457345618258602 wr (by decide) bel41)
          go_wp2_with fail
          refine rb.out.mono ?_
          rintro _ w5 ⟨rfl, hb5⟩
          have hM5 := hM.keep (hb5.block mb hM.lt)
          have M5 := hide hM5
          have hB5 := below_step hB hB.size hb5
          have B5 := hide hB5
          obtain ⟨k0, k1, k2, k3, k4⟩ := Hcells.out w5 hB5
          obtain ⟨D, hown, hD, hv⟩ := hM5
          have rb5 := hide (refbel4 0 3074457345618258602 w5 (by decide) bel41)
          have hlk1 : ∀ c : Int, D.atKey (.int .i64 1) (.lit (.int .i64 0)) = .lit (.int .i64 c) → c = (a1 : Int) := fun c hc => by
            have := hv 1 (by decide)
            rw [← Ha.out.1] at this
            rw [show ((1 : Nat) : Int) = 1 from rfl, hc] at this
            simpa using this
          obtain ⟨c1, hrun1, hat1, -⟩ := hown.lookup_int law3 Try.underlying49 Try.underlying3 (zero3 _) (keyOf_int_mk Try.underlying3 (show (Lit.int .i64 1).wf = true by decide))
          obtain rfl := hlk1 c1 hat1
          clear hat1 hlk1
          clear hv hB hM hown hD rb hb5 hB5
          go_wp2_with fail
          refine rb5.out.mono ?_
          rintro _ w6 ⟨rfl, hb6⟩
          have hM6 := M5.out.keep (hb6.block mb M5.out.lt)
          have hB6 := below_step B5.out B5.out.size hb6
          clear hrun1
          go_wp2_with fail
          go_roundw
          case rel => (repeat apply Exists.intro); exact ⟨⟨2, by omega, by omega, rfl, rfl, hM6, hB6⟩, rfl⟩
          case measure => simp [intOf]
        · have rb := hide (refbel4 1 13322648497679120611 wr (by decide) bel42)
          go_wp2_with fail
          refine rb.out.mono ?_
          rintro _ w5 ⟨rfl, hb5⟩
          have hM5 := hM.keep (hb5.block mb hM.lt)
          have M5 := hide hM5
          have hB5 := below_step hB hB.size hb5
          have B5 := hide hB5
          obtain ⟨k0, k1, k2, k3, k4⟩ := Hcells.out w5 hB5
          obtain ⟨D, hown, hD, hv⟩ := hM5
          have rb5 := hide (refbel4 1 13322648497679120611 w5 (by decide) bel42)
          have hlk2 : ∀ c : Int, D.atKey (.int .i64 2) (.lit (.int .i64 0)) = .lit (.int .i64 c) → c = (a2 : Int) := fun c hc => by
            have := hv 2 (by decide)
            rw [← Ha.out.2.1] at this
            rw [show ((2 : Nat) : Int) = 2 from rfl, hc] at this
            simpa using this
          obtain ⟨c2, hrun2, hat2, -⟩ := hown.lookup_int law3 Try.underlying49 Try.underlying3 (zero3 _) (keyOf_int_mk Try.underlying3 (show (Lit.int .i64 2).wf = true by decide))
          obtain rfl := hlk2 c2 hat2
          clear hat2 hlk2
          clear hv hB hM hown hD rb hb5 hB5
          go_wp2_with fail
          refine rb5.out.mono ?_
          rintro _ w6 ⟨rfl, hb6⟩
          have hM6 := M5.out.keep (hb6.block mb M5.out.lt)
          have hB6 := below_step B5.out B5.out.size hb6
          clear hrun2
          go_wp2_with fail
          go_roundw
          case rel => (repeat apply Exists.intro); exact ⟨⟨3, by omega, by omega, rfl, rfl, hM6, hB6⟩, rfl⟩
          case measure => simp [intOf]
        · have rb := hide (refbel4 2 16738712215032741281 wr (by decide) bel43)
          go_wp2_with fail
          refine rb.out.mono ?_
          rintro _ w5 ⟨rfl, hb5⟩
          have hM5 := hM.keep (hb5.block mb hM.lt)
          have M5 := hide hM5
          have hB5 := below_step hB hB.size hb5
          have B5 := hide hB5
          obtain ⟨k0, k1, k2, k3, k4⟩ := Hcells.out w5 hB5
          obtain ⟨D, hown, hD, hv⟩ := hM5
          have rb5 := hide (refbel4 2 16738712215032741281 w5 (by decide) bel43)
          have hlk3 : ∀ c : Int, D.atKey (.int .i64 3) (.lit (.int .i64 0)) = .lit (.int .i64 c) → c = (a3 : Int) := fun c hc => by
            have := hv 3 (by decide)
            rw [← Ha.out.2.2.1] at this
            rw [show ((3 : Nat) : Int) = 3 from rfl, hc] at this
            simpa using this
          obtain ⟨c3, hrun3, hat3, -⟩ := hown.lookup_int law3 Try.underlying49 Try.underlying3 (zero3 _) (keyOf_int_mk Try.underlying3 (show (Lit.int .i64 3).wf = true by decide))
          obtain rfl := hlk3 c3 hat3
          clear hat3 hlk3
          clear hv hB hM hown hD rb hb5 hB5
          go_wp2_with fail
          refine rb5.out.mono ?_
          rintro _ w6 ⟨rfl, hb6⟩
          have hM6 := M5.out.keep (hb6.block mb M5.out.lt)
          have hB6 := below_step B5.out B5.out.size hb6
          clear hrun3
          go_wp2_with fail
          go_roundw
          case rel => (repeat apply Exists.intro); exact ⟨⟨4, by omega, by omega, rfl, rfl, hM6, hB6⟩, rfl⟩
          case measure => simp [intOf]
        · have hx4 : bits BinOp.xor IntKind.u64 IntKind.u64.max 16738712215032741281 = 1708031858676810334 := by kernel_rfl
          have hsg : IntKind.u64.signed = false := rfl
          have M5 := hide hM
          have B5 := hide hB
          obtain ⟨D, hown, hD, hv⟩ := hM
          have hlk4 : ∀ c : Int, D.atKey (.int .i64 4) (.lit (.int .i64 0)) = .lit (.int .i64 c) → c = (a4 : Int) := fun c hc => by
            have := hv 4 (by decide)
            rw [← Ha.out.2.2.2] at this
            rw [show ((4 : Nat) : Int) = 4 from rfl, hc] at this
            simpa using this
          obtain ⟨c4, hrun4, hat4, -⟩ := hown.lookup_int law3 Try.underlying49 Try.underlying3 (zero3 _) (keyOf_int_mk Try.underlying3 (show (Lit.int .i64 4).wf = true by decide))
          obtain rfl := hlk4 c4 hat4
          clear hat4 hlk4
          clear hv hB hown hD
          go_wp2_with fail
          go_roundw
          case rel => exact ⟨5, by omega, by omega, rfl, rfl, M5.out, B5.out⟩
          case measure => simp [intOf]
        · have B5 := hide hB
          obtain ⟨D, hown, hD, hv⟩ := hM
          have hlk1 : ∀ c : Int, D.atKey (.int .i64 1) (.lit (.int .i64 0)) = .lit (.int .i64 c) → c = (a1 : Int) := fun c hc => by
            have := hv 1 (by decide)
            rw [← Ha.out.1] at this
            rw [show ((1 : Nat) : Int) = 1 from rfl, hc] at this
            simpa using this
          obtain ⟨c1, hrun1, hat1, -⟩ := hown.lookup_int law3 Try.underlying49 Try.underlying3 (zero3 _) (keyOf_int_mk Try.underlying3 (show (Lit.int .i64 1).wf = true by decide))
          obtain rfl := hlk1 c1 hat1
          clear hat1 hlk1
          have hlk2 : ∀ c : Int, D.atKey (.int .i64 2) (.lit (.int .i64 0)) = .lit (.int .i64 c) → c = (a2 : Int) := fun c hc => by
            have := hv 2 (by decide)
            rw [← Ha.out.2.1] at this
            rw [show ((2 : Nat) : Int) = 2 from rfl, hc] at this
            simpa using this
          obtain ⟨c2, hrun2, hat2, -⟩ := hown.lookup_int law3 Try.underlying49 Try.underlying3 (zero3 _) (keyOf_int_mk Try.underlying3 (show (Lit.int .i64 2).wf = true by decide))
          obtain rfl := hlk2 c2 hat2
          clear hat2 hlk2
          have hlk3 : ∀ c : Int, D.atKey (.int .i64 3) (.lit (.int .i64 0)) = .lit (.int .i64 c) → c = (a3 : Int) := fun c hc => by
            have := hv 3 (by decide)
            rw [← Ha.out.2.2.1] at this
            rw [show ((3 : Nat) : Int) = 3 from rfl, hc] at this
            simpa using this
          obtain ⟨c3, hrun3, hat3, -⟩ := hown.lookup_int law3 Try.underlying49 Try.underlying3 (zero3 _) (keyOf_int_mk Try.underlying3 (show (Lit.int .i64 3).wf = true by decide))
          obtain rfl := hlk3 c3 hat3
          clear hat3 hlk3
          have hlk4 : ∀ c : Int, D.atKey (.int .i64 4) (.lit (.int .i64 0)) = .lit (.int .i64 c) → c = (a4 : Int) := fun c hc => by
            have := hv 4 (by decide)
            rw [← Ha.out.2.2.2] at this
            rw [show ((4 : Nat) : Int) = 4 from rfl, hc] at this
            simpa using this
          obtain ⟨c4, hrun4, hat4, -⟩ := hown.lookup_int law3 Try.underlying49 Try.underlying3 (zero3 _) (keyOf_int_mk Try.underlying3 (show (Lit.int .i64 4).wf = true by decide))
          obtain rfl := hlk4 c4 hat4
          clear hat4 hlk4
          clear hv hB hown hD
          have e1 : wrap64 ((a1 : Int) + (a2 : Int)) = ((a1 + a2 : Nat) : Int) := by have := Hy.out; rw [IntWalk.wrap64_in _ ⟨by omega, by omega⟩]; omega
          have e2 : wrap64 (((a1 + a2 : Nat) : Int) + (a3 : Int)) = ((a1 + a2 + a3 : Nat) : Int) := by have := Hy.out; rw [IntWalk.wrap64_in _ ⟨by omega, by omega⟩]; omega
          have e3 : wrap64 (((a1 + a2 + a3 : Nat) : Int) + (a4 : Int)) = 8000 := by have := Hy.out; rw [IntWalk.wrap64_in _ ⟨by omega, by omega⟩]; omega
          have E := hide (show wrap64 (wrap64 (wrap64 ((a1 : Int) + (a2 : Int)) + (a3 : Int)) + (a4 : Int)) = 8000 by rw [e1, e2, e3])
          clear e1 e2 e3
          go_wp2_with fail
          exact hR.out _ _ ⟨by first | (rw [E.out]; rfl) | (simp only [E.out]; rfl), below_step Hb.out (Nat.le_of_lt hs) (below_step B1.out B1.out.size B5.out)⟩
end Go.Proofs.Ytakbkopekcmcjaa
