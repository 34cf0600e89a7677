/- WholeReach, walked. -/
import Derived.Test.YtfkofhdgokhodaaReach5
import Derived.Test.YtfkofhdgokhodaaSeg
import Derived.Test.YtfkofhdgokhodaaRowSet
import Derived.Test.YtfkofhdgokhodaaParR
import Derived.Deep.RegionHeld
import Derived.Deep.Cut
import Derived.BigQuiet
set_option linter.unusedVariables false
set_option linter.unusedSimpArgs false
namespace Go.Proofs.Ytfkofhdgokhodaa
open Go.RowKit Go.Maps

theorem zero_int (w : World) : (zeroValue 3).run Try.prog w = .ok (.int .i64 0) w := by kernel_rfl
/-- The loop over the check blocks: what is known of the map. -/
structure RS (w9 wr : World) (mb a ses : Nat) (D : Nat → Nat) (k : Nat) (K : List Int) (f : Int → Int) : Prop where
  map : MapI wr mb K f
  nd : K.Nodup
  bd : ∀ x ∈ K, 0 ≤ x ∧ x < (a : Int)
  all : ∀ id, id < k → ∀ x ∈ chkL a (D id) ses id, x ∈ K
  be : Below w9.heap.size w9 wr
theorem RS.below {w9 wr w' : World} {mb a ses k : Nat} {D : Nat → Nat} {K : List Int} {f : Int → Int} (h : RS w9 wr mb a ses D k K f) (hb : Below wr.heap.size wr w') : RS w9 w' mb a ses D k K f :=
  ⟨h.map.keep (hb.block mb h.map.lt), h.nd, h.bd, h.all, below_step h.be h.be.size hb⟩
theorem RS.put {w9 wr w' : World} {mb a ses k : Nat} {D : Nat → Nat} {K : List Int} {f : Int → Int} {x c : Int} (h : RS w9 wr mb a ses D k K f) (hm : w9.heap.size ≤ mb) (hx : 0 ≤ x ∧ x < (a : Int)) (h1 : MapI w' mb (putK K x) (putV f x c)) (hg : wr.grownBy w' (some mb)) :
    RS w9 w' mb a ses D k (putK K x) (putV f x c) :=
  ⟨h1, putK_nodup h.nd, fun y hy => by
      rcases putK_mem.1 hy with hy | rfl
      · exact h.bd y hy
      · exact hx,
    fun id hid y hy => putK_mem.2 (.inl (h.all id hid y hy)), (Ch.of_grown hg).below h.be h.be.size fun b hb => by injection hb with hb; omega⟩
theorem RS.next {w9 wr : World} {mb a ses k : Nat} {D : Nat → Nat} {K : List Int} {f : Int → Int} (h : RS w9 wr mb a ses D k K f) (hl : ∀ x ∈ chkL a (D k) ses k, x ∈ K) : RS w9 wr mb a ses D (k + 1) K f :=
  ⟨h.map, h.nd, h.bd, fun id hid x hx => by
    rcases Nat.lt_or_ge id k with h1 | h1
    · exact h.all id h1 x hx
    · rw [show id = k by omega] at hx; exact hl x hx, h.be⟩
theorem RS.done {w9 wr : World} {mb a ses k : Nat} {D : Nat → Nat} {K : List Int} {f : Int → Int} (h : RS w9 wr mb a ses D k K f) {F E : Nat} (m : May F E) (hF : F ≤ 200) (hs : ses < 16) (hA1 : 2 ≤ a) (hA2 : a ≤ 53) (hD : ∀ id, IsOf F E (chkU ses id) (D id)) (hk : 4000 ≤ k) : K.length = a :=
  keys_len_all h.nd h.bd fun j hj => by
    obtain ⟨id, h1, h2⟩ := all_met m hF hs hA1 hA2 hD hj
    exact h.all id (by omega) _ h2
set_option maxHeartbeats 4000000 in
set_option maxRecDepth 100000 in
theorem Reach_calls (N B Q E F : Int) (s : UInt64) (A : Option Addr) (c : Nat) (ob : List UInt8) (w : World) (hm : c ≤ maxLen) (hc : ob.length ≤ c) (hr : RdL Kd.byte (· < w.heap.size) w A ob) :
    Calls Try.prog 4 #[pV N B Q E F, .int .u64 (s.toNat : Int), .slice A ob.length c] w fun e w' => e = .returned (.bool true) ∧ Below w.heap.size w w' := by
  refine cps fun R hR => ?_
  obtain ⟨W, hW, hb, hs, d0, d1, d2, d3, d4⟩ := box5 w N B Q E F 23
  obtain ⟨b, hbq⟩ : ∃ b, b = w.heap.size := ⟨_, rfl⟩
  have HW := hide hW
  have Hbq := hide hbq
  have Hb := hide hb
  have hcells := hide (show ∀ x, Below W.heap.size W x → x.cell? ⟨b, 0, none⟩ = some (.int .i64 N) ∧ x.cell? ⟨b, 1, none⟩ = some (.int .i64 B) ∧ x.cell? ⟨b, 2, none⟩ = some (.int .i64 Q) ∧ x.cell? ⟨b, 3, none⟩ = some (.int .i64 E) ∧ x.cell? ⟨b, 4, none⟩ = some (.int .i64 F) from fun x hx => by
    rw [hbq]
    exact ⟨later_cell d0 ⟨x, hx⟩, later_cell d1 ⟨x, hx⟩, later_cell d2 ⟨x, hx⟩, later_cell d3 ⟨x, hx⟩, later_cell d4 ⟨x, hx⟩⟩)
  have Ho := hide (show RdL Kd.byte (· < W.heap.size) W A ob from (hr.below hb).mono fun k hk => Nat.lt_of_lt_of_le hk hb.size)
  have h0 := hide (inew_calls may_sp 1 1 1 (UInt64.ofNat 7) 2 W (by decide) (by decide))
  rw [u64_nat (i := 7) (by decide)] at h0
  obtain ⟨dd, hdd⟩ := of_exists may_sp (chkU 7 1)
  have Hdd := hide hdd
  have hd1 := hide hdd.le
  obtain ⟨ln, hln⟩ : ∃ ln, ln = ob.length := ⟨_, rfl⟩
  rw [← hln] at hc ⊢
  have Hln := hide hln
  have Hc := hide (And.intro hm hc)
  clear d0 d1 d2 d3 d4 hW hb hbq hr hdd hln hm hc
  go_enter Try.func4, Try.ntmps4
  go_upto_region 1 with fail
  rw [← HW.out, ← Hbq.out]
  clear HW
  go_wp2_with fail
  refine h0.out.mono ?_
  rintro _ w1 ⟨g1, tb1, rfl, hI1, hb1⟩
  have hbl := hide (iblk_at may_sp _ g1 tb1 7 1 2 dd w1 (by decide) (by decide) hI1 (by decide) Hdd.out)
  have B1 := hide hb1
  have t0 : decide (((min dd 2 : Nat) : Int) < 1) = false := by have := hd1.out; simp; omega
  generalize min dd 2 = mn at hbl t0
  clear hI1 hb1 h0
  go_wp2_with fail
  refine hbl.out.mono ?_
  rintro _ w2 ⟨A2, c2, rfl, -, -, hb2⟩
  have B2 := hide (below_step B1.out B1.out.size hb2)
  obtain ⟨k0, k1, k2, k3, k4⟩ := hcells.out w2 B2.out
  have hry := hide (refmay_calls N B Q E F w2)
  clear hb2 hbl B1
  go_wp2_with fail
  refine hry.out.mono ?_
  rintro _ w3 ⟨rfl, hb3⟩
  have B3 := hide (below_step B2.out B2.out.size hb3)
  clear k0 k1 k2 k3 k4 hb3 hry B2 t0
  obtain ⟨k0, k1, k2, k3, k4⟩ := hcells.out w3 B3.out
  have hfin := hide (below_step Hb.out Hb.out.size B3.out)
  by_cases hm : mayB N B Q E F = true
  · have hbd := may_bd hm
    obtain ⟨n, rfl⟩ := Int.eq_ofNat_of_zero_le (show 0 ≤ N by omega)
    obtain ⟨q, rfl⟩ := Int.eq_ofNat_of_zero_le (show 0 ≤ Q by omega)
    obtain ⟨bb, rfl⟩ := Int.eq_ofNat_of_zero_le (show 0 ≤ B by omega)
    obtain ⟨ff, ee, rfl, rfl, m⟩ := may_nat hm
    have M := hide m
    clear m
    rw [hm]
    by_cases hn : n ≤ 20
    · have t1 : decide ((20 : Int) < (n : Int)) = false := by simp; omega
      by_cases hbb : bb ≤ 40
      · have t2 : decide ((40 : Int) < (bb : Int)) = false := by simp; omega
        by_cases hff : ff ≤ 200
        · have t3 : decide ((200 : Int) < (ff : Int)) = false := by simp; omega
          by_cases hqq : q ≤ 3
          · have t4 : decide ((3 : Int) < (q : Int)) = false := by simp; omega
            obtain ⟨mm, hmm⟩ : ∃ mm, mm = n * bb := ⟨_, rfl⟩
            have hm8 : mm ≤ 800 := by rw [hmm]; exact Nat.mul_le_mul hn hbb
            have He1 : Hid (wrap64 ((n : Int) * (bb : Int)) = (mm : Int)) := hide (by rw [← Int.natCast_mul, ← hmm]; exact IntWalk.wrap64_in _ ⟨by omega, by omega⟩)
            by_cases hll : ln ≤ mm
            · have t5 : decide ((mm : Int) < (ln : Int)) = false := by simp; omega
              have Hmm := hide hmm
              have Hbd := hide (And.intro hbd hm)
              have e1 := He1.out
              clear hmm hbd hm hm8 He1
              go_upto_region 6 with fail
              obtain ⟨⟨n1, n2, b1, b2, q1, q2, x1, x2, f1, f2, fe⟩, hm⟩ := Hbd.out
              obtain ⟨a0, ha0, h01, h02⟩ := aux_20 (q := q) (n := n) (E := (ee : Int)) hn (by omega) (by omega) hqq (by omega) (by omega)
              obtain ⟨a, ha⟩ : ∃ a, a = n + a0 := ⟨_, rfl⟩
              obtain ⟨ses, hses⟩ : ∃ ses, ses = s.toNat % 16 := ⟨_, rfl⟩
              have hs16 : ses < 16 := by omega
              have hN := hide (inew_calls M.out (n : Int) (bb : Int) (q : Int) (UInt64.ofNat ses) a w3 hm (by rw [ha0]; omega))
              rw [u64_nat (by omega), show (ses : Int) = (s.toNat : Int) % 16 by omega] at hN
              have Ha := hide (show a = n + a0 ∧ auxI (q : Int) (ee : Int) (n : Int) = (a0 : Int) ∧ 2 ≤ a ∧ a ≤ 53 ∧ ses < 16 ∧ 1 ≤ n ∧ 1 ≤ bb from ⟨ha, ha0, by omega, by omega, hs16, by omega, by omega⟩)
              obtain ⟨D, hD⟩ := of_choice M.out (chkU ses)
              have HD := hide hD
              clear n1 n2 b1 b2 q1 q2 x1 x2 f1 f2 fe hm ha ha0 h01 h02 hses hs16 t1 t2 t3 t4 t5 e1 hD hfin
              go_wp2_with fail
              refine hN.out.mono ?_
              rintro _ w4 ⟨g, tb, rfl, hI4, hb4⟩
              have B4 := hide (below_step B3.out B3.out.size hb4)
              clear k0 k1 k2 k3 k4 hN
              have I4 := hide hI4
              clear hI4 hb4
              obtain ⟨k0, k1, k2, k3, k4⟩ := hcells.out w4 B4.out
              have hsp := hide (split_yes n bb (q : Int) (ee : Int) (ff : Int) A ob c w4 Hbd.out.2 (by omega) (by omega) (by rw [← Hmm.out, ← Hln.out]; exact hll) Hc.out.1 (by rw [← Hln.out]; exact Hc.out.2) ((Ho.out.below B4.out).mono fun k hk => Nat.lt_of_lt_of_le hk B4.out.size))
              rw [← Hln.out] at hsp
              go_wp2_with fail
              refine hsp.out.mono ?_
              rintro _ w5 ⟨gl, rfl, -, -, -, hb5⟩
              have B5 := hide (below_step B4.out B4.out.size hb5)
              have I5 := hide (I4.out.below hb5)
              clear k0 k1 k2 k3 k4 hb5 hsp I4
              obtain ⟨k0, k1, k2, k3, k4⟩ := hcells.out w5 B5.out
              obtain ⟨w6, hw6⟩ : ∃ w6, w6 = w5.alloc (.map #[] 0) := ⟨_, rfl⟩
              obtain ⟨mb, hmb⟩ : ∃ mb, mb = w5.heap.size := ⟨_, rfl⟩
              have hR6 : RS w5 w6 mb a ses D 0 [] (fun _ => 0) := ⟨by rw [hw6, hmb]; exact MapF.made _ _, List.nodup_nil, fun x h => (by cases h), fun id h => absurd h (Nat.not_lt_zero _), by rw [hw6]; exact balloc _ _⟩
              have HR6 := hide hR6
              have HW6 := hide hw6
              have Hmb := hide hmb
              have hmk := @run_makeMap Try.prog
              clear hw6 hmb hR6
              go_upto_region 11 with fail
              rw [← HW6.out, ← Hmb.out]
              clear hmk HW6 k0 k1 k2 k3 k4
              go_wp2_with fail
              go_loopw [98] (fun iv wr => ∃ (k : Nat) (K : List Int) (f : Int → Int), k ≤ 4000 ∧ iv = .int .u64 (k : Int) ∧ RS w5 wr mb a ses D k K f) (fun iv _ => 4000 - (intOf iv).toNat)
              case atStart => exact ⟨0, _, _, Nat.zero_le _, rfl, HR6.out⟩
              case round =>
                obtain ⟨k, K, f, hk, rfl, hRS⟩ := hrel
                by_cases hlt : k < 4000
                · have t1 : decide ((k : Int) < 4000) = true := by simp; omega
                  have hbl := hide (iblk_at M.out _ g tb ses k a (D k) wr (by have := Ha.out; omega) (by omega) (I5.out.below hRS.be) (by have := Ha.out; omega) (HD.out k))
                  have HRS := hide hRS
                  obtain ⟨ml, hml⟩ : ∃ ml, ml = min (D k) a := ⟨_, rfl⟩
                  obtain ⟨l, hl⟩ : ∃ l, l = chkL a (D k) ses k := ⟨_, rfl⟩
                  have hll : l.length = ml := by rw [hl, chkL_len, hml]
                  have hlb : ∀ x ∈ l, 0 ≤ x ∧ x < (a : Int) := fun x hx => chkL_bd (by rw [← hl]; exact hx)
                  have hm53 : ml ≤ 53 := by have := Ha.out; omega
                  rw [← hml, ← hl] at hbl
                  have HL := hide (show l = chkL a (D k) ses k ∧ l.length = ml ∧ (∀ x ∈ l, 0 ≤ x ∧ x < (a : Int)) from ⟨hl, hll, hlb⟩)
                  clear hRS hml hl hll hlb
                  go_wp2_with fail
                  refine hbl.out.mono ?_
                  rintro _ w7 ⟨A7, c7, rfl, r7, z7, hb7⟩
                  have HRS7 := hide (HRS.out.below hb7)
                  have R7 := hide (And.intro r7 (show ∀ z, (Value.slice A7 ml c7).ownBlock = some z → z ≠ mb from fun z hz => by have := z7 z hz; have := HRS.out.map.lt; omega))
                  clear r7 z7 hb7 hbl HRS
                  go_wp2_with fail
                  go_loopw [105] (fun jv wx => ∃ (j : Nat) (K' : List Int) (f' : Int → Int), j ≤ ml ∧ jv = .int .i64 (j : Int) ∧ RS w5 wx mb a ses D k K' f' ∧ (∀ t (x : Int), t < j → l[t]? = some x → x ∈ K') ∧ Row wx 3 (.slice A7 ml c7) (l.map encI)) (fun jv _ => ml - (intOf jv).toNat)
                  case atStart => exact ⟨0, _, _, Nat.zero_le _, rfl, HRS7.out, fun t x h => absurd h (Nat.not_lt_zero _), R7.out.1⟩
                  case round =>
                    obtain ⟨j, K', f', hj, rfl, hRx, hpr, hrow⟩ := hrel
                    by_cases hlt2 : j < ml
                    · have t2 : decide ((j : Int) < (ml : Int)) = true := by simp; omega
                      have htl : j < l.length := by rw [HL.out.2.1]; exact hlt2
                      obtain ⟨x, hx⟩ : ∃ x, x = l[j] := ⟨_, rfl⟩
                      have hxb : 0 ≤ x ∧ x < (a : Int) := by rw [hx]; exact HL.out.2.2 _ (List.getElem_mem htl)
                      have hokx : okI x := okI_of (by have := Ha.out; omega)
                      have hlj : l[j]? = some x := by rw [hx]; exact List.getElem?_eq_getElem htl
                      obtain ⟨zv, cv', ev, cc, -, -, -⟩ := Row.set hrow (i := j) (by rw [List.length_map]; exact htl) (Value.bool true)
                      rw [List.getElem_map, ← hx, show encI x = Value.int .i64 x from rfl] at cc
                      injection ev with ev ev2 ev3
                      subst ev
                      clear ev2 ev3
                      have i1 : (0 : Int) ≤ (j : Int) := by omega
                      have i2 : (j : Int) < (ml : Int) := by omega
                      have hkl : K'.length ≤ 1000000000 := by have := keys_len_le hRx.nd hRx.bd; have := Ha.out; omega
                      have hMp := hRx.map
                      have HRx := hide hRx
                      have Hrow := hide hrow
                      have Hx := hide (And.intro hxb hlj)
                      have Hpr := hide hpr
                      have Hokx := hide hokx
                      have Hkl := hide hkl
                      clear hRx hrow hxb hlj hpr hokx hkl hx htl
                      go_wp2_with (first
                        | (at_lookup; refine wp_look1 elI rfl _ _ 47 3 rfl Try.underlying47 (zero_int _) (okI_of (by omega)) rfl hMp rfl Hokx.out ?_; generalize getV _ _ _ _ = cx)
                        | (at_mapUpdate; refine wp_upd elI rfl _ _ _ 47 3 rfl Try.underlying47 rfl hMp Hkl.out rfl Hokx.out rfl (wrap64_wf _) ?_; intro w8 hm8 hg8 hz8))
                      have hRp := RS.put HRx.out (Nat.le_of_eq Hmb.out.symm) Hx.out.1 hm8 hg8
                      refine ⟨⟨j + 1, _, _, by omega, rfl, hRp, fun t y ht hy => ?_, Row.keep Hrow.out fun z hz => hg8.block z (Row.lt Hrow.out hz) fun e => ?_⟩, by simp only [intOf]; omega⟩
                      · rcases Nat.lt_or_ge t j with h1 | h1
                        · exact putK_mem.2 (.inl (Hpr.out t y h1 hy))
                        · rw [show t = j by omega, Hx.out.2] at hy
                          injection hy with hy
                          exact putK_mem.2 (.inr hy.symm)
                      · injection e with e
                        exact R7.out.2 z hz e
                    · have t2 : decide ((j : Int) < (ml : Int)) = false := by simp; omega
                      have hRn := hide (hRx.next fun x hx => by
                        rw [← HL.out.1] at hx
                        obtain ⟨t, ht, htx⟩ := List.mem_iff_getElem.1 hx
                        exact hpr t x (by have := HL.out.2.1; omega) (by rw [← htx]; exact List.getElem?_eq_getElem ht))
                      clear hRx hpr hrow
                      go_wp2_with fail
                      exact ⟨⟨k + 1, _, _, by omega, rfl, hRn.out⟩, by simp only [intOf]; omega⟩
                · have t1 : decide ((k : Int) < 4000) = false := by simp; omega
                  have hKa := hide (hRS.done M.out hff Ha.out.2.2.2.2.1 Ha.out.2.2.1 Ha.out.2.2.2.1 HD.out (by omega))
                  have HRS := hide hRS
                  clear hRS
                  go_wp2_with fail
                  generalize wr = wm at *
                  obtain ⟨Z, hZ⟩ : ∃ Z, Z = blkN ln bb := ⟨_, rfl⟩
                  have hZn : Z ≤ n := by rw [hZ]; exact blkN_le Ha.out.2.2.2.2.2.2 (by rw [← Hmm.out]; exact hll)
                  have HZ := hide hZ
                  clear hZ
                  obtain ⟨k0, k1, k2, k3, k4⟩ := hcells.out wm (below_step B5.out B5.out.size HRS.out.be)
                  go_loop [15, 117] (fun uv iv => ∃ i : Nat, i ≤ n ∧ iv = .int .i64 (i : Int) ∧ uv = .int .i64 ((min i Z : Nat) : Int)) (fun _ iv => n - (intOf iv).toNat)
                  case atStart => exact ⟨0, Nat.zero_le _, rfl, by rw [Nat.zero_min]; rfl⟩
                  case round =>
                    obtain ⟨i, hi, rfl, rfl⟩ := hrel
                    by_cases hin : i < n
                    · have t1 : decide ((i : Int) < (n : Int)) = true := by simp; omega
                      obtain ⟨p, hp⟩ : ∃ p, p = i * bb := ⟨_, rfl⟩
                      have hp8 : p ≤ 800 := by rw [hp]; exact Nat.mul_le_mul (show i ≤ 20 by omega) hbb
                      have He1 : Hid (wrap64 ((i : Int) * (bb : Int)) = (p : Int)) := hide (by rw [← Int.natCast_mul, ← hp]; exact IntWalk.wrap64_in _ ⟨by omega, by omega⟩)
                      have hlt3 : p < ln ↔ i < Z := by rw [hp, HZ.out]; exact blkN_lt Ha.out.2.2.2.2.2.2
                      by_cases hz : i < Z
                      · have t2 : decide (p < ln) = true := decide_eq_true (hlt3.2 hz)
                        rw [Nat.min_eq_left (show i ≤ Z by omega)]
                        have e1 := He1.out
                        clear He1 hlt3 hp hp8
                        go_wp2_with fail
                        exact ⟨⟨i + 1, by omega, rfl, by rw [Nat.min_eq_left (show i + 1 ≤ Z by omega)]; rfl⟩, by simp only [intOf]; omega⟩
                      · have t2 : decide (p < ln) = false := decide_eq_false fun h => hz (hlt3.1 h)
                        rw [Nat.min_eq_right (show Z ≤ i by omega)]
                        have e1 := He1.out
                        clear He1 hlt3 hp hp8
                        go_wp2_with fail
                        exact ⟨⟨i + 1, by omega, rfl, by rw [Nat.min_eq_right (show Z ≤ i + 1 by omega)]⟩, by simp only [intOf]; omega⟩
                    · have t1 : decide ((i : Int) < (n : Int)) = false := by simp; omega
                      rw [Nat.min_eq_right (show Z ≤ i by omega)]
                      have hBm := hide (below_step B5.out B5.out.size HRS.out.be)
                      have q0 := fun y : Later wm => later_cell k0 y
                      have q1 := fun y : Later wm => later_cell k1 y
                      have q2 := fun y : Later wm => later_cell k2 y
                      have q3 := fun y : Later wm => later_cell k3 y
                      have q4 := fun y : Later wm => later_cell k4 y
                      have hlen := fun y : Later wm => MapF.len (t := 47) (HRS.out.map.keep (y.below.block mb HRS.out.map.lt)) Try.underlying47 3
                      rw [hKa.out] at hlen
                      have ha9 : (a : Int) = (n : Int) + (a0 : Int) := by have := Ha.out.1; omega
                      have t2 : ((a : Int) == (n : Int) + (a0 : Int)) = true := by rw [ha9]; simp
                      have hrx := hide (show ∀ y, Calls Try.prog 19 #[pV (n : Int) (bb : Int) (q : Int) (ee : Int) (ff : Int)] y fun e w' => e = .returned (.int .i64 (a0 : Int)) ∧ Below y.heap.size y w' from fun y => by
                        have hbd := may_bd Hbd.out.2
                        have := refaux_calls (n : Int) (bb : Int) (q : Int) (ee : Int) (ff : Int) y (by omega) (by omega) (by omega) (by omega) (by omega) (by omega)
                        rw [Ha.out.2.1] at this; exact this)
                      have hb1 := Ha.out.2.2.2.2.2.2
                      have ha53 : a0 ≤ 53 := by have := Ha.out; omega
                      have hl8 : ln ≤ 800 := by have := Nat.mul_le_mul hn hbb; have := Hmm.out; omega
                      clear k0 k1 k2 k3 k4 ha9
                      go_upto_region 27 with fail
                      refine wp_region_later (by kernel_rfl) (by kernel_rfl) ?_
                      repeat (go_big_quiet_step ((go_at_call 19; exact later_call (hrx.out _))))
                      refine wpQuiet_nil ?_
                      intro _ hw'
                      obtain ⟨⟨w10, hb10⟩, rfl⟩ := hw'
                      clear t1 t2 hlen q0 q1 q2 q3 q4
                      have hfi := below_step Hb.out Hb.out.size (below_step hBm.out hBm.out.size hb10)
                      have hzq : (Z : Int) = ((ln : Int) + (bb : Int) - 1) / (bb : Int) := by
                        rw [HZ.out, blkN, Int.natCast_ediv, Int.natCast_sub (by omega)]
                        simp
                      go_wp2_with fail
                      exact hR.out _ _ ⟨rfl, hfi⟩
            · have t5 : decide ((mm : Int) < (ln : Int)) = true := by simp; omega
              have e1 := He1.out
              clear hmm hm8 hbd hm
              go_wp2_with fail
              exact hR.out _ _ ⟨rfl, hfin.out⟩
          · have t4 : decide ((3 : Int) < (q : Int)) = true := by simp; omega
            go_wp2_with fail
            exact hR.out _ _ ⟨rfl, hfin.out⟩
        · have t3 : decide ((200 : Int) < (ff : Int)) = true := by simp; omega
          go_wp2_with fail
          exact hR.out _ _ ⟨rfl, hfin.out⟩
      · have t2 : decide ((40 : Int) < (bb : Int)) = true := by simp; omega
        go_wp2_with fail
        exact hR.out _ _ ⟨rfl, hfin.out⟩
    · have t1 : decide ((20 : Int) < (n : Int)) = true := by simp; omega
      go_wp2_with fail
      exact hR.out _ _ ⟨rfl, hfin.out⟩
  · rw [Bool.not_eq_true] at hm
    rw [hm]
    go_wp2_with fail
    exact hR.out _ _ ⟨rfl, hfin.out⟩
end Go.Proofs.Ytfkofhdgokhodaa
