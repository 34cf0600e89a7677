/- The reference's Solve, walked. -/
import Derived.Test.YtdppjhfndolbjaaBatT
import Derived.Deep.RegionLaw
import Derived.Deep.RegionHeld
set_option linter.unusedVariables false
set_option linter.unusedSimpArgs false
namespace Go.Proofs.Ytdppjhfndolbjaa
open Go.RowKit

theorem OI.later {w0 w w' : World} {v : Value} {l : List Int} (h : OI w0 w v l) (hb : Below w.heap.size w w') : OI w0 w' v l :=
  ⟨h.row.keep fun k hk => hb.block k (h.row.lt hk), h.own, h.bel.trans (hb.mono h.bel.size)⟩
/-- While the reference's Solve runs: its known row, its values. -/
structure QS (w0 w : World) (all : Nat) (vk vo : Value) (S : Nat → Prop) (vs : Vals) : Prop where
  fk : OI w0 w vk (knT vs all)
  fv : VO S w vo vs
  sb : ∀ z, S z ∨ vo.ownBlock = some z → w0.heap.size ≤ z ∧ z < w.heap.size
  len : vs.length = all
theorem QS.later {w0 w w' : World} {all : Nat} {vk vo : Value} {S : Nat → Prop} {vs : Vals} (h : QS w0 w all vk vo S vs) (hb : Below w.heap.size w w') : QS w0 w' all vk vo S vs :=
  ⟨h.fk.later hb, h.fv.keep fun k hk => hb.block k (h.sb k hk).2, fun z hz => ⟨(h.sb z hz).1, Nat.lt_of_lt_of_le (h.sb z hz).2 hb.size⟩, h.len⟩
theorem QS.shape {w0 w : World} {all : Nat} {vk vo : Value} {S : Nat → Prop} {vs : Vals} (h : QS w0 w all vk vo S vs) : ∃ Ak ck Ao co, vk = .slice Ak (knT vs all).length ck ∧ (knT vs all).length ≤ ck ∧ ck ≤ maxLen ∧ vo = .slice Ao all co ∧ all ≤ co ∧ co ≤ maxLen := by
  obtain ⟨Ak, ck, e1, h1, h2⟩ := h.fk.shape
  obtain ⟨Ao, co, e2, h3, h4⟩ := h.fv.shape
  rw [h.len] at e2 h3
  exact ⟨Ak, ck, Ao, co, e1, h1, h2, e2, h3, h4⟩
theorem knT_wf {vs : Vals} {m : Nat} (hm : m ≤ 1000000) : ∀ x ∈ knT vs m, (Lit.int .i64 x).wf = true := fun x hx => by
  obtain ⟨⟨k, rfl, hk⟩, -⟩ := knT_iff.1 hx
  exact WalkArith.wf_i64 (by omega)
theorem QS.rdK {w0 w : World} {all n ck : Nat} {Ak : Option Addr} {vo : Value} {S : Nat → Prop} {vs : Vals} (h : QS w0 w all (.slice Ak n ck) vo S vs) (ha : all ≤ 1000000) : RdL kInt (· < w.heap.size) w Ak (knT vs all) := row_ints h.fk.row (knT_wf ha) fun k hk => h.fk.row.lt hk
/-- The next equation and its value. -/
def zipE (of : List (List Int)) (vals : List (List UInt8)) (k : Nat) : List EqB := (List.range k).map fun i => (of.getD i [], vals.getD i [])
theorem zipE_len (of : List (List Int)) (vals : List (List UInt8)) (k : Nat) : (zipE of vals k).length = k := by simp [zipE]
theorem zipE_at {of : List (List Int)} {vals : List (List UInt8)} {n k : Nat} (hk : k < n) (h1 : n ≤ of.length) (h2 : n ≤ vals.length) : (zipE of vals n)[k]'(by rw [zipE_len]; exact hk) = (of[k], vals[k]) := by
  simp [zipE, List.getD_eq_getElem?_getD, List.getElem?_eq_getElem (show k < of.length by omega), List.getElem?_eq_getElem (show k < vals.length by omega)]
theorem leftV_kn {vs : Vals} {m : Nat} (hm : vs.length = m) (of : List Int) : (of.filter fun i => !hasI (knT vs m) i) = leftV vs of := by
  unfold leftV
  congr 1
  funext i
  rw [has_kn hm]
theorem rd_all {α : Type} {d : Kd α} {T : Nat → Prop} {w w' : World} {A : Option Addr} {xs : List α} (h : RdL d T w A xs) (hT : ∀ z, T z → z < w.heap.size) (hb : Below w.heap.size w w') : RdL d (· < w'.heap.size) w' A xs :=
  (h.keep fun z hz => hb.block z (hT z hz)).mono fun z hz => Nat.lt_of_lt_of_le (hT z hz) hb.size
set_option maxHeartbeats 40000000 in
set_option maxRecDepth 100000 in
theorem rsolve_calls (all size : Nat) (Bo Bv : Option Addr) (of : List (List Int)) (vals : List (List UInt8)) (co cv L : Nat) (T : Nat → Prop) (w : World) (hco : L ≤ co) (hcom : co ≤ maxLen) (hcv : L ≤ cv) (hcvm : cv ≤ maxLen) (hol : L = of.length) (hvl : L = vals.length) (hL : L ≤ 1000)
    (ho : RdL (Kd.sl kInt) T w Bo of) (hv : RdL (Kd.sl Kd.byte) T w Bv vals) (hT : ∀ k, T k → k < w.heap.size) (hall : all ≤ 1000) (hsz : size ≤ 1000) (hoe : ∀ o ∈ of, o.length ≤ 1000) (hve : ∀ v ∈ vals, v.length = size) :
    Calls Try.prog 12 #[.int .i64 (all : Int), .int .i64 (size : Int), .slice Bo L co, .slice Bv L cv] w fun e w' => ∃ (vs : Vals) (vk vo : Value) (S : Nat → Prop), Fin all size (zipE of vals L) vs ∧ e = .returned (.tuple #[vk, vo, .bool (!confB all size (zipE of vals L) vs)]) ∧ QS w w' all vk vo S vs := by
  refine cps fun R hR => ?_
  unfold maxLen at hcom hcvm
  obtain ⟨es, hes⟩ : ∃ es, es = zipE of vals L := ⟨_, rfl⟩
  rw [← hes] at hR
  have hesl : es.length = L := by rw [hes, zipE_len]
  have hesa : ∀ k (h1 : k < es.length) (h2 : k < of.length) (h3 : k < vals.length), es[k] = (of[k], vals[k]) := fun k h1 h2 h3 => by
    have := zipE_at (of := of) (vals := vals) (n := L) (k := k) (by omega) (by omega) (by omega)
    simp only [hes]
    exact this
  have Hesl := hide hesl
  have Hesa := hide hesa
  have Ho := hide ho
  have Hv := hide hv
  have HT := hide hT
  have Hol := hide hol
  have Hvl := hide hvl
  have Hoe := hide hoe
  have Hve := hide hve
  clear hes hesl hesa ho hv hT hol hvl hoe hve
  have hmk := make_vals all (by omega)
  obtain ⟨w2, hw2⟩ : ∃ w2, w2 = (w.alloc (.cells #[] 3)).alloc (.cells (madeCells #[.slice none 0 0] all) 38) := ⟨_, rfl⟩
  have hq0 : QS w w2 all (.slice (some ⟨w.heap.size, 0, none⟩) 0 0) (.slice (some ⟨w.heap.size + 1, 0, none⟩) all all) (fun _ => False) (List.replicate all none) := by
    have hb1 := balloc w (.cells #[] 3)
    have hz1 : (w.alloc (.cells #[] 3)).heap.size = w.heap.size + 1 := by simp
    have hb2 := balloc (w.alloc (.cells #[] 3)) (.cells (madeCells #[.slice none 0 0] all) 38)
    have hkn : knT (List.replicate all none) all = [] := List.eq_nil_iff_forall_not_mem.2 fun x hx => by
      obtain ⟨-, h⟩ := knT_iff.1 hx
      obtain ⟨k, b, rfl, hb⟩ := knB_iff.1 h
      have := List.eq_of_mem_replicate (List.mem_of_getElem? hb)
      cases this
    have hvr := VR.made (w.alloc (.cells #[] 3)) (n := all) (by omega)
    rw [hz1] at hvr
    have hz2 : w2.heap.size = w.heap.size + 1 + 1 := by rw [hw2]; simp
    subst hw2
    refine ⟨by rw [hkn]; exact (OI.lit0 w).later hb2, hvr.vo, fun z hz => ?_, by simp⟩
    rcases hz with hz | hz
    · exact hz.elim
    · have hz' : some (w.heap.size + 1) = some z := hz
      injection hz' with hz'
      omega
  have Hq0 := hide hq0
  have Hw2 := hide hw2
  clear hq0 hw2
  go_enter Try.func12, Try.ntmps12
  go_upto_region 3 with fail
  rw [← Hw2.out]
  clear Hw2 hmk
  go_wp2_with fail
  go_loopg [11, 12, 13] (2 * noneN (List.replicate all none) + 1) (fun gk vk vo more wr => ∃ (m : Nat) (mr : Bool) (S : Nat → Prop), more = .bool mr ∧ QS w wr all vk vo S (iter all size es (List.replicate all none) m) ∧ (mr = false → (passF all size es (iter all size es (List.replicate all none) m)).2 = false) ∧ gk = 2 * noneN (iter all size es (List.replicate all none) m) + (if mr then 1 else 0))
  case atStart => exact ⟨0, true, _, rfl, Hq0.out, (fun h => by cases h), rfl⟩
  case round =>
    obtain ⟨m, mr, S, rfl, hS, hfin, rfl⟩ := hrel
    obtain ⟨vs, hvs⟩ : ∃ vs, vs = iter all size es (List.replicate all none) m := ⟨_, rfl⟩
    rw [← hvs] at hS hfin
    have HS := hide hS
    have Hvs := hide hvs
    have Hfin := hide hfin
    clear hS hfin Hq0
    cases mr
    · obtain ⟨Ak, ck, Ao, co2, rfl, hk1, hk2, rfl, hv1, hv2⟩ := HS.out.shape
      obtain ⟨lk, hlk⟩ : ∃ lk, lk = (knT vs all).length := ⟨_, rfl⟩
      rw [← hlk] at HS hk1 ⊢
      have Hlk := hide hlk
      obtain ⟨wx, hwx⟩ : ∃ wx : World, wx = wr := ⟨_, rfl⟩
      rw [← hwx] at HS ⊢
      clear hwx hvs hlk
      have hno := hide (Hfin.out rfl)
      have hfn := hide (show Fin all size es vs from ⟨⟨m, Hvs.out⟩, hno.out⟩)
      have hcf0 := hide (show confB all size (es.take 0) vs = false from rfl)
      go_wp2_with fail
      go_loopw [16, 17] (fun ag i wy => ∃ (j : Nat) (ab : Bool), j ≤ L ∧ i = .int .i64 (j : Int) ∧ ag = .bool ab ∧ confB all size (es.take j) vs = !ab ∧ Below wx.heap.size wx wy) (fun _ i _ => L - (intOf i).toNat)
      case atStart => exact ⟨0, true, Nat.zero_le _, rfl, rfl, hcf0.out, Below.refl _ _⟩
      case round =>
        obtain ⟨j, ab, hj, rfl, rfl, hab, hbx⟩ := hrel
        by_cases hlt : j < L
        · have hjl : j < es.length := by rw [Hesl.out]; exact hlt
          have hct := conf_take (all := all) (size := size) (vs := vs) hjl
          have hjo : j < of.length := by rw [← Hol.out]; exact hlt
          have hjv : j < vals.length := by rw [← Hvl.out]; exact hlt
          rw [Hesa.out j hjl hjo hjv] at hct
          have hS2 := HS.out.later hbx
          have hbw : Below w.heap.size w wr := hS2.fk.bel
          obtain ⟨b, off, A, c, rfl, hsb, q0, a1, a2, hrA⟩ := sl_at Ho.out hjo
          obtain ⟨b', off', Bx, dd, rfl, hsb', q1, a4, a5, hrB⟩ := sl_at Hv.out hjv
          have hee := Hoe.out of[j] (List.getElem_mem hjo)
          have hvv := Hve.out vals[j] (List.getElem_mem hjv)
          generalize of[j] = o at hct q0 a1 hrA hee
          generalize vals[j] = v at hct q1 a4 hrB hvv
          have c0 := keep8 q0 hbw
          have c1 := keep8 q1 hbw
          have hA3 := rd_all hrA HT.out hbw
          have hB3 := rd_all hrB HT.out hbw
          obtain ⟨lo, hlo⟩ : ∃ lo, lo = o.length := ⟨_, rfl⟩
          rw [← hlo] at q0 c0 a1
          obtain ⟨lv, hlv⟩ : ∃ lv, lv = v.length := ⟨_, rfl⟩
          rw [← hlv] at q1 c1 a4
          have hfi := rfits_calls A o c (all : Int) (· < wr.heap.size) wr a2 (by rw [← hlo]; exact a1) hA3 (fun k hk => hk)
          rw [← hlo] at hfi
          obtain ⟨ok, hok⟩ : ∃ ok, ok = fitsI (all : Int) o := ⟨_, rfl⟩
          rw [← hok] at hfi
          rw [hab] at hct
          have hoke : okE all size (o, v) = ok := by
            have h3 : decide (((o, v).2.length : Int) = (size : Int)) = true := by rw [hvv]; simp
            rw [okE, h3, hok, Bool.and_true]
          rw [hoke] at hct
          have Hoke := hide hoke
          have Hfi := hide hfi
          have Hct := hide hct
          have HS2 := hide hS2
          have HA3 := hide hA3
          have HB3 := hide hB3
          have Hlo := hide hlo
          have Hlv := hide hlv
          have Hc0 := hide c0
          have Hc1 := hide c1
          have Hbx := hide hbx
          have i1 : (0 : Int) ≤ (j : Int) := by omega
          have i2 : (j : Int) < (L : Int) := by omega
          clear hct hS2 hbw hA3 hB3 hlo hlv q0 q1 hsb hsb' hrA hrB hjo hjv hjl hab hok hoke hfi hbx
          go_wp2_with fail
          refine Hfi.out.mono ?_
          rintro _ w7 ⟨rfl, hb7⟩
          have hS7 := HS2.out.later hb7
          have d0 := keep8 Hc0.out hb7
          have HS7 := hide hS7
          have Hb7 := hide hb7
          clear c0 c1 hS7 hb7
          cases ok
          · go_wp2_with fail
            exact ⟨⟨j + 1, ab, by omega, by rw [Int.natCast_succ], rfl, by rw [Hct.out]; simp, Hbx.out.trans (Hb7.out.mono Hbx.out.size)⟩, by simp only [intOf]; omega⟩
          · have hle := rleft_calls (K := Ak) (A := A) (kn := knT vs all) (of := o) (ck := ck) (c := c) (w := w7) (by rw [← Hlk.out]; exact hk1) hk2 (by rw [← Hlo.out]; exact a1) a2 (by omega) (HS7.out.rdK (by omega)) (rd_all HA3.out (fun z hz => hz) Hb7.out) (fun k hk => hk)
            rw [leftV_kn HS7.out.len, ← Hlk.out, ← Hlo.out] at hle
            have Hle := hide hle
            clear hle
            go_wp2_with fail
            refine Hle.out.mono ?_
            rintro _ w8 ⟨v8, rfl, ho8⟩
            obtain ⟨Al, cl, rfl, hcl1, hcl2⟩ := ho8.shape
            obtain ⟨ll, hll⟩ : ∃ ll, ll = (leftV vs o).length := ⟨_, rfl⟩
            rw [← hll] at hcl1 ho8 Hct ⊢
            have hb8 := ho8.bel
            have hb08 := Hb7.out.trans (hb8.mono Hb7.out.size)
            have e0 := keep8 Hc0.out hb08
            have e1 := keep8 Hc1.out hb08
            have hS8 := HS7.out.later hb8
            have HS8 := hide hS8
            have Hb08 := hide hb08
            have Hll := hide hll
            clear d0 hb8 hb08 hS8 ho8 hll
            by_cases h1 : ll = 0
            · subst h1
              have t1 : ((0 : Int) == 0) = true := rfl
              have hwv : WV all size vs := hfn.out.der.wv
              have hrs := fun (y : World) (hy : Below w8.heap.size w8 y) => rrest_calls (K := Ak) (A := A) (B := Bx) (C := Ao) (kn := knT vs all) (of := o) (v := v) (ck := ck) (c := c) (d := dd) (n := all) (cv := co2) (vs := vs) (S := (· < y.heap.size)) (w := y) (by rw [← Hlk.out]; exact hk1) hk2 (by rw [← Hlo.out]; exact a1) a2 (by omega) (by rw [← Hlv.out]; exact a4) a5 (by omega) HS8.out.len.symm (by omega)
                ((HS8.out.later hy).rdK (by omega)) (rd_all HA3.out (fun z hz => hz) (Hb08.out.trans (hy.mono Hb08.out.size))) (rd_all HB3.out (fun z hz => hz) (Hb08.out.trans (hy.mono Hb08.out.size))) ((HS8.out.later hy).fv.mono fun z hz => ((HS8.out.later hy).sb z (.inl hz)).2) (fun z hz => ((HS8.out.later hy).sb z (.inr hz)).2) (fun z hz => hz) (has_kn HS8.out.len) (fun i hi => by rw [hwv.val hi, hvv])
              rw [← Hlk.out, ← Hlo.out, ← Hlv.out] at hrs
              have hrl : (restV vs o v).length = lv := by rw [rest_len hwv hvv, Hlv.out, hvv]
              have hze := fun (y : World) (g : Nat) (hw : Wr y (some ⟨g, 0, none⟩) g [] [] 5 (restV vs o v)) => refzero_calls (some ⟨g, 0, none⟩) (restV vs o v) lv _ y (by rw [Hlv.out, hvv]; unfold maxLen; omega) (by rw [hrl]; exact Nat.le_refl _) hw.rdB
              rw [hrl] at hze
              obtain ⟨zb, hzb⟩ : ∃ zb, zb = zeroB (restV vs o v) := ⟨_, rfl⟩
              rw [← hzb] at hze Hct
              have Hrs := hide hrs
              have Hze := hide hze
              clear hrs hze hwv hrl hzb
              cases ab
              · go_wp2_with fail
                go_quiet (fail)
                go_wp2_with fail
                exact ⟨⟨j + 1, false, by omega, by rw [Int.natCast_succ], rfl, by rw [Hct.out]; simp, drewN0 (Hbx.out.trans (Hb08.out.mono Hbx.out.size)) nq⟩, by simp only [intOf]; omega⟩
              · go_wp2_with fail
                have Hcs := hide (fun (y : World) (hy : Below w8.heap.size w8 y) => And.intro (keep8 e0 hy) (keep8 e1 hy))
                clear e0 e1
                go_region_held (fun y => y.cell? ⟨b, off + j, none⟩ = some (.slice A lo c) ∧ y.cell? ⟨b', off' + j, none⟩ = some (.slice Bx lv dd)) (first | exact Hcs.out _ (Below.refl _ _).drew | exact Hcs.out _ F4.out) (first
                  | (go_at_call 29
                     refine (Hrs.out _ (Below.refl _ _).drew).mono ?_
                     rintro _ w9 ⟨g, rfl, f1, f2, f3, f4'⟩
                     have Hzr := hide (Hze.out w9 g f1)
                     have F4 := hide (undrew8 f4')
                     clear f1 f2 f3 f4')
                  | (go_at_call 31
                     refine Hzr.out.mono ?_
                     rintro _ w10 ⟨rfl, rfl⟩))
                all_goals
                  go_wp2_with fail
                  exact ⟨⟨j + 1, zb, by omega, by rw [Int.natCast_succ], rfl, by rw [Hct.out]; simp, Hbx.out.trans ((Hb08.out.trans (F4.out.mono Hb08.out.size)).mono Hbx.out.size)⟩, by simp only [intOf]; omega⟩
            · have e2 : ((ll : Int) == 0) = false := by simp; omega
              have e3 : decide (ll = 0) = false := by simp [h1]
              rw [e3] at Hct
              clear e3
              go_wp2_with fail
              exact ⟨⟨j + 1, ab, by omega, by rw [Int.natCast_succ], rfl, by rw [Hct.out]; simp, Hbx.out.trans (Hb08.out.mono Hbx.out.size)⟩, by simp only [intOf]; omega⟩
        · obtain rfl : j = L := by omega
          have hfull : es.take j = es := List.take_of_length_le (by rw [Hesl.out]; exact Nat.le_refl _)
          rw [hfull] at hab
          have hS2 := HS.out.later hbx
          have HS2 := hide hS2
          have Hab := hide (show ab = !confB all size es vs by rw [hab]; simp)
          clear hS2 hbx hfull hab
          go_wp2_with fail
          refine bodyPost_ret (v := .tuple #[.slice Ak lk ck, .slice Ao all co2, .bool ab]) ?_ rfl (hR.out _ _ ⟨vs, .slice Ak lk ck, .slice Ao all co2, S, hfn.out, by rw [← Hab.out], HS2.out⟩)
          simp [results, Try.results12, go_sem]
    · go_wp2_with fail
      go_loopw [11, 12, 13, 14] (fun vk vo more i wx => ∃ (j : Nat) (S2 : Nat → Prop), j ≤ L ∧ i = .int .i64 (j : Int) ∧ more = .bool ((es.take j).foldl (stepF all size) (vs, false)).2 ∧ QS w wx all vk vo S2 ((es.take j).foldl (stepF all size) (vs, false)).1) (fun _ _ _ i _ => L - (intOf i).toNat)
      case atStart => exact ⟨0, S, Nat.zero_le _, rfl, rfl, HS.out⟩
      case round =>
        obtain ⟨j, S2, hj, rfl, rfl, hS2⟩ := hrel
        obtain ⟨Ak, ck, Ao, co2, rfl, hk1, hk2, rfl, hv1, hv2⟩ := hS2.shape
        obtain ⟨pj, hpj⟩ : ∃ pj, pj = (es.take j).foldl (stepF all size) (vs, false) := ⟨_, rfl⟩
        have Hpj := hide hpj
        rw [← hpj] at hS2 hk1 ⊢
        clear hpj
        by_cases hlt : j < L
        · have hjl : j < es.length := by rw [Hesl.out]; exact hlt
          have hft := fold_take (all := all) (size := size) (p := (vs, false)) hjl
          have hjo : j < of.length := by rw [← Hol.out]; exact hlt
          have hjv : j < vals.length := by rw [← Hvl.out]; exact hlt
          rw [← Hpj.out, Hesa.out j hjl hjo hjv] at hft
          have hbw : Below w.heap.size w wr := hS2.fk.bel
          obtain ⟨b, off, A, c, rfl, hsb, q0, a1, a2, hrA⟩ := sl_at Ho.out hjo
          obtain ⟨b', off', Bx, dd, rfl, hsb', q1, a4, a5, hrB⟩ := sl_at Hv.out hjv
          have hee := Hoe.out of[j] (List.getElem_mem hjo)
          have hvv := Hve.out vals[j] (List.getElem_mem hjv)
          generalize of[j] = o at hft q0 a1 hrA hee
          generalize vals[j] = v at hft q1 a4 hrB hvv
          have c0 := keep8 q0 hbw
          have c1 := keep8 q1 hbw
          have hA3 := rd_all hrA HT.out hbw
          have hB3 := rd_all hrB HT.out hbw
          have hK3 := hS2.rdK (by omega)
          obtain ⟨lk, hlk⟩ : ∃ lk, lk = (knT pj.1 all).length := ⟨_, rfl⟩
          rw [← hlk] at hS2 hk1 ⊢
          have hle := rleft_calls (K := Ak) (A := A) (kn := knT pj.1 all) (of := o) (ck := ck) (c := c) (w := wr) (by rw [← hlk]; exact hk1) hk2 a1 a2 (by omega) hK3 hA3 (fun k hk => hk)
          rw [leftV_kn hS2.len, ← hlk] at hle
          obtain ⟨lo, hlo⟩ : ∃ lo, lo = o.length := ⟨_, rfl⟩
          rw [← hlo] at q0 c0 a1 hle
          obtain ⟨lv, hlv⟩ : ∃ lv, lv = v.length := ⟨_, rfl⟩
          rw [← hlv] at q1 c1 a4
          have Hle := hide hle
          have Hft := hide hft
          have HS2 := hide hS2
          have Hbw := hide hbw
          have HA3 := hide hA3
          have HB3 := hide hB3
          have HK3 := hide hK3
          have Hlk := hide hlk
          have Hlo := hide hlo
          have Hlv := hide hlv
          have Hc0 := hide c0
          have Hc1 := hide c1
          have i1 : (0 : Int) ≤ (j : Int) := by omega
          have i2 : (j : Int) < (L : Int) := by omega
          clear hft hS2 hbw hA3 hB3 hK3 hle hlk hlo hlv q0 q1 hsb hsb' hrA hrB hjo hjv hjl
          go_wp2_with fail
          refine Hle.out.mono ?_
          rintro _ w6 ⟨v6, rfl, ho6⟩
          obtain ⟨Al, cl, rfl, hcl1, hcl2⟩ := ho6.shape
          have d0 := keep8 Hc0.out ho6.bel
          have hfi := rfits_calls A o c (all : Int) (· < w6.heap.size) w6 a2 (by rw [← Hlo.out]; exact a1) (rd_all HA3.out (fun z hz => hz) ho6.bel) (fun k hk => hk)
          rw [← Hlo.out] at hfi
          obtain ⟨ok, hok⟩ : ∃ ok, ok = fitsI (all : Int) o := ⟨_, rfl⟩
          rw [← hok] at hfi
          obtain ⟨ll, hll⟩ : ∃ ll, ll = (leftV pj.1 o).length := ⟨_, rfl⟩
          rw [← hll] at hcl1 ho6 ⊢
          have Hll := hide hll
          have Ho6 := hide ho6
          have Hok := hide hok
          have Hfi := hide hfi
          clear hll ho6 c0 c1 hok hfi
          go_wp2_with fail
          refine Hfi.out.mono ?_
          rintro _ w7 ⟨rfl, hb7⟩
          have hS7 := (HS2.out.later Ho6.out.bel).later hb7
          have hb07 : Below wr.heap.size wr w7 := Ho6.out.bel.trans (hb7.mono Ho6.out.bel.size)
          have e0 := keep8 Hc0.out hb07
          have e1 := keep8 Hc1.out hb07
          have hO7 := Ho6.out.later hb7
          have HS7 := hide hS7
          have HO7 := hide hO7
          have Hb07 := hide hb07
          clear d0 hS7 hb7 hO7 hb07
          cases ok
          · have hnf : firesB all size pj.1 (o, v) = false := by rw [firesB, okE, ← Hok.out]; rfl
            have hst := hide (stepF_not hnf)
            clear hnf
            go_wp2_with fail
            exact ⟨⟨j + 1, S2, by omega, by rw [Int.natCast_succ], by rw [Hft.out, hst.out], by rw [Hft.out, hst.out]; exact HS7.out⟩, by simp only [intOf]; omega⟩
          · by_cases h1 : ll = 1
            · subst h1
              have hfire : firesB all size pj.1 (o, v) = true := by
                have h2 : decide ((leftV pj.1 (o, v).1).length = 1) = true := by rw [← Hll.out]; simp
                have h3 : decide (((o, v).2.length : Int) = (size : Int)) = true := by rw [hvv]; simp
                rw [firesB, okE, h2, h3, ← Hok.out]; rfl
              obtain ⟨hok2, x, hx, hxm, hkx, hx0, hxa⟩ := fires_one hfire
              have hx' : leftV pj.1 o = [x] := hx
              obtain ⟨kx, rfl⟩ := Int.eq_ofNat_of_zero_le hx0
              have hwv : WV all size pj.1 := by rw [Hpj.out, Hvs.out]; exact (Der.steps (es.take j) _ (fun e he => List.mem_of_mem_take he) (iter_der es m)).wv
              have hstep : stepF all size pj (o, v) = (pj.1.set kx (some (restV pj.1 o v)), true) := by
                rw [stepF, step_fire hfire hx, hfire, Int.toNat_natCast, Bool.or_true]
              have hrow := HO7.out.row
              rw [hx'] at hrow
              obtain ⟨ql, cq, eq1, hcl, -, -, -⟩ := hrow.set (i := 0) (by simp) (.bool true)
              injection eq1 with eq1 eq2 eq3
              subst eq1
              clear eq2 eq3
              have g0 : w7.cell? ⟨ql, 0, none⟩ = some (.int .i64 (kx : Int)) := hcl
              have hrl : (restV pj.1 o v).length = size := rest_len hwv hvv
              have i3 : kx < all := by omega
              have hrs := fun (y : World) (hy : Below w7.heap.size w7 y) => rrest_calls (K := Ak) (A := A) (B := Bx) (C := Ao) (kn := knT pj.1 all) (of := o) (v := v) (ck := ck) (c := c) (d := dd) (n := all) (cv := co2) (vs := pj.1) (S := (· < y.heap.size)) (w := y) (by rw [← Hlk.out]; exact hk1) hk2 (by rw [← Hlo.out]; exact a1) a2 (by omega) (by rw [← Hlv.out]; exact a4) a5 (by omega) HS7.out.len.symm (by omega)
                ((HS7.out.later hy).rdK (by omega)) (rd_all HA3.out (fun z hz => hz) (Hb07.out.trans (hy.mono Hb07.out.size))) (rd_all HB3.out (fun z hz => hz) (Hb07.out.trans (hy.mono Hb07.out.size))) ((HS7.out.later hy).fv.mono fun z hz => ((HS7.out.later hy).sb z (.inl hz)).2) (fun z hz => ((HS7.out.later hy).sb z (.inr hz)).2) (fun z hz => hz) (has_kn HS7.out.len) (fun i hi => by rw [hwv.val hi, hvv])
              rw [← Hlk.out, ← Hlo.out, ← Hlv.out] at hrs
              have hput := fun (y : World) (g : Nat) (hy : Below w7.heap.size w7 y) (hg1 : w7.heap.size ≤ g) (hg2 : g < y.heap.size) (hw : Wr y (some ⟨g, 0, none⟩) g [] [] 5 (restV pj.1 o v)) => rput_calls (A := Ao) (C := some ⟨g, 0, none⟩) (n := all) (c := co2) (cb := lv) (b := restV pj.1 o v) (vs := pj.1) (k := kx) (S := S2) (T := (· = g)) (w := y) (HS7.out.later hy).fv HS7.out.len.symm (by omega) i3 (fun z hz => ((HS7.out.later hy).sb z (.inl hz)).2) hw.rdB (fun z hz => by rw [hz]; exact hg2) ⟨_, rfl⟩ (by rw [hrl, Hlv.out, hvv]; exact Nat.le_refl _) (by rw [Hlv.out, hvv]; unfold maxLen; omega)
              rw [show (restV pj.1 o v).length = lv by rw [hrl, Hlv.out, hvv]] at hput
              have hins := fun (y : World) (hy : Below w7.heap.size w7 y) => rins_calls (A := Ak) (l := knT pj.1 all) (c := ck) (n := (kx : Int)) (S := (· < y.heap.size)) (w := y) (by rw [← Hlk.out]; exact hk1) hk2 (by have := knT_len pj.1 all; omega) ((HS7.out.later hy).rdK (by omega)) (fun z hz => hz)
              rw [← Hlk.out, ins_kn (b := restV pj.1 o v) HS7.out.len i3 hkx] at hins
              have Hrs := hide hrs
              have Hput := hide hput
              have Hins := hide hins
              have Hst := hide hstep
              have j1 : (0 : Int) ≤ (kx : Int) := by omega
              have j2 : (kx : Int) < (all : Int) := hxa
              clear hrs hput hins hstep hfire hok2 hx hxm hkx hx0 hxa hx' hwv hrow hcl hrl
              go_wp2_with fail
              go_region_law (first
                | (go_simp; refine (Hrs.out _ (Below.refl _ _).drew).mono ?_; rintro _ w8 ⟨g, rfl, f1, f2, f3, f4'⟩; have f4 := undrew8 f4'; have z4 := keep8 g0 f4; have Hpt := hide (Hput.out w8 g f4 f2 f3 f1); have F4 := hide f4; have F2 := hide f2; have F3 := hide f3; clear f1 f2 f3 f4 f4')
                | (go_simp; refine Hpt.out.mono ?_; rintro _ w9 ⟨v9, rfl, m1, m2, m3⟩; have M1 := hide m1; have M2 := hide m2; have M3 := hide m3; clear m1 m2 m3))
              all_goals
                have hb9 := F4.out.trans (M3.out.mono F4.out.size)
                have g0' := keep8 g0 hb9
                have Hin := hide (Hins.out w9 hb9)
                have Hb9 := hide hb9
                obtain ⟨A9, c9, rfl, h91, h92⟩ := M1.out.shape
                have hl9 : (pj.1.set kx (some (restV pj.1 o v))).length = all := by rw [List.length_set]; exact HS7.out.len
                rw [hl9] at M1 M2 h91 ⊢
                have Hl9 := hide hl9
                clear hb9 hl9
                go_wp2_with fail
                refine Hin.out.mono ?_
                rintro _ w10 ⟨v10, rfl, hi10⟩
                have hbA := hi10.bel
                have hbB := Hb07.out.trans (Hb9.out.mono Hb07.out.size)
                have hbC := Hbw.out.trans (hbB.mono Hbw.out.size)
                have hq10 : QS w w10 all v10 (.slice A9 all c9) (fun z => S2 z ∨ z = g) (pj.1.set kx (some (restV pj.1 o v))) :=
                  ⟨⟨hi10.row, fun z hz => Nat.le_trans hbC.size (hi10.own z hz), hbC.trans (hbA.mono hbC.size)⟩,
                   M1.out.keep fun z hz => hbA.block z (by
                    rcases hz with (hz | hz) | hz
                    · have := (HS7.out.sb z (.inl hz)).2; have := Hb9.out.size; omega
                    · have := F3.out; have := M3.out.size; omega
                    · exact M1.out.lt hz), fun z hz => by
                    have s1 := Hb9.out.size
                    have s2 := hbA.size
                    have s3 := F3.out
                    have s4 := M3.out.size
                    have s5 : w7.heap.size ≤ g := F2.out
                    have s6 := F4.out.size
                    have s7 := HS7.out.fk.bel.size
                    rcases hz with (hz | hz) | hz
                    · have := HS7.out.sb z (.inl hz); omega
                    · omega
                    · have e1 := M2.out z hz; have e2 := M1.out.lt hz; omega, Hl9.out⟩
                have Hq10 := hide hq10
                clear hq10 hbA hbB hbC hi10
                go_wp2_with fail
                exact ⟨⟨j + 1, _, by omega, by rw [Int.natCast_succ], by rw [Hft.out, Hst.out], by rw [Hft.out, Hst.out]; exact Hq10.out⟩, by simp only [intOf]; omega⟩
            · have hnf : firesB all size pj.1 (o, v) = false := by
                rw [firesB]
                have : decide ((leftV pj.1 (o, v).1).length = 1) = false := by rw [← Hll.out]; simp [h1]
                rw [this, Bool.and_false]
              have hst := hide (stepF_not hnf)
              have e2 : ((ll : Int) == 1) = false := by simp; omega
              clear hnf
              go_wp2_with fail
              exact ⟨⟨j + 1, S2, by omega, by rw [Int.natCast_succ], by rw [Hft.out, hst.out], by rw [Hft.out, hst.out]; exact HS7.out⟩, by simp only [intOf]; omega⟩
        · obtain rfl : j = L := by omega
          have hfull : es.take j = es := List.take_of_length_le (by rw [Hesl.out]; exact Nat.le_refl _)
          rw [hfull] at Hpj
          have hps := hide (show pj = passF all size es vs from Hpj.out)
          have hcnt := hide (pass_count (es := es) (p := (vs, false)) (show WV all size vs by rw [Hvs.out]; exact (iter_der es m).wv))
          have HS2 := hide hS2
          clear hfull hS2
          go_wp2_with fail
          go_roundg (2 * noneN pj.1 + (if pj.2 then 1 else 0))
          case measure =>
            have h1 := hcnt.out
            rw [show es.foldl (stepF all size) (vs, false) = pj from hps.out.symm] at h1
            have h2 : noneN pj.1 + (if pj.2 then 1 else 0) ≤ noneN vs := by
              cases hp : pj.2 <;> rw [hp] at h1 <;> simpa using h1
            rw [← Hvs.out]
            cases hp : pj.2 <;> rw [hp] at h2 <;> simp at h2 ⊢ <;> omega
          case rel =>
            have hit : iter all size es (List.replicate all none) (m + 1) = pj.1 := by
              show (passF all size es (iter all size es (List.replicate all none) m)).1 = _
              rw [← Hvs.out, hps.out]
            refine ⟨m + 1, pj.2, S2, rfl, by rw [hit]; exact HS2.out, fun h => ?_, by rw [hit]⟩
            rw [hit]
            have hpf := pass_flag es (vs, false) (by rw [show es.foldl (stepF all size) (vs, false) = pj from hps.out.symm]; exact h)
            have : pj.1 = vs := by rw [show es.foldl (stepF all size) (vs, false) = pj from hps.out.symm] at hpf; exact hpf.2.1
            rw [this, ← hps.out]; exact h
end Go.Proofs.Ytdppjhfndolbjaa
