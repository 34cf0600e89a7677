/- BatchOdd, walked. -/
import Derived.Test.YtdppjhfndolbjaaBatchTwice
import Derived.Test.YtdppjhfndolbjaaBatU
import Derived.Test.YtdppjhfndolbjaaBatPure3
import Derived.Test.YtdppjhfndolbjaaJoin
import Derived.Deep.RegionLaw
import Derived.Deep.RegionHeld
import Derived.Deep.RegionHeldLaw
set_option linter.unusedVariables false
set_option linter.unusedSimpArgs false
namespace Go.Proofs.Ytdppjhfndolbjaa
open Go.RowKit

theorem kEq_one {S : Nat → Prop} {w : World} {y : EqB} {cs : List Value} (h : kEq.R S w y cs) : ∀ u ∈ cs, u.oneCell' = true := by
  obtain ⟨_, _, rfl, ⟨_, _, rfl, -⟩, _, _, rfl, -⟩ := h
  intro u hu
  simp at hu
  rcases hu with rfl | rfl <;> rfl
theorem knT_congr {vs vs' : Vals} (h : ∀ i, knB vs i = knB vs' i) (m : Nat) : knT vs m = knT vs' m := by
  unfold knT
  congr 1
  refine List.filter_congr fun k _ => ?_
  have := h (k : Int)
  rwa [knB_nat, knB_nat] at this
theorem held_alloc8 {W w : World} {o : Obj} (h : Hid (Below W.heap.size W w)) : Hid (Below W.heap.size W (w.alloc o)) := hide (h.out.alloc h.out.size o)
theorem held_drew8 {W w : World} (h : Hid (Below W.heap.size W w)) : Hid (Below W.heap.size W w.drew) := hide h.out.drew
theorem lit_a {S : Nat → Prop} (w : World) : ORow kEq S (w.alloc (.cells #[] 43)).drew 43 (.slice (some ⟨w.heap.size, 0, none⟩) 0 0) [] := (orow_lit0 w 43).keep fun _ _ => rfl
theorem lit_b {S : Nat → Prop} (w : World) (o : Obj) (hS : ∀ z, S z → z < w.heap.size) : ORow kEq S ((w.alloc (.cells #[] 43)).alloc o).drew 43 (.slice (some ⟨w.heap.size, 0, none⟩) 0 0) [] :=
  (orow_lit0 w 43).keep fun z hz => (balloc (w.alloc (.cells #[] 43)) o).block z (by
    rcases hz with hz | hz
    · have := hS z hz; simp; omega
    · have hz' : some w.heap.size = some z := hz
      injection hz' with hz'; simp; omega)
theorem lit_c {S : Nat → Prop} (w : World) (o : Obj) : ORow kEq S ((w.alloc o).alloc (.cells #[] 43)).drew 43 (.slice (some ⟨w.heap.size + 1, 0, none⟩) 0 0) [] := by
  have := (orow_lit0 (d := kEq) (S := S) (w.alloc o) 43).keep (w' := ((w.alloc o).alloc (.cells #[] 43)).drew) fun _ _ => rfl
  rwa [show (w.alloc o).heap.size = w.heap.size + 1 by simp] at this
theorem one_b {w w4 : World} {o : Obj} (h : ((w.alloc (.cells #[] 43)).alloc o).drew.grownBy w4 (some w.heap.size)) : w4.heap[w.heap.size + 1]? = some o := by
  rw [h.block (w.heap.size + 1) (by show _ < ((w.alloc _).alloc o).heap.size; simp) (by simp)]
  have := heap_alloc_new (w.alloc (.cells #[] 43)) o
  rwa [show (w.alloc (.cells #[] 43)).heap.size = w.heap.size + 1 by simp] at this
theorem one_c {w w4 : World} {o : Obj} (h : ((w.alloc o).alloc (.cells #[] 43)).drew.grownBy w4 (some (w.heap.size + 1))) : w4.heap[w.heap.size]? = some o := by
  rw [h.block w.heap.size (by show _ < ((w.alloc o).alloc _).heap.size; simp; omega) (by simp)]
  show ((w.alloc o).alloc _).heap[w.heap.size]? = _
  rw [(balloc (w.alloc o) _).block _ (by simp)]
  exact heap_alloc_new w o
theorem one_b' {w w4 : World} {o : Obj} {v' : Value} (h : ((w.alloc (.cells #[] 43)).alloc o).drew.grownBy w4 (some w.heap.size)) (h2 : v'.ownBlock = some w.heap.size ∨ v'.ownBlock = some ((w.alloc (.cells #[] 43)).alloc o).drew.heap.size) :
    w4.heap[w.heap.size + 1]? = some o ∧ w.heap.size + 1 < w4.heap.size ∧ some (w.heap.size + 1) ≠ v'.ownBlock := by
  have h1 := one_b h
  refine ⟨h1, (Array.getElem?_eq_some_iff.1 h1).1, fun e => ?_⟩
  rcases h2 with e' | e'
  · rw [e'] at e; injection e with e; omega
  · rw [e'] at e; injection e with e
    have : ((w.alloc (.cells #[] 43)).alloc o).drew.heap.size = w.heap.size + 2 := by show ((w.alloc _).alloc o).heap.size = _; simp
    omega
theorem one_c' {w w4 : World} {o : Obj} {v' : Value} (h : ((w.alloc o).alloc (.cells #[] 43)).drew.grownBy w4 (some (w.heap.size + 1))) (h2 : v'.ownBlock = some (w.heap.size + 1) ∨ v'.ownBlock = some ((w.alloc o).alloc (.cells #[] 43)).drew.heap.size) :
    w4.heap[w.heap.size]? = some o ∧ w.heap.size < w4.heap.size ∧ some w.heap.size ≠ v'.ownBlock := by
  have h1 := one_c h
  refine ⟨h1, (Array.getElem?_eq_some_iff.1 h1).1, fun e => ?_⟩
  rcases h2 with e' | e'
  · rw [e'] at e; injection e with e; omega
  · rw [e'] at e; injection e with e
    have : ((w.alloc o).alloc (.cells #[] 43)).drew.heap.size = w.heap.size + 2 := by show ((w.alloc o).alloc _).heap.size = _; simp
    omega
theorem rd_one {S : Nat → Prop} {w : World} {g ol oc bl obc : Nat} {Oa Ob : Option Addr} {oof : List Int} {ob : List UInt8} (h : w.heap[g]? = some (.cells #[.slice Oa ol oc, .slice Ob bl obc] 43 (0, 0))) (hs : S g) (h1 : ol = oof.length) (h2 : ol ≤ oc) (h3 : oc ≤ maxLen) (h4 : bl = ob.length) (h5 : bl ≤ obc) (h6 : obc ≤ maxLen) (ha : RdL kInt S w Oa oof) (hb : RdL Kd.byte S w Ob ob) : RdL kEq S w (some ⟨g, 0, none⟩) [(oof, ob)] := fun _ =>
  ⟨g, 0, rfl, hs, fun i x hx => by
    cases i with
    | succ i => simp at hx
    | zero =>
      simp at hx; subst hx
      refine ⟨[.slice Oa ol oc, .slice Ob bl obc], ⟨[_], [_], rfl, ⟨Oa, oc, by rw [h1], by rw [← h1]; exact h2, h3, ha⟩, Ob, obc, by rw [h4], by rw [← h4]; exact h5, h6, hb⟩, fun j u hu => ?_⟩
      rw [show (0 : Nat) + (0 * kEq.sz + j) = j by omega, cell_of_row _ _ j _ _ _ h]
      simpa using hu⟩
theorem held_in {W w : World} {α : Type} {d : Kd α} {A : Option Addr} {xs : List α} (h : RdL d (· < W.heap.size) W A xs) (hb : Hid (Below W.heap.size W w)) : RdL d (· < W.heap.size) w A xs := h.below hb.out
theorem okE_odd {m n : Nat} {of : List Int} {v : List UInt8} (h : fitsI (m : Int) of = true → v.length ≠ n) : okE m n (of, v) = false := by
  rw [okE]
  cases hf : fitsI (m : Int) of with
  | false => rfl
  | true =>
    have := h hf
    have h2 : decide (((of, v).2.length : Int) = (n : Int)) = false := by
      rw [decide_eq_false_iff_not]
      intro e
      exact this (by exact_mod_cast e)
    rw [h2]; rfl
set_option maxHeartbeats 40000000 in
set_option maxRecDepth 100000 in
theorem BatchOdd_calls (al sz : Int) (hal : 0 ≤ al ∧ al ≤ 255) (hsz : 0 ≤ sz ∧ sz ≤ 255) (Bo Bv Oa Ob : Option Addr) (of : List (List Int)) (vals : List (List UInt8)) (oof : List Int) (ob : List UInt8) (at0 : Nat) (hat0 : at0 ≤ 255) (co cv oc obc : Nat) (w : World) (hco : of.length ≤ co) (hcom : co ≤ maxLen) (hcv : vals.length ≤ cv) (hcvm : cv ≤ maxLen)
    (hoc : oof.length ≤ oc) (hocm : oc ≤ maxLen) (hobc : ob.length ≤ obc) (hobm : obc ≤ maxLen) (hoo : RdL kInt (· < w.heap.size) w Oa oof) (hob : RdL Kd.byte (· < w.heap.size) w Ob ob)
    (ho : RdL (Kd.sl kInt) (· < w.heap.size) w Bo of) (hv : RdL (Kd.sl Kd.byte) (· < w.heap.size) w Bv vals) (hbd : ∀ o ∈ of, o.length ≤ 1000000000000000000) :
    Calls Try.prog 4 #[eqsV al sz Bo of.length co Bv vals.length cv, .agg #[.slice Oa oof.length oc, .slice Ob ob.length obc], .int .u8 (at0 : Int)] w fun e w' => e = .returned (.bool true) ∧ Below w.heap.size w w' := by
  refine cps fun R hR => ?_
  obtain ⟨lo, hlo⟩ : ∃ lo, lo = of.length := ⟨_, rfl⟩
  obtain ⟨lv, hlv⟩ : ∃ lv, lv = vals.length := ⟨_, rfl⟩
  obtain ⟨ol, hol⟩ : ∃ ol, ol = oof.length := ⟨_, rfl⟩
  obtain ⟨bl, hbl⟩ : ∃ bl, bl = ob.length := ⟨_, rfl⟩
  rw [← hlo] at hco ⊢
  rw [← hlv] at hcv ⊢
  rw [← hol] at hoc ⊢
  rw [← hbl] at hobc ⊢
  obtain ⟨w1, hw1⟩ : ∃ w1, w1 = (w.alloc (.cells #[.int .u8 al, .int .u8 sz, .slice Bo lo co, .slice Bv lv cv] 25)).alloc (.cells #[.slice Oa ol oc, .slice Ob bl obc] 43) := ⟨_, rfl⟩
  have hb1 : Below w.heap.size w w1 := by rw [hw1]; exact (balloc w _).alloc (by simp) _
  have hh : w1.heap[w.heap.size]? = some (.cells #[.int .u8 al, .int .u8 sz, .slice Bo lo co, .slice Bv lv cv] 25 (0, 0)) := by
    rw [hw1, (balloc (w.alloc (.cells #[.int .u8 al, .int .u8 sz, .slice Bo lo co, .slice Bv lv cv] 25)) _).block _ (by simp)]; exact heap_alloc_new w _
  have hh2 : w1.heap[w.heap.size + 1]? = some (.cells #[.slice Oa ol oc, .slice Ob bl obc] 43 (0, 0)) := by
    rw [hw1]
    have := heap_alloc_new (w.alloc (.cells #[.int .u8 al, .int .u8 sz, .slice Bo lo co, .slice Bv lv cv] 25)) (.cells #[.slice Oa ol oc, .slice Ob bl obc] 43)
    simpa using this
  obtain ⟨n, hn, hn6⟩ : ∃ n : Nat, sz.tmod 6 = (n : Int) ∧ n < 6 := by
    obtain ⟨s, rfl⟩ := Int.eq_ofNat_of_zero_le hsz.1
    exact ⟨s % 6, rfl, Nat.mod_lt _ (by omega)⟩
  obtain ⟨m, hm, hm40⟩ : ∃ m : Nat, al.tmod 40 = (m : Int) ∧ m < 40 := by
    obtain ⟨s, rfl⟩ := Int.eq_ofNat_of_zero_le hal.1
    exact ⟨s % 40, rfl, Nat.mod_lt _ (by omega)⟩
  obtain ⟨po, hpo⟩ : ∃ po, po = w.heap.size + 1 := ⟨_, rfl⟩
  rw [← hpo] at hh2
  have Ho := hide ho
  have Hv := hide hv
  have Hoo := hide hoo
  have Hob := hide hob
  have Hbd := hide hbd
  have Hb1 := hide hb1
  have Hh := hide hh
  have Hh2 := hide hh2
  have Hw1 := hide hw1
  have Hlo := hide hlo
  have Hlv := hide hlv
  have Hol := hide hol
  have Hbl := hide hbl
  have Hpo := hide hpo
  have hq := hide (show w.heap.size < w1.heap.size ∧ po < w1.heap.size by rw [hw1, hpo]; simp; omega)
  clear ho hv hoo hob hbd hb1 hh hh2 hw1 hlo hlv hol hbl hpo
  go_enter Try.func4, Try.ntmps4
  go_upto_region 1 with fail
  rw [← Hw1.out, ← Hpo.out]
  clear Hw1
  go_wp2_with fail
  refine (bspeaks_calls w1).mono ?_
  rintro _ w2 ⟨rfl, hb2⟩
  have h2 : w2.heap[w.heap.size]? = some (.cells #[.int .u8 al, .int .u8 sz, .slice Bo lo co, .slice Bv lv cv] 25 (0, 0)) := (hb2.block _ hq.out.1).trans Hh.out
  have h2o : w2.heap[po]? = some (.cells #[.slice Oa ol oc, .slice Ob bl obc] 43 (0, 0)) := (hb2.block _ hq.out.2).trans Hh2.out
  have c0 : w2.cell? ⟨w.heap.size, 0, none⟩ = some (.int .u8 al) := by rw [cell_of_row _ _ 0 _ _ _ h2]; rfl
  have c1 : w2.cell? ⟨w.heap.size, 1, none⟩ = some (.int .u8 sz) := by rw [cell_of_row _ _ 1 _ _ _ h2]; rfl
  have c2 : w2.cell? ⟨w.heap.size, 2, none⟩ = some (.slice Bo lo co) := by rw [cell_of_row _ _ 2 _ _ _ h2]; rfl
  have c3 : w2.cell? ⟨w.heap.size, 3, none⟩ = some (.slice Bv lv cv) := by rw [cell_of_row _ _ 3 _ _ _ h2]; rfl
  have o0 : w2.cell? ⟨po, 0, none⟩ = some (.slice Oa ol oc) := by rw [cell_of_row _ _ 0 _ _ _ h2o]; rfl
  have o1 : w2.cell? ⟨po, 1, none⟩ = some (.slice Ob bl obc) := by rw [cell_of_row _ _ 1 _ _ _ h2o]; rfl
  have hb02 := Hb1.out.trans (hb2.mono Hb1.out.size)
  have Hb02 := hide hb02
  have hbig := big_calls Bo of co _ w2 hcom (by rw [← Hlo.out]; exact hco) (Ho.out.below hb02) Hbd.out
  rw [← Hlo.out] at hbig
  have Hbig := hide hbig
  clear hb2 hb02 hbig h2 h2o
  go_wp2_with fail
  refine Hbig.out.mono ?_
  rintro _ w3 ⟨bb, rfl, hbb, rfl⟩
  by_cases hl1 : 100 < ol
  · have t1 : decide ((100 : Int) < (ol : Int)) = true := by simp; omega
    cases bb
    all_goals
      go_wp2_with fail
      exact hR.out _ _ ⟨rfl, Hb02.out⟩
  have t1 : decide ((100 : Int) < (ol : Int)) = false := by simp; omega
  by_cases hl2 : 100 < bl
  · have t2 : decide ((100 : Int) < (bl : Int)) = true := by simp; omega
    cases bb
    all_goals
      go_wp2_with fail
      exact hR.out _ _ ⟨rfl, Hb02.out⟩
  have t2 : decide ((100 : Int) < (bl : Int)) = false := by simp; omega
  cases bb
  · have hsum := hbb rfl
    have hlen := sumO_len of
    have Hlen := hide (show of.length ≤ 300 ∧ ∀ o ∈ of, o.length ≤ 300 from ⟨by omega, fun o ho => by have := hlen.2 o ho; omega⟩)
    clear hbb hsum hlen
    go_wp2_with fail
    obtain ⟨l1, l2⟩ := hal
    obtain ⟨z1, z2⟩ := hsz
    go_quiet (fail)
    obtain ⟨w4, hw4⟩ : ∃ w4, w4 = w2.drewN nq := ⟨_, rfl⟩
    have hb4 : Below w2.heap.size w2 w4 := by rw [hw4]; exact ⟨rfl, rfl, rfl, Nat.le_refl _, fun _ _ => rfl⟩
    have hb04 := Hb02.out.trans (hb4.mono Hb02.out.size)
    have heqs := eqs_calls al sz n hn hn6 ⟨z1, z2⟩ Bo Bv of vals co cv w4 (by rw [← Hlo.out]; exact hco) hcom (by rw [← Hlv.out]; exact hcv) hcvm ((Ho.out.below hb04).mono fun z hz => Nat.lt_of_lt_of_le hz hb04.size) ((Hv.out.below hb04).mono fun z hz => Nat.lt_of_lt_of_le hz hb04.size) (by have := Hlen.out.1; omega)
    rw [← Hlo.out, ← Hlv.out] at heqs
    have d0 := keep8 c0 hb4
    have d1 := keep8 c1 hb4
    have d2 := keep8 c2 hb4
    have d3 := keep8 c3 hb4
    have p0 := keep8 o0 hb4
    have p1 := keep8 o1 hb4
    have Heqs := hide heqs
    have Hb04 := hide hb04
    rw [← hw4]
    clear hb4 hb04 heqs c0 c1 c2 c3 o0 o1 hn hm hw4
    go_wp2_with fail
    refine Heqs.out.mono ?_
    rintro _ w5 ⟨vl, vv, Se, rfl, hES⟩
    obtain ⟨Al, cl, rfl, hcl1, hcl2⟩ := hES.rl.shape
    obtain ⟨es, hes⟩ : ∃ es, es = eqN n of vals lo := ⟨_, rfl⟩
    have hesl : es.length = lo := by rw [hes]; simp [eqN]
    have hesm : ∀ e ∈ es, e.1.length ≤ 1000 := fun e he => by
      rw [hes] at he
      exact eqN_small (fun o ho => by have := Hlen.out.2 o ho; omega) he
    rw [← hes] at hES hcl1 ⊢
    rw [hesl] at hES hcl1 ⊢
    obtain ⟨Aw, cw, rfl, hcw1, hcw2⟩ := hES.rv.shape
    rw [show (valN n vals lo).length = lo by simp [valN]] at hES hcw1 ⊢
    have hb45 := hES.bel
    have e0 := keep8 d0 hb45
    have e2 := keep8 d2 hb45
    have f0 := keep8 p0 hb45
    have f1 := keep8 p1 hb45
    have hfi := rfits_calls Oa oof oc (m : Int) (· < w5.heap.size) w5 hocm (by rw [← Hol.out]; exact hoc) ((Hoo.out.below (Hb04.out.trans (hb45.mono Hb04.out.size))).mono fun z hz => by have := Hb04.out.size; have := hb45.size; omega) (fun z hz => hz)
    rw [← Hol.out] at hfi
    obtain ⟨ok, hok⟩ : ∃ ok, ok = fitsI (m : Int) oof := ⟨_, rfl⟩
    rw [← hok] at hfi
    have Hok := hide hok
    have Hfi := hide hfi
    have HES := hide hES
    have Hesl := hide hesl
    have Hesm := hide hesm
    have Hes := hide hes
    have hl300 : lo ≤ 300 := by have := Hlen.out.1; have := Hlo.out; omega
    have Hb45 := hide hb45
    clear hes hesl hesm hES hfi hok hb45 d0 d1 d2 d3 p0 p1
    go_wp2_with fail
    refine Hfi.out.mono ?_
    rintro _ w6 ⟨rfl, hb6⟩
    have i0 := keep8 e0 hb6
    have i2 := keep8 e2 hb6
    have j0 := keep8 f0 hb6
    have j1 := keep8 f1 hb6
    have hb06 := Hb04.out.trans ((Hb45.out.trans (hb6.mono Hb45.out.size)).mono Hb04.out.size)
    have hES6 := HES.out.below hb6
    have Hb06 := hide hb06
    have Hb6 := hide hb6
    have HES6 := hide hES6
    clear hb06 hES6 hb6 e0 e2 f0 f1
    have hodd : (ok = true ∧ bl = n) ∨ okE m n (oof, ob) = false := by
      by_cases h : ok = true ∧ bl = n
      · exact .inl h
      · refine .inr (okE_odd fun hf => fun e => h ⟨by rw [Hok.out]; exact hf, by rw [Hbl.out]; exact e⟩)
    rcases hodd with ⟨rfl, rfl⟩ | hodd
    · go_wp2_with fail
      exact hR.out _ _ ⟨rfl, Hb06.out⟩
    · have hcond : ok = true → ((bl : Int) == (n : Int)) = false := fun hk => by
        simp only [beq_eq_false_iff_ne, ne_eq]
        intro e
        have hb : ob.length = n := by rw [← Hbl.out]; exact_mod_cast e
        rw [okE, ← Hok.out, hk, show decide (((oof, ob).2.length : Int) = (n : Int)) = true by simp [hb]] at hodd
        cases hodd
      obtain ⟨k, hk, hkl⟩ : ∃ k : Nat, Int.tmod (at0 : Int) ((lo : Int) + 1) = (k : Int) ∧ k ≤ lo := ⟨at0 % (lo + 1), rfl, by have := Nat.mod_lt at0 (show 0 < lo + 1 by omega); omega⟩
      have hne : ¬ ((lo : Int) + 1 = 0) := by omega
      have hkl2 : (k : Int) ≤ (lo : Int) := by omega
      have Hodd := hide hodd
      have Hcond := hide hcond
      clear hodd hcond
      cases ok
      all_goals
        try have tt := Hcond.out rfl
        have hkc : k ≤ cl := by omega
        have hJ := hide (fun (y : World) (hy : Below w6.heap.size w6 y) => And.intro (keep8 j0 hy) (keep8 j1 hy))
        have hrdE := hide (show RdL kEq (· < w6.heap.size) w6 Al es from HES6.out.rl.rd.mono fun z hz => hz.elim (fun hz => (HES6.out.sb z hz).1) fun hz => HES6.out.rl.lt hz)
        have hrdA := hide (show RdL kInt (· < w6.heap.size) w6 Oa oof from (Hoo.out.below Hb06.out).mono fun z hz => Nat.lt_of_lt_of_le hz Hb06.out.size)
        have hrdB := hide (show RdL Kd.byte (· < w6.heap.size) w6 Ob ob from (Hob.out.below Hb06.out).mono fun z hz => Nat.lt_of_lt_of_le hz Hb06.out.size)
        have htk := hide (show (es.take k).length = k by rw [List.length_take, Hesl.out]; omega)
        have hdr := hide (show (es.drop k).length = lo - k by rw [List.length_drop, Hesl.out])
        obtain ⟨Ad, hAd⟩ : ∃ Ad, Ad = (if cl = k then Al else Al.map fun x => x.add (k * 2)) := ⟨_, rfl⟩
        have hdrop := hide (show ∀ (y : World) (hy : Hid (Below w6.heap.size w6 y)), RdL kEq (· < w6.heap.size) y Ad (es.drop k) from fun y hy => by
          rw [hAd]
          exact RdL.drop (held_in hrdE.out hy) k cl (by rw [Hesl.out]; exact hkl) (by rw [Hesl.out]; exact hcl1))
        have hif : (if cl = k then Al else Al.map fun x => x.add (k * 2)) = Ad := hAd.symm
        clear hAd
        go_upto_region 10 with fail
        go_cut [12] from 45 to 75 (fun s12 wx => ∃ (A : Option Addr) (c : Nat), s12 = .slice A (k + 1 + (lo - k)) c ∧ k + 1 + (lo - k) ≤ c ∧ c ≤ maxLen ∧ RdL kEq (· < wx.heap.size) wx A (es.take k ++ [(oof, ob)] ++ es.drop k) ∧ Below w6.heap.size w6 wx)
        case first =>
         go_region_held_law (fun y => y.cell? ⟨po, 0, none⟩ = some (.slice Oa ol oc) ∧ y.cell? ⟨po, 1, none⟩ = some (.slice Ob bl obc)) (exact hJ.out _ (Hid.out (by repeat (first | assumption | exact hide (Below.refl _ _) | refine held_alloc8 ?_ | refine held_drew8 ?_)))) (first
           | ((
              rw [if_pos (by rfl)]
              with_reducible refine op_join8 68 rfl (.tmp 64) (.tmp 67) 28 rfl Try.underlying28 infoEq rfl (d := kEq) (xs := []) (ys := es.take k) rfl ?_ (A := Al) (c := cl) ?_ ?_ (fun y hy T cs => kEq_one) ?_ ?_ ?_
              · refine ⟨(· < w6.heap.size), ?_, fun z hz => ⟨by simp <;> omega, fun e => by injection e with e; simp at e; omega⟩⟩
                first | exact lit_a _ | exact lit_b _ _ (fun z hz => hz) | exact lit_c _ _
              · rw [htk.out]; rfl
              · exact ((held_in hrdE.out (by repeat (first | assumption | exact hide (Below.refl _ _) | refine held_alloc8 ?_ | refine held_drew8 ?_))).take k).mono fun z hz => ⟨by simp <;> omega, fun e => by injection e with e; simp at e; omega⟩
              · rw [htk.out]; simp; omega
              · rw [htk.out]; unfold maxLen; simp; omega
              intro v4 w14 hr4 g4 o4
              obtain ⟨S4, hr4, hs4, ht4⟩ := hr4
              rw [List.nil_append] at hr4
              have hb4 : Hid (Below w6.heap.size w6 w14) := hide ((Ch.of_grown g4).below (B := w6.heap.size) (w0 := w6) (Hid.out (by repeat (first | assumption | exact hide (Below.refl _ _) | refine held_alloc8 ?_ | refine held_drew8 ?_))) (by simp <;> omega) (fun z hz => by injection hz with hz; simp at hz; omega))
              have ho4 : Hid (∀ z, v4.ownBlock = some z → w6.heap.size ≤ z) := hide (fun z hz => by
                rcases o4 with e | e
                · rw [e] at hz; injection hz with hz; simp at hz; omega
                · rw [hz] at e; injection e with e; simp at e; omega)
              obtain ⟨A4, c4, rfl, -, -⟩ := hr4.shape
              rw [htk.out] at hr4 ho4 o4 ht4 ⊢
              first
                | have hq4 := hide (one_b' g4 o4)
                | have hq4 := hide (one_c' g4 o4)
                | skip
              have Hr4 := hide hr4
              have Ht4 := hide ht4
              clear g4 o4 hr4 hs4 ht4))
           | ((
              rw [if_pos (by rfl)]
              with_reducible refine op_join8 71 rfl (.tmp 68) (.tmp 70) 28 rfl Try.underlying28 infoEq rfl (d := kEq) (xs := es.take k) (ys := [(oof, ob)]) rfl ?_ (c := 1) rfl ?_ (fun y hy T cs => kEq_one) ?_ ?_ ?_
              · first
                  | exact ⟨S4, Hr4.out, Ht4.out⟩
                  | exact ⟨S4, Hr4.out.keep fun z hz => (balloc w14 _).block z (hz.elim (fun hz => (Ht4.out z hz).1) fun hz => Hr4.out.lt hz), fun z hz => ⟨by have := (Ht4.out z hz).1; simp; omega, (Ht4.out z hz).2⟩⟩
              · refine rd_one ?_ ?_ Hol.out hoc hocm Hbl.out hobc hobm ((held_in hrdA.out (by repeat (first | assumption | exact hide (Below.refl _ _) | refine held_alloc8 ?_ | refine held_drew8 ?_))).mono ?_) ((held_in hrdB.out (by repeat (first | assumption | exact hide (Below.refl _ _) | refine held_alloc8 ?_ | refine held_drew8 ?_))).mono ?_)
                · first | exact hq4.out.1 | exact heap_alloc_new w14 _
                · first | exact hq4.out.2 | exact ⟨by simp, fun e => by have := Hr4.out.lt e.symm; omega⟩
                · exact fun z hz => ⟨by have := hb4.out.size; (try simp); omega, fun e => by have := ho4.out z e.symm; omega⟩
                · exact fun z hz => ⟨by have := hb4.out.size; (try simp); omega, fun e => by have := ho4.out z e.symm; omega⟩
              · rw [htk.out]; simp; omega
              · rw [htk.out]; unfold maxLen; simp; omega
              intro v7 w17 hr7 g7 o7
              obtain ⟨S7, hr7, hs7, ht7⟩ := hr7
              have hb7 : Hid (Below w6.heap.size w6 w17) := hide ((Ch.of_grown g7).below (B := w6.heap.size) (w0 := w6) (Hid.out (by repeat (first | assumption | exact hide (Below.refl _ _) | refine held_alloc8 ?_ | refine held_drew8 ?_))) (by have := hb4.out.size; (try simp); omega) (fun z hz => ho4.out z hz))
              have ho7 : Hid (∀ z, v7.ownBlock = some z → w6.heap.size ≤ z) := hide (fun z hz => by
                rcases o7 with e | e
                · rw [e] at hz; exact ho4.out z hz
                · rw [hz] at e; injection e with e; have := hb4.out.size; (try simp at e); omega)
              have hw7 : Hid (∀ z, z < w6.heap.size → S7 z) := hide (fun z hz => hs7 z (by have := hb4.out.size; (try simp); omega) (fun e => by have := ho4.out z e.symm; omega))
              obtain ⟨A7, c7, rfl, -, -⟩ := hr7.shape
              rw [List.length_append, htk.out, List.length_singleton] at hr7 ho7 ht7 ⊢
              have Hr7 := hide hr7
              have Ht7 := hide ht7
              clear g7 o7 hr7 hs7 ht7))
           | ((
              rw [if_pos (by rfl)]
              with_reducible refine op_join8 75 rfl (.tmp 71) (.tmp 74) 28 rfl Try.underlying28 infoEq rfl (d := kEq) (xs := es.take k ++ [(oof, ob)]) (ys := es.drop k) rfl ?_ (A := Ad) (c := cl - k) ?_ ?_ (fun y hy T cs => kEq_one) ?_ ?_ ?_
              · exact ⟨S7, Hr7.out, Ht7.out⟩
              · rw [hdr.out]; rfl
              · exact (hdrop.out w17 hb7).mono fun z hz => Ht7.out z (hw7.out z hz)
              · rw [List.length_append, htk.out, hdr.out, List.length_singleton]; omega
              · rw [List.length_append, htk.out, hdr.out, List.length_singleton]; unfold maxLen; omega
              intro v11 w21 hr11 g11 o11
              obtain ⟨S11, hr11, hs11, ht11⟩ := hr11
              have hb11 : Hid (Below w6.heap.size w6 w21) := hide ((Ch.of_grown g11).below (B := w6.heap.size) (w0 := w6) hb7.out hb7.out.size (fun z hz => ho7.out z hz))
              obtain ⟨A11, c11, rfl, hc11, hc11m⟩ := hr11.shape
              rw [List.length_append, List.length_append, htk.out, hdr.out, List.length_singleton] at hr11 ht11 hc11 ⊢
              have Hr11 := hide hr11
              have Ht11 := hide ht11
              clear g11 o11 hr11 hs11 ht11)))
         all_goals
           go_wp2_with fail
           go_meet
           case rel => exact ⟨A11, c11, rfl, hc11, hc11m, Hr11.out.rd.mono fun z hz => hz.elim (fun hz => (Ht11.out z hz).1) fun hz => Hr11.out.lt hz, hb11.out⟩
        case rest =>
          obtain ⟨Am, cm, rfl, hm1, hm2, hrdM, hbc⟩ := hcut
          obtain ⟨w9, hw9⟩ : ∃ w9 : World, w9 = wc := ⟨_, rfl⟩
          rw [← hw9] at hrdM hbc ⊢
          clear hw9 hif
          obtain ⟨ml, hml⟩ : ∃ ml, ml = k + 1 + (lo - k) := ⟨_, rfl⟩
          rw [← hml] at hm1 ⊢
          have hmlen : (es.take k ++ [(oof, ob)] ++ es.drop k).length = ml := by rw [List.length_append, List.length_append, htk.out, hdr.out, List.length_singleton, hml]
          have hml2 : ml ≤ 1000 := by omega
          obtain ⟨em, hem⟩ : ∃ em, em = es.take k ++ [(oof, ob)] ++ es.drop k := ⟨_, rfl⟩
          rw [← hem] at hrdM hmlen
          have hso := solve_calls m n Al es cl (· < w9.heap.size) w9 hcl2 (by rw [Hesl.out]; exact hcl1) ((hrdE.out.below hbc).mono fun z hz => Nat.lt_of_lt_of_le hz hbc.size) (fun z hz => hz) (by omega) (by omega) (by rw [Hesl.out]; omega) Hesm.out
          have hso2 := fun (y : World) (hy : Below w9.heap.size w9 y) => solve_calls m n Am em cm (· < w9.heap.size) y hm2 (by rw [hmlen]; exact hm1) (hrdM.below hy) (fun z hz => Nat.lt_of_lt_of_le hz hy.size) (by omega) (by omega) (by rw [hmlen]; exact hml2) (fun e he => by
            rw [hem] at he
            rcases List.mem_append.1 he with he | he
            · rcases List.mem_append.1 he with he | he
              · exact Hesm.out e (List.mem_of_mem_take he)
              · rw [List.mem_singleton.1 he]
                have := Hol.out
                show oof.length ≤ 1000
                omega
            · exact Hesm.out e (List.mem_of_mem_drop he))
          rw [Hesl.out] at hso
          rw [hmlen] at hso2
          have Hso := hide hso
          have Hso2 := hide hso2
          have Hem := hide hem
          have Hbc := hide hbc
          clear hso hso2 hbc hrdM hmlen hem hml hm1
          go_wp2_with fail
          refine Hso.out.mono ?_
          rintro _ wA ⟨vs, vk, gv, S, hfin, rfl, hrs⟩
          have Hbel := hide hrs.bel
          have Hrs := hide hrs
          have Hfin := hide hfin
          clear hrs hfin
          go_wp2_with fail
          refine (Hso2.out wA Hbel.out).mono ?_
          rintro _ wB ⟨vs2, vk2, gv2, S2, hfin2, rfl, hrs2⟩
          obtain ⟨hve, hcf⟩ := fin_odd (o := (oof, ob)) Hodd.out (l := es.take k) (r := es.drop k) (by rw [List.take_append_drop]; exact Hfin.out) (by have h := hfin2; rw [Hem.out, List.append_assoc, List.singleton_append] at h; exact h)
          subst hve
          rw [List.take_append_drop] at hcf
          have hcf2 : confB m n em vs2 = confB m n es vs2 := by rw [Hem.out, List.append_assoc, List.singleton_append]; exact hcf
          rw [hcf2]
          obtain ⟨Ak, ck, rfl, hck1, hck2⟩ := Hrs.out.row.shape
          obtain ⟨Ak2, ck2, rfl, hk1, hk2⟩ := hrs2.row.shape
          have hrow := Hrs.out.row
          have hrow2 := hrs2.row
          obtain ⟨kn, hkn⟩ : ∃ kn, kn = knT vs2 m := ⟨_, rfl⟩
          rw [List.length_map, ← hkn] at hrs2 hk1 hck1 ⊢
          rw [← hkn] at hrow hrow2
          obtain ⟨cf, hcfe⟩ : ∃ cf, cf = confB m n es vs2 := ⟨_, rfl⟩
          rw [← hcfe]
          have hwfk : ∀ x ∈ kn, (Lit.int .i64 x).wf = true := fun x hx => by
            rw [hkn] at hx
            obtain ⟨k, rfl, hk, -⟩ := knT_mem hx
            exact WalkArith.wf_i64 (by omega)
          rw [List.length_map] at hrow hrow2
          obtain ⟨wC, hwC⟩ : ∃ wC, wC = (wB.alloc (.cells #[.slice Ak kn.length ck, .slice (some ⟨gv, 0, none⟩) m m, .bool cf] 33)).alloc (.cells #[.slice Ak2 kn.length ck2, .slice (some ⟨gv2, 0, none⟩) m m, .bool cf] 33) := ⟨_, rfl⟩
          have hbC : Below wB.heap.size wB wC := by rw [hwC]; exact (balloc wB _).alloc (by simp) _
          have hhC1 : wC.heap[wB.heap.size]? = some (.cells #[.slice Ak kn.length ck, .slice (some ⟨gv, 0, none⟩) m m, .bool cf] 33 (0, 0)) := by
            rw [hwC, (balloc (wB.alloc (.cells #[.slice Ak kn.length ck, .slice (some ⟨gv, 0, none⟩) m m, .bool cf] 33)) _).block _ (by simp)]; exact heap_alloc_new wB _
          have hhC2 : wC.heap[wB.heap.size + 1]? = some (.cells #[.slice Ak2 kn.length ck2, .slice (some ⟨gv2, 0, none⟩) m m, .bool cf] 33 (0, 0)) := by
            rw [hwC]
            have := heap_alloc_new (wB.alloc (.cells #[.slice Ak kn.length ck, .slice (some ⟨gv, 0, none⟩) m m, .bool cf] 33)) (.cells #[.slice Ak2 kn.length ck2, .slice (some ⟨gv2, 0, none⟩) m m, .bool cf] 33)
            simpa using this
          have hbAB := hrs2.bel
          have hbAC := hbAB.trans (hbC.mono hbAB.size)
          have hrwC := hrow.keep (w' := wC) fun z hz => hbAC.block z (hrow.lt hz)
          have hrw2C := hrow2.keep (w' := wC) fun z hz => hbC.block z (hrow2.lt hz)
          have hsm := fun (y : World) (hy : Below wC.heap.size wC y) => same_calls Ak kn ck Ak2 kn ck2 (· < y.heap.size) y hck2 hck1 (rd_all (row_ints hrwC hwfk fun z hz => hrwC.lt hz) (fun z hz => hz) hy) hk2 hk1 (rd_all (row_ints hrw2C hwfk fun z hz => hrw2C.lt hz) (fun z hz => hz) hy) (fun z hz => hz)
          rw [sameN_yes] at hsm
          have hb6C : Below w6.heap.size w6 wC := Hbc.out.trans ((Hbel.out.trans (hbAC.mono Hbel.out.size)).mono Hbc.out.size)
          obtain ⟨pC, hpC⟩ : ∃ pC, pC = wB.heap.size := ⟨_, rfl⟩
          rw [← hpC] at hhC1 hhC2
          have hkn40 : kn.length ≤ 40 := by rw [hkn]; have := knT_len vs2 m; omega
          have Hsm := hide hsm
          have HC1 := hide hhC1
          have HC2 := hide hhC2
          have HwC := hide hwC
          have HpC := hide hpC
          have Hb6C := hide hb6C
          clear hwfk hbC hhC1 hhC2 hbAB hbAC hrwC hrw2C hsm hwC hpC hrs2 hrow hrow2 hcf hcf2 hkn hcfe hfin2 Hfin Hrs Hbel Hso2 hb6C
          go_upto_region 12 with fail
          rw [← HwC.out, ← HpC.out]
          clear HwC HpC
          have k0 : wC.cell? ⟨pC, 0, none⟩ = some (.slice Ak kn.length ck) := by rw [cell_of_row _ _ 0 _ _ _ HC1.out]; rfl
          have k2 : wC.cell? ⟨pC, 2, none⟩ = some (.bool cf) := by rw [cell_of_row _ _ 2 _ _ _ HC1.out]; rfl
          have m0 : wC.cell? ⟨pC + 1, 0, none⟩ = some (.slice Ak2 kn.length ck2) := by rw [cell_of_row _ _ 0 _ _ _ HC2.out]; rfl
          have m2 : wC.cell? ⟨pC + 1, 2, none⟩ = some (.bool cf) := by rw [cell_of_row _ _ 2 _ _ _ HC2.out]; rfl
          have n2 := keep8 i2 Hb6C.out
          have Hn2 := hide n2
          have Hk0 := hide k0
          have Hk2 := hide k2
          have Hm0 := hide m0
          have Hm2 := hide m2
          clear n2 k0 k2 m0 m2
          go_wp2_with fail
          go_loopw [86] (fun i wr => ∃ j : Nat, j ≤ lo ∧ i = .int .i64 (j : Int) ∧ Below wC.heap.size wC wr) (fun i _ => lo - (intOf i).toNat)
          case atStart => exact ⟨0, Nat.zero_le _, rfl, Below.refl _ _⟩
          case round =>
            obtain ⟨j, hj, rfl, hbw⟩ := hrel
            by_cases hlt : j < lo
            · have hje : j < es.length := by rw [Hesl.out]; exact hlt
              have hjo : j < of.length := by rw [← Hlo.out]; exact hlt
              have hjv : j < (valN n vals lo).length := by simp [valN]; exact hlt
              have hb6r : Below w6.heap.size w6 wr := Hb6C.out.trans (hbw.mono Hb6C.out.size)
              have he1 : es[j].1 = of[j] ∧ es[j].2 = (valN n vals lo)[j] := by
                simp only [Hes.out]
                simp [eqN, valN, List.getD_eq_getElem?_getD, List.getElem?_eq_getElem hjo]
              obtain ⟨bE, oE, A1, c1', A2, c2', eA, hbE, g0, g1, x1, x2, x3, x4, x5, x6⟩ := eq_at (hrdE.out.below hb6r) hje
              obtain ⟨bV, oV, A3, c3', eV, hbV, g3, y1, y2, y3⟩ := sl_at ((HES6.out.rv.rd.mono fun z hz => show z < w6.heap.size from hz.elim (fun hz => (HES6.out.sb z hz).1) fun hz => HES6.out.rv.lt hz).below hb6r) hjv
              have hb0r := Hb06.out.trans (hb6r.mono Hb06.out.size)
              obtain ⟨bO, oO, A4, c4', eO, hbO, g4, z1, z2, z3⟩ := sl_at (Ho.out.below hb0r) hjo
              rw [he1.1] at g0 x1 x3
              rw [he1.2] at g1 x4 x6
              generalize of[j] = o at g0 x1 x3 g4 z1 z3
              generalize (valN n vals lo)[j] = v at g1 x4 x6 g3 y1 y3
              obtain ⟨w16, hw16⟩ : ∃ w16, w16 = wr.alloc (.cells #[.slice A1 o.length c1', .slice A2 v.length c2'] 43) := ⟨_, rfl⟩
              have hb16 : Below wr.heap.size wr w16 := by rw [hw16]; exact balloc wr _
              have hh16 : w16.heap[wr.heap.size]? = some (.cells #[.slice A1 o.length c1', .slice A2 v.length c2'] 43 (0, 0)) := by rw [hw16]; exact heap_alloc_new wr _
              obtain ⟨q16, hq16⟩ : ∃ q16, q16 = wr.heap.size := ⟨_, rfl⟩
              rw [← hq16] at hh16
              have r0 : w16.cell? ⟨q16, 0, none⟩ = some (.slice A1 o.length c1') := by rw [cell_of_row _ _ 0 _ _ _ hh16]; rfl
              have r1 : w16.cell? ⟨q16, 1, none⟩ = some (.slice A2 v.length c2') := by rw [cell_of_row _ _ 1 _ _ _ hh16]; rfl
              have r2 := keep8 (keep8 Hn2.out hbw) hb16
              have r3 := keep8 g3 hb16
              have r4 := keep8 g4 hb16
              have hb6w := hb6r.trans (hb16.mono hb6r.size)
              have hb0w := hb0r.trans (hb16.mono hb0r.size)
              obtain ⟨str, hstr⟩ : ∃ str, str = bstr v := ⟨_, rfl⟩
              have s1 : ∀ y : Later w16, (convert 38 9 (.slice A2 v.length c2')).run Try.prog y.v = .ok (.string str) y.v := fun y => by
                rw [hstr]
                exact run_str Try.underlying38 Try.underlying5 Try.underlying9 ((x6.keep (w' := y.v) fun z hz => (hb16.trans (y.below.mono hb16.size)).block z (Nat.lt_of_lt_of_le hz hb6r.size)).srcB) c2'
              have s3 : ∀ y : Later w16, (convert 38 9 (.slice A3 v.length c3')).run Try.prog y.v = .ok (.string str) y.v := fun y => by
                rw [hstr]
                exact run_str Try.underlying38 Try.underlying5 Try.underlying9 ((y3.keep (w' := y.v) fun z hz => (hb16.trans (y.below.mono hb16.size)).block z (Nat.lt_of_lt_of_le hz hb6r.size)).srcB) c3'
              have hss : ∀ y : Later w16, Calls Try.prog 13 #[.slice A1 o.length c1', .slice A4 o.length c4'] y.v fun e w' => e = .returned (.int .i64 1) ∧ Below y.v.heap.size y.v w' := fun y => by
                have hb := hb16.trans (y.below.mono hb16.size)
                have := same_calls A1 o c1' A4 o c4' (· < y.v.heap.size) y.v x2 x1 ((x3.keep (w' := y.v) fun z hz => hb.block z (Nat.lt_of_lt_of_le hz hb6r.size)).mono fun z hz => Nat.lt_of_lt_of_le hz (Nat.le_trans hb6r.size hb.size)) z2 z1 ((z3.keep (w' := y.v) fun z hz => hb.block z (Nat.lt_of_lt_of_le hz hb0r.size)).mono fun z hz => Nat.lt_of_lt_of_le hz (Nat.le_trans hb0r.size hb.size)) (fun z hz => hz)
                rwa [sameN_yes] at this
              obtain ⟨r, hr⟩ : ∃ r, r = o.length := ⟨_, rfl⟩
              obtain ⟨rv, hrv⟩ : ∃ rv, rv = v.length := ⟨_, rfl⟩
              rw [← hr] at g0 r0 r4 hw16 hss
              rw [← hrv] at g1 r1 r3 hw16 s1 s3
              have l0 := later_cell r0
              have l1 := later_cell r1
              have l2 := later_cell r2
              have l3 := later_cell r3
              have l4 := later_cell r4
              have q3 : (str.toList != str.toList) = false := by simp
              have hss2 := hide hss
              have i1 : (0 : Int) ≤ (j : Int) := by omega
              have i2' : (j : Int) < (lo : Int) := by omega
              have Hbw16 := hide (hbw.trans (hb16.mono hbw.size))
              have Hw16 := hide hw16
              have Hq16 := hide hq16
              subst eA; subst eV; subst eO
              clear hss hw16 hq16 hb16 hh16 hb6w hb0w hb6r hb0r hstr hr hrv x1 x3 x4 x6 y1 y3 z1 z3 he1 hje hjo hjv r0 r1 r2 r3 r4 hbE hbV hbO hbw
              go_upto_region 15 with fail
              rw [← Hw16.out, ← Hq16.out]
              clear Hw16 Hq16
              refine wp_region_later (by kernel_rfl) (by kernel_rfl) ?_
              repeat (go_big_quiet_step ((go_at_call 13; exact later_call (hss2.out _))))
              refine wpQuiet_nil ?_
              intro _ hw'
              obtain ⟨⟨w30, hb30⟩, rfl⟩ := hw'
              have Hb30 := hide (Hbw16.out.trans (hb30.mono Hbw16.out.size))
              clear l0 l1 l2 l3 l4 s1 s3 hb30 g0 g1 g3 g4
              go_wp2_with fail
              exact ⟨⟨j + 1, by omega, by rw [Int.natCast_succ], Hb30.out⟩, by simp only [intOf]; omega⟩
            · obtain rfl : j = lo := by omega
              have t0 := keep8 Hk0.out hbw
              have t1' := keep8 Hm0.out hbw
              have Hsmr := hide (Hsm.out wr hbw)
              have Hbw := hide hbw
              have tcf : (cf == cf) = true := by cases cf <;> rfl
              clear hbw
              go_wp2_with fail
              refine Hsmr.out.mono ?_
              rintro _ wD ⟨rfl, hbD⟩
              have v0 := keep8 (keep8 Hk2.out Hbw.out) hbD
              have v1 := keep8 (keep8 Hm2.out Hbw.out) hbD
              have HbD := hide (Hbw.out.trans (hbD.mono Hbw.out.size))
              clear hbD t0 t1'
              go_wp2_with fail
              exact hR.out _ _ ⟨rfl, (Hb06.out.trans (Hb6C.out.mono Hb06.out.size)).trans (HbD.out.mono (by have := Hb06.out.size; have := Hb6C.out.size; omega))⟩
  · clear hbb
    go_wp2_with fail
    exact hR.out _ _ ⟨rfl, Hb02.out⟩
end Go.Proofs.Ytdppjhfndolbjaa
