/- BatchTwice, walked. -/
import Derived.Test.YtdppjhfndolbjaaBatI
import Derived.Deep.RegionHeld
import Derived.Deep.Cut
import Derived.Deep.CutRange
set_option linter.unusedVariables false
set_option linter.unusedSimpArgs false
namespace Go.Proofs.Ytdppjhfndolbjaa
open Go.RowKit

theorem eqN_small {n : Nat} {of : List (List Int)} {vals : List (List UInt8)} {k b : Nat} (h : ∀ o ∈ of, o.length ≤ b) {e : EqB} (he : e ∈ eqN n of vals k) : e.1.length ≤ b := by
  obtain ⟨i, -, rfl⟩ := List.mem_map.1 he
  rw [List.getD_eq_getElem?_getD]
  cases hi : of[i]? with
  | none => simp
  | some o => exact h o (List.mem_of_getElem? hi)
theorem knT_mem {vs : Vals} {m : Nat} {i : Int} (h : i ∈ knT vs m) : ∃ k : Nat, i = (k : Int) ∧ k < m ∧ knB vs (k : Int) = true := by
  obtain ⟨k, hk, rfl⟩ := List.mem_map.1 h
  obtain ⟨h1, h2⟩ := List.mem_filter.1 hk
  exact ⟨k, rfl, List.mem_range.1 h1, by rw [knB_nat]; exact h2⟩
theorem knT_all {vs : Vals} {i : Int} (h : knB vs i = true) : i ∈ knT vs vs.length := by
  obtain ⟨k, b, rfl, hk⟩ := knB_iff.1 h
  refine List.mem_map.2 ⟨k, List.mem_filter.2 ⟨List.mem_range.2 (List.getElem?_eq_some_iff.1 hk).1, ?_⟩, rfl⟩
  rw [List.getD_eq_getElem?_getD, hk]; rfl
/-- A row of equations that grows: only its own block o0 of what was there at w7 changes. -/
structure LT (w7 wr : World) (o0 : Option Nat) (v : Value) (S : Nat → Prop) (l : List EqB) : Prop where
  row : ORow kEq S wr 43 v l
  sb : ∀ k, S k → k < wr.heap.size ∧ v.ownBlock ≠ some k
  ch : Ch (fun z => o0 = some z) w7 wr
  ow : v.ownBlock = o0 ∨ ∃ z, v.ownBlock = some z ∧ w7.heap.size ≤ z
theorem LT.keep {w7 wr : World} {o0 : Option Nat} {v : Value} {S : Nat → Prop} {l : List EqB} (h : LT w7 wr o0 v S l) {z : Nat} (hz : z < w7.heap.size) (hn : o0 ≠ some z) : wr.heap[z]? = w7.heap[z]? := h.ch.block z hz hn
theorem LT.push {w7 wr w5 : World} {o0 : Option Nat} {v v5 : Value} {S : Nat → Prop} {l : List EqB} {y : EqB} {c0 c1 : Obj} (h : LT w7 wr o0 v S l) (hr : ORow kEq (fun z => S z ∨ z = wr.heap.size) w5 43 v5 (l ++ [y])) (hg : ((wr.alloc c0).alloc c1).grownBy w5 v.ownBlock) (ho : v5.ownBlock = v.ownBlock ∨ v5.ownBlock = some ((wr.alloc c0).alloc c1).heap.size) :
    LT w7 w5 o0 v5 (fun z => S z ∨ z = wr.heap.size) (l ++ [y]) := by
  have e2 : ((wr.alloc c0).alloc c1).heap.size = wr.heap.size + 2 := by simp
  rw [e2] at ho
  have hgs := hg.size
  rw [e2] at hgs
  have hcs := h.ch.size
  refine ⟨hr, fun k hk => ?_, ?_, ?_⟩
  · rcases hk with hk | rfl
    · have := h.sb k hk
      refine ⟨by omega, fun e => ?_⟩
      rcases ho with e' | e'
      · exact this.2 (e' ▸ e)
      · rw [e] at e'; injection e' with e'; omega
    · refine ⟨by omega, fun e => ?_⟩
      rcases ho with e' | e'
      · have := h.row.lt (e' ▸ e); omega
      · rw [e] at e'; injection e' with e'; omega
  · have c1' : Ch (fun z => o0 = some z) w7 ((wr.alloc c0).alloc c1) := (h.ch.trans (Ch.of_below (S := fun _ => False) (balloc wr c0)) fun _ hf => hf.elim).trans (Ch.of_below (S := fun _ => False) (balloc (wr.alloc c0) c1)) fun _ hf => hf.elim
    refine c1'.trans (Ch.of_grown hg) fun b hb => ?_
    rcases h.ow with e | ⟨z, e, hz⟩
    · exact .inl (e ▸ hb)
    · rw [e] at hb; injection hb with hb; exact .inr (by omega)
  · rcases ho with e | e
    · rw [e]; exact h.ow
    · exact .inr ⟨_, e, by omega⟩
theorem VR.str {S : Nat → Prop} {w : World} {gv n : Nat} {vs : Vals} (h : VR S w gv n vs) (hS : ∀ k, S k → k < w.heap.size) {i : Nat} (hi : i < n) : ∃ A ln c, w.cell? ⟨gv, i, none⟩ = some (.slice A ln c) ∧ ∀ y : World, Below w.heap.size w y → (convert 38 9 (.slice A ln c)).run Try.prog y = .ok (.string (bstr (valAt vs (i : Int)))) y := by
  have hiv : i < vs.length := by rw [h.len]; exact hi
  obtain ⟨b2, o2, u2, eb, -, hu2, hc2⟩ := h.rd.at1 rfl hiv
  injection eb with eb; injection eb with eb1 eb2
  subst eb1; subst eb2
  rw [Nat.zero_add] at hc2
  rcases val_cell hiv with ⟨h1, h2⟩ | ⟨h1, h2⟩
  · rw [h2] at hu2
    have hu2' : [u2] = [.slice none 0 0] := hu2
    injection hu2' with hu2'
    subst hu2'
    have hv : valAt vs (i : Int) = [] := by
      rw [valAt, Int.toNat_natCast, List.getD_eq_getElem?_getD, List.getElem?_eq_getElem hiv, h2]; rfl
    rw [hv]
    exact ⟨none, 0, 0, hc2, fun y _ => run_str (xs := []) Try.underlying38 Try.underlying5 Try.underlying9 Src.nil 0⟩
  · rw [h2] at hu2
    obtain ⟨a, c, hu2', f1, f2, f3⟩ := hu2
    injection hu2' with hu2'
    subst hu2'
    exact ⟨some a, _, c, hc2, fun y hy => run_str Try.underlying38 Try.underlying5 Try.underlying9 ((f3.keep (w' := y) fun z hz => hy.block z (hz.elim (hS z) fun hz => by rw [hz]; exact h.lt)).srcB) c⟩
abbrev eqsV (al sz : Int) (Bo : Option Addr) (lo co : Nat) (Bv : Option Addr) (lv cv : Nat) : Value := .agg #[.int .u8 al, .int .u8 sz, .slice Bo lo co, .slice Bv lv cv]
set_option maxHeartbeats 40000000 in
set_option maxRecDepth 100000 in
theorem BatchTwice_calls (al sz : Int) (hal : 0 ≤ al ∧ al ≤ 255) (hsz : 0 ≤ sz ∧ sz ≤ 255) (Bo Bv : Option Addr) (of : List (List Int)) (vals : List (List UInt8)) (co cv : Nat) (w : World) (hco : of.length ≤ co) (hcom : co ≤ maxLen) (hcv : vals.length ≤ cv) (hcvm : cv ≤ maxLen)
    (ho : RdL (Kd.sl kInt) (· < w.heap.size) w Bo of) (hv : RdL (Kd.sl Kd.byte) (· < w.heap.size) w Bv vals) (hbd : ∀ o ∈ of, o.length ≤ 1000000000000000000) :
    Calls Try.prog 6 #[eqsV al sz Bo of.length co Bv vals.length cv] w fun e w' => e = .returned (.bool true) ∧ Below w.heap.size w w' := by
  refine cps fun R hR => ?_
  obtain ⟨w1, hw1⟩ : ∃ w1, w1 = w.alloc (.cells #[.int .u8 al, .int .u8 sz, .slice Bo of.length co, .slice Bv vals.length cv] 25) := ⟨_, rfl⟩
  have hb1 : Below w.heap.size w w1 := by rw [hw1]; exact balloc w _
  have hh : w1.heap[w.heap.size]? = some (.cells #[.int .u8 al, .int .u8 sz, .slice Bo of.length co, .slice Bv vals.length cv] 25 (0, 0)) := by rw [hw1]; exact heap_alloc_new w _
  obtain ⟨lo, hlo⟩ : ∃ lo, lo = of.length := ⟨_, rfl⟩
  obtain ⟨lv, hlv⟩ : ∃ lv, lv = vals.length := ⟨_, rfl⟩
  rw [← hlo] at hco hw1 hh ⊢
  rw [← hlv] at hcv hw1 hh ⊢
  obtain ⟨n, hn, hn6⟩ : ∃ n : Nat, sz.tmod 6 = (n : Int) ∧ n < 6 := by
    obtain ⟨s, rfl⟩ := Int.eq_ofNat_of_zero_le hsz.1
    exact ⟨s % 6, rfl, Nat.mod_lt _ (by omega)⟩
  obtain ⟨m, hm, hm40⟩ : ∃ m : Nat, al.tmod 40 = (m : Int) ∧ m < 40 := by
    obtain ⟨s, rfl⟩ := Int.eq_ofNat_of_zero_le hal.1
    exact ⟨s % 40, rfl, Nat.mod_lt _ (by omega)⟩
  have Ho := hide ho
  have Hv := hide hv
  have Hbd := hide hbd
  have Hb1 := hide hb1
  have Hh := hide hh
  have Hw1 := hide hw1
  have Hlo := hide hlo
  have Hlv := hide hlv
  have hq := hide (show w.heap.size < w1.heap.size by rw [hw1]; simp)
  clear ho hv hbd hb1 hh hw1 hlo hlv
  go_enter Try.func6, Try.ntmps6
  go_upto_region 1 with fail
  rw [← Hw1.out]
  clear Hw1
  go_wp2_with fail
  refine (bspeaks_calls w1).mono ?_
  rintro _ w2 ⟨rfl, hb2⟩
  have h2 : w2.heap[w.heap.size]? = some (.cells #[.int .u8 al, .int .u8 sz, .slice Bo lo co, .slice Bv lv cv] 25 (0, 0)) := (hb2.block _ hq.out).trans Hh.out
  have c0 : w2.cell? ⟨w.heap.size, 0, none⟩ = some (.int .u8 al) := by rw [cell_of_row _ _ 0 _ _ _ h2]; rfl
  have c1 : w2.cell? ⟨w.heap.size, 1, none⟩ = some (.int .u8 sz) := by rw [cell_of_row _ _ 1 _ _ _ h2]; rfl
  have c2 : w2.cell? ⟨w.heap.size, 2, none⟩ = some (.slice Bo lo co) := by rw [cell_of_row _ _ 2 _ _ _ h2]; rfl
  have c3 : w2.cell? ⟨w.heap.size, 3, none⟩ = some (.slice Bv lv cv) := by rw [cell_of_row _ _ 3 _ _ _ h2]; rfl
  have hb02 := Hb1.out.trans (hb2.mono Hb1.out.size)
  have Hb02 := hide hb02
  have hbig := big_calls Bo of co _ w2 hcom (by rw [← Hlo.out]; exact hco) (Ho.out.below hb02) Hbd.out
  rw [← Hlo.out] at hbig
  have Hbig := hide hbig
  have hq2 := hide (Nat.lt_of_lt_of_le hq.out hb2.size)
  clear hb2 hb02 hbig h2
  go_wp2_with fail
  refine Hbig.out.mono ?_
  rintro _ w3 ⟨bb, rfl, hbb, rfl⟩
  cases bb
  · have hsum := hbb rfl
    have hlen := sumO_len of
    have Hlen := hide (show of.length ≤ 300 ∧ ∀ o ∈ of, o.length ≤ 300 from ⟨by omega, fun o ho => by have := hlen.2 o ho; omega⟩)
    clear hbb hsum hlen
    go_wp2_with fail
    obtain ⟨l1, l2⟩ := hal
    obtain ⟨z1, z2⟩ := hsz
    go_quiet (fail)
    obtain ⟨w4, hw4⟩ : ∃ w4, w4 = w2.drewN nq := ⟨_, rfl⟩
    have hb4 : Below w2.heap.size w2 w4 := by rw [hw4]; exact ⟨rfl, rfl, rfl, Nat.le_refl _, fun _ _ => rfl⟩
    have hb04 := Hb02.out.trans (hb4.mono Hb02.out.size)
    have heqs := eqs_calls al sz n hn hn6 ⟨z1, z2⟩ Bo Bv of vals co cv w4 (by rw [← Hlo.out]; exact hco) hcom (by rw [← Hlv.out]; exact hcv) hcvm ((Ho.out.below hb04).mono fun z hz => Nat.lt_of_lt_of_le hz hb04.size) ((Hv.out.below hb04).mono fun z hz => Nat.lt_of_lt_of_le hz hb04.size) (by have := Hlen.out.1; omega)
    rw [← Hlo.out, ← Hlv.out] at heqs
    have d0 : w4.cell? ⟨w.heap.size, 0, none⟩ = some (.int .u8 al) := (hb4.cell hq2.out).trans c0
    have d1 : w4.cell? ⟨w.heap.size, 1, none⟩ = some (.int .u8 sz) := (hb4.cell hq2.out).trans c1
    have d2 : w4.cell? ⟨w.heap.size, 2, none⟩ = some (.slice Bo lo co) := (hb4.cell hq2.out).trans c2
    have d3 : w4.cell? ⟨w.heap.size, 3, none⟩ = some (.slice Bv lv cv) := (hb4.cell hq2.out).trans c3
    have Heqs := hide heqs
    have Hb04 := hide hb04
    rw [← hw4]
    clear hb4 hb04 heqs c0 c1 c2 c3 hn hm hw4
    go_wp2_with fail
    refine Heqs.out.mono ?_
    rintro _ w5 ⟨vl, vv, Se, rfl, hES⟩
    obtain ⟨Al, cl, rfl, hcl1, hcl2⟩ := hES.rl.shape
    obtain ⟨es, hes⟩ : ∃ es, es = eqN n of vals lo := ⟨_, rfl⟩
    have hesl : es.length = lo := by rw [hes]; simp [eqN]
    have hesm : ∀ e ∈ es, e.1.length ≤ 1000 := fun e he => by
      rw [hes] at he
      exact eqN_small (fun o ho => by have := Hlen.out.2 o ho; omega) he
    rw [← hes] at hES hcl1 ⊢
    rw [hesl] at hES hcl1 ⊢
    have hso := solve_calls m n Al es cl (fun z => Se z ∨ (Value.slice Al lo cl).ownBlock = some z) w5 hcl2 (by rw [hesl]; exact hcl1) hES.rl.rd (fun z hz => hz.elim (fun hz => (hES.sb z hz).1) fun hz => hES.rl.lt hz) (by omega) (by omega) (by have := Hlen.out.1; have := Hlo.out; omega) hesm
    rw [hesl] at hso
    have Hso := hide hso
    have HES := hide hES
    have Hesl := hide hesl
    have Hesm := hide hesm
    clear hes hesl hesm hES hso d0 d1 d2 d3
    go_wp2_with fail
    refine Hso.out.mono ?_
    rintro _ w6 ⟨vs, vk, gv, S, hfin, rfl, hrs⟩
    obtain ⟨Ak, ck, rfl, hck1, hck2⟩ := hrs.row.shape
    obtain ⟨kn, hkn⟩ : ∃ kn, kn = knT vs m := ⟨_, rfl⟩
    have hrow := hrs.row
    rw [List.length_map, ← hkn] at hrs hck1 hrow ⊢
    obtain ⟨w7, hw7⟩ : ∃ w7, w7 = w6.alloc (.cells #[.slice Ak kn.length ck, .slice (some ⟨gv, 0, none⟩) m m, .bool (confB m n es vs)] 33) := ⟨_, rfl⟩
    have hb7 : Below w6.heap.size w6 w7 := by rw [hw7]; exact balloc w6 _
    have hh7 : w7.heap[w6.heap.size]? = some (.cells #[.slice Ak kn.length ck, .slice (some ⟨gv, 0, none⟩) m m, .bool (confB m n es vs)] 33 (0, 0)) := by rw [hw7]; exact heap_alloc_new w6 _
    have hz7 : w7.heap.size = w6.heap.size + 1 := by rw [hw7]; simp
    obtain ⟨p7, hp7⟩ : ∃ p7, p7 = w6.heap.size := ⟨_, rfl⟩
    have Hbw7 := hide (Hb04.out.trans (HES.out.bel.mono Hb04.out.size |>.trans ((hrs.bel.trans (hb7.mono hrs.bel.size)).mono (Nat.le_trans Hb04.out.size HES.out.bel.size))))
    obtain ⟨cf, hcf⟩ : ∃ cf, cf = confB m n es vs := ⟨_, rfl⟩
    rw [← hcf] at hw7 hh7 ⊢
    rw [← hp7] at hh7
    have k0 : w7.cell? ⟨p7, 0, none⟩ = some (.slice Ak kn.length ck) := by rw [cell_of_row _ _ 0 _ _ _ hh7]; rfl
    have k1 : w7.cell? ⟨p7, 1, none⟩ = some (.slice (some ⟨gv, 0, none⟩) m m) := by rw [cell_of_row _ _ 1 _ _ _ hh7]; rfl
    have k2 : w7.cell? ⟨p7, 2, none⟩ = some (.bool cf) := by rw [cell_of_row _ _ 2 _ _ _ hh7]; rfl
    have Hrs := hide hrs
    have Hrow := hide hrow
    have Hkn := hide hkn
    have Hcf := hide hcf
    have Hw7 := hide hw7
    have Hb7 := hide hb7
    have Hh7 := hide hh7
    have Hz7 := hide hz7
    have Hp7 := hide hp7
    clear hrs hrow hkn hcf hw7 hb7 hh7 hz7 hp7 Hso
    go_upto_region 8 with fail
    rw [← Hw7.out, ← Hp7.out]
    clear Hw7
    cases cf
    · have hrb := hide (Hrs.out.bel.size)
      have ho5 := hide (show ∀ z, (Value.slice Al lo cl).ownBlock = some z → z < w5.heap.size from fun z hz => HES.out.rl.lt hz)
      have hb57 : Below w5.heap.size w5 w7 := Hrs.out.bel.trans (Hb7.out.mono hrb.out)
      have hlt0 : LT w7 w7 (Value.slice Al lo cl).ownBlock (.slice Al lo cl) (fun z => Se z ∨ (w5.heap.size ≤ z ∧ z < w7.heap.size)) es :=
        ⟨(HES.out.rl.keep fun z hz => hb57.block z (hz.elim (fun hz => (HES.out.sb z hz).1) fun hz => HES.out.rl.lt hz)).mono fun z hz => .inl hz, fun z hz => by
          have := hb57.size
          rcases hz with hz | hz
          · exact ⟨by have := (HES.out.sb z hz).1; omega, (HES.out.sb z hz).2.1⟩
          · exact ⟨hz.2, fun e => by have := ho5.out z e; omega⟩, Ch.refl _, .inl rfl⟩
      have Hlt0 := hide hlt0
      have hm1000 := hm40
      have hnd := hide (show kn.length ≤ 40 by rw [Hkn.out]; have := knT_len vs m; omega)
      have hp75 := hide (show w5.heap.size ≤ p7 ∧ p7 < w7.heap.size from ⟨by have := Hp7.out; have := hrb.out; omega, by have := Hp7.out; have := Hz7.out; omega⟩)
      have ht0 := hide (show es ++ (kn.take 0).map (fun i => (([i], valAt vs i) : EqB)) = es by simp)
      clear hlt0 hb57
      go_wp2_with fail
      go_loopw [5, 39] (fun vl i wr => ∃ (j : Nat) (Sx : Nat → Prop), j ≤ kn.length ∧ i = .int .i64 (j : Int) ∧ LT w7 wr (Value.slice Al lo cl).ownBlock vl Sx (es ++ (kn.take j).map fun i => (([i], valAt vs i) : EqB)) ∧ (∀ z, w5.heap.size ≤ z → z < w7.heap.size → Sx z)) (fun _ i _ => kn.length - (intOf i).toNat)
      case atStart => exact ⟨0, (fun z => Se z ∨ (w5.heap.size ≤ z ∧ z < w7.heap.size)), Nat.zero_le _, rfl, by rw [ht0.out]; exact Hlt0.out, fun z h1 h2 => .inr ⟨h1, h2⟩⟩
      case round =>
        obtain ⟨j, Sx, hj, rfl, hLT, hSx⟩ := hrel
        have hn40 : kn.length ≤ 40 := hnd.out
        have hkeep : ∀ z, w5.heap.size ≤ z → z < w7.heap.size → wr.heap[z]? = w7.heap[z]? := fun z h1 h2 => hLT.keep h2 fun e => by have := ho5.out z e; omega
        have h7r : wr.heap[p7]? = some (.cells #[.slice Ak kn.length ck, .slice (some ⟨gv, 0, none⟩) m m, .bool false] 33 (0, 0)) := (hkeep p7 hp75.out.1 hp75.out.2).trans Hh7.out
        have hk6 : ∀ z, w5.heap.size ≤ z → z < w6.heap.size → wr.heap[z]? = w6.heap[z]? := fun z h1 h2 => (hkeep z h1 (by have := Hz7.out; omega)).trans (Hb7.out.block z h2)
        have hvr := Hrs.out.vr.keep (w' := wr) fun z hz => hk6 z (hz.elim (fun hz => (Hrs.out.sb z hz).1) fun hz => by rw [hz]; exact Hrs.out.gb) (hz.elim (fun hz => (Hrs.out.sb z hz).2) fun hz => by rw [hz]; exact Hrs.out.vr.lt)
        have hrw := Hrow.out.keep (w' := wr) fun z hz => hk6 z (Hrs.out.kb z hz).1 (Hrow.out.lt hz)
        obtain ⟨Vl, cl9, rfl, hv1, hv2⟩ := hLT.row.shape
        by_cases hlt : j < kn.length
        · obtain ⟨q, cq, eq0, hcq, -⟩ := hrw.set (i := j) (by rw [List.length_map]; exact hlt) (.bool true)
          injection eq0 with eq1 eq2 eq3
          subst eq1
          rw [List.getElem_map] at hcq
          obtain ⟨ki, hki, hkm, hkk⟩ := knT_mem (show kn[j] ∈ knT vs m by rw [← Hkn.out]; exact List.getElem_mem hlt)
          have htk : (kn.take (j + 1)).map (fun i => (([i], valAt vs i) : EqB)) = (kn.take j).map (fun i => (([i], valAt vs i) : EqB)) ++ [([(ki : Int)], valAt vs (ki : Int))] := by
            rw [List.take_succ_eq_append_getElem hlt, List.map_append, hki]; rfl
          rw [hki] at hcq
          have hkv : ki < vs.length := by rw [Hrs.out.vr.len]; exact hkm
          obtain ⟨b2, o2, u2, eb, -, hu2, hc2⟩ := hvr.rd.at1 rfl hkv
          injection eb with eb; injection eb with eb1 eb2
          subst eb1; subst eb2
          rw [Nat.zero_add] at hc2
          rcases val_cell hkv with ⟨h1, -⟩ | ⟨-, h2⟩
          · rw [hkk] at h1; cases h1
          rw [h2] at hu2
          obtain ⟨y, hy⟩ : ∃ y, y = valAt vs (ki : Int) := ⟨_, rfl⟩
          rw [← hy] at hu2 htk
          obtain ⟨a, cy, hu2', f1, f2, f3⟩ := hu2
          injection hu2' with hu2' hu2''
          subst hu2'
          obtain ⟨ly, hly⟩ : ∃ ly, ly = y.length := ⟨_, rfl⟩
          rw [← hly] at hc2 f1
          obtain ⟨l9, hl9⟩ : ∃ l9, l9 = es ++ (kn.take j).map (fun i => (([i], valAt vs i) : EqB)) := ⟨_, rfl⟩
          have hln : l9.length = lo + j := by rw [hl9, List.length_append, Hesl.out, List.length_map, List.length_take]; omega
          have hnew : es ++ (kn.take (j + 1)).map (fun i => (([i], valAt vs i) : EqB)) = l9 ++ [([(ki : Int)], y)] := by rw [htk, hl9, List.append_assoc]
          rw [← hl9] at hLT hv1 ⊢
          rw [hln] at hLT hv1 ⊢
          have g0 : wr.cell? ⟨q, j, none⟩ = some (.int .i64 (ki : Int)) := hcq
          have g1 : wr.cell? ⟨p7, 1, none⟩ = some (.slice (some ⟨gv, 0, none⟩) m m) := by rw [cell_of_row _ _ 1 _ _ _ h7r]; rfl
          have g1' : (wr.alloc (.cells #[.int .i64 (ki : Int)] 3)).cell? ⟨p7, 1, none⟩ = some (.slice (some ⟨gv, 0, none⟩) m m) := ((balloc wr _).cell (World.block_lt_of_cell? _ _ g1)).trans g1
          have g2' : (wr.alloc (.cells #[.int .i64 (ki : Int)] 3)).cell? ⟨gv, ki, none⟩ = some (.slice (some a) ly cy) := ((balloc wr _).cell (World.block_lt_of_cell? _ _ hc2)).trans hc2
          obtain ⟨o1, ho1⟩ : ∃ o1 : Obj, o1 = .cells #[.slice (some ⟨wr.heap.size, 0, none⟩) 1 1, .slice (some a) ly cy] 43 := ⟨_, rfl⟩
          have hb0 := balloc wr (.cells #[.int .i64 (ki : Int)] 3)
          have hz0 : (wr.alloc (.cells #[.int .i64 (ki : Int)] 3)).heap.size = wr.heap.size + 1 := by simp
          have hb01 : Below wr.heap.size wr ((wr.alloc (.cells #[.int .i64 (ki : Int)] 3)).alloc o1) := hb0.alloc (by omega) o1
          have hor : ORow kEq (fun z => Sx z ∨ z = wr.heap.size) ((wr.alloc (.cells #[.int .i64 (ki : Int)] 3)).alloc o1) 43 (.slice Vl (lo + j) cl9) l9 :=
            (hLT.row.keep fun z hz => hb01.block z (hz.elim (fun hz => (hLT.sb z hz).1) fun hz => hLT.row.lt hz)).mono fun z hz => .inl hz
          have hil : RdL kInt (fun z => z = wr.heap.size) ((wr.alloc (.cells #[.int .i64 (ki : Int)] 3)).alloc o1) (some ⟨wr.heap.size, 0, none⟩) [(ki : Int)] :=
            ints_lit (l := [(ki : Int)]) (((balloc (wr.alloc (.cells #[.int .i64 (ki : Int)] 3)) o1).block wr.heap.size (by omega)).trans (heap_alloc_new wr _)) (fun x hx => by simp at hx; rw [hx]; simp [Lit.wf, IntKind.min, IntKind.max, IntKind.signed, IntKind.bits]; omega) rfl
          have hel : kEq.R (fun z => Sx z ∨ z = wr.heap.size) ((wr.alloc (.cells #[.int .i64 (ki : Int)] 3)).alloc o1) ([(ki : Int)], y) [.slice (some ⟨wr.heap.size, 0, none⟩) 1 1, .slice (some a) ly cy] :=
            ⟨[_], [_], rfl, ⟨_, 1, rfl, by simp, by simp [maxLen], hil.mono fun z hz => .inr hz⟩, some a, cy, by rw [hly], by rw [← hly]; exact f1, f2, (f3.keep fun z hz => hb01.block z (hz.elim (fun hz => by have := (Hrs.out.sb z hz).2; have := hLT.ch.size; have := Hz7.out; omega) fun hz => by rw [hz]; exact hvr.lt)).mono fun z hz => .inl (hz.elim (fun hz => hSx z (Hrs.out.sb z hz).1 (by have := (Hrs.out.sb z hz).2; have := Hz7.out; omega)) fun hz => by rw [hz]; exact hSx gv Hrs.out.gb (by have := Hrs.out.vr.lt; have := Hz7.out; omega))⟩
          have Hnew9 := hide (show ((wr.alloc (.cells #[.int .i64 (ki : Int)] 3)).alloc o1).heap[wr.heap.size + 1]? = some o1 by have := heap_alloc_new (wr.alloc (.cells #[.int .i64 (ki : Int)] 3)) o1; rwa [hz0] at this)
          have Hor := hide hor
          have Hel := hide hel
          have HLT := hide hLT
          have HSx := hide hSx
          have Hln := hide hln
          have Hnew := hide hnew
          have i1 : (0 : Int) ≤ (ki : Int) := by omega
          have i2 : (ki : Int) < (m : Int) := by omega
          have hone := hide (show ∀ u ∈ [Value.slice (some ⟨wr.heap.size, 0, none⟩) 1 1, .slice (some a) ly cy], u.oneCell' = true from fun u hu => by simp at hu; rcases hu with rfl | rfl <;> rfl)
          have hby := hide (show (l9.length + 1) * 48 ≤ 140737488355328 ∧ l9.length + 1 ≤ maxLen from ⟨by have := hnd.out; have := Hlen.out.1; have := Hlo.out; omega, by have := hnd.out; have := Hlen.out.1; have := Hlo.out; unfold maxLen; omega⟩)
          have hSc := hide (show ∀ z, (Sx z ∨ z = wr.heap.size) → z < ((wr.alloc (.cells #[.int .i64 (ki : Int)] 3)).alloc o1).heap.size ∧ some z ≠ (Value.slice Vl (lo + j) cl9).ownBlock from fun z hz => ⟨by
            rcases hz with hz | hz
            · have := (hLT.sb z hz).1; simp; omega
            · simp; omega, fun e => by
            rcases hz with hz | hz
            · exact (hLT.sb z hz).2 e.symm
            · have := hLT.row.lt e.symm; omega⟩)
          subst ho1
          clear hor hel hil hb0 hb01 hz0 hLT hSx hln hnew hl9 hly f3 hy hu2'' h2 hkk hki htk hkv hcq hrw hvr hk6 h7r hkeep eq2 eq3
          go_wp2_with (at_builtin; with_reducible refine wp_push 53 rfl rfl (.tmp 43) (.tmp 52) 28 rfl Try.underlying28 infoEq ?_ (d := kEq) (S := fun z => Sx z ∨ z = wr.heap.size) (xs := l9) ?_ Hor.out (g := wr.heap.size + 1) (y := ([(ki : Int)], y)) (cs := [.slice (some ⟨wr.heap.size, 0, none⟩) 1 1, .slice (some a) ly cy]) ?_ Hnew9.out Hel.out hone.out hby.out.1 hby.out.2 hSc.out ?_)
          all_goals first | rfl | skip
          intro v9 w9 hr9 g9 o9
          have HL9 := hide (HLT.out.push (c0 := .cells #[.int .i64 (ki : Int)] 3) (c1 := .cells #[.slice (some ⟨wr.heap.size, 0, none⟩) 1 1, .slice (some a) ly cy] 43) hr9 g9 (by simpa using o9))
          obtain ⟨V9, c9, rfl, -, -⟩ := hr9.shape
          rw [List.length_append, Hln.out, List.length_singleton] at HL9 ⊢
          clear hr9 g9 o9
          go_wp2_with fail
          exact ⟨⟨j + 1, (fun z => Sx z ∨ z = wr.heap.size), by omega, by rw [Int.natCast_succ], by rw [Hnew.out]; exact HL9.out, fun z h1 h2 => .inl (HSx.out z h1 h2)⟩, by simp only [intOf]; omega⟩
        · obtain rfl : j = kn.length := by omega
          rw [List.take_length] at hLT hv1 ⊢
          obtain ⟨l2, hl2⟩ : ∃ l2, l2 = es ++ kn.map (fun i => (([i], valAt vs i) : EqB)) := ⟨_, rfl⟩
          rw [← hl2] at hLT hv1 ⊢
          have hln2 : l2.length = lo + kn.length := by rw [hl2, List.length_append, Hesl.out, List.length_map]
          rw [hln2] at hLT hv1 ⊢
          have hlow := Hlen.out.1
          have hlo2 := Hlo.out
          have hso := solve_calls m n Vl l2 cl9 (fun z => Sx z ∨ (Value.slice Vl (lo + kn.length) cl9).ownBlock = some z) wr hv2 (by rw [hln2]; exact hv1) hLT.row.rd (fun z hz => hz.elim (fun hz => (hLT.sb z hz).1) fun hz => hLT.row.lt hz) (by omega) (by omega) (by omega) (fun e he => by
            rw [hl2] at he
            rcases List.mem_append.1 he with he | he
            · exact Hesm.out e he
            · obtain ⟨i, -, rfl⟩ := List.mem_map.1 he
              simp)
          rw [hln2] at hso
          have Hso2 := hide hso
          have Hl2 := hide hl2
          have HLT := hide hLT
          obtain ⟨wx, hwx⟩ : ∃ wx : World, wx = wr := ⟨_, rfl⟩
          rw [← hwx] at HLT Hso2 ⊢
          rw [← hwx] at h7r hk6
          have H7r := hide h7r
          have Hk6 := hide hk6
          clear hLT hso hl2 hln2 hwx h7r hk6 hvr hrw hkeep hlow hlo2
          go_wp2_with fail
          refine Hso2.out.mono ?_
          rintro _ w9 ⟨vs2, vk2, gv2, S2, hfin2, rfl, hrs2⟩
          have hfm := fin_more hfin Hcf.out.symm hfin2 (fun e he => by rw [Hl2.out]; exact List.mem_append.2 (.inl he)) (fun e he => by
            rw [Hl2.out] at he
            rcases List.mem_append.1 he with he | he
            · exact .inl he
            · obtain ⟨i, hi, rfl⟩ := List.mem_map.1 he
              rw [Hkn.out] at hi
              obtain ⟨k, rfl, -, hk⟩ := knT_mem hi
              exact .inr ⟨_, hk, rfl⟩)
          obtain ⟨hv2e, hcf2⟩ := hfm
          subst hv2e
          rw [hcf2]
          obtain ⟨Ak2, ck2, rfl, hk1, hk2⟩ := hrs2.row.shape
          have hrow2 := hrs2.row
          rw [List.length_map, ← Hkn.out] at hrs2 hk1 hrow2 ⊢
          have hwfk : ∀ x ∈ kn, (Lit.int .i64 x).wf = true := fun x hx => by
            rw [Hkn.out] at hx
            obtain ⟨k, rfl, hk, -⟩ := knT_mem hx
            simp [Lit.wf, IntKind.min, IntKind.max, IntKind.signed, IntKind.bits]; omega
          obtain ⟨wA, hwA⟩ : ∃ wA, wA = w9.alloc (.cells #[.slice Ak2 kn.length ck2, .slice (some ⟨gv2, 0, none⟩) m m, .bool false] 33) := ⟨_, rfl⟩
          have hbA : Below w9.heap.size w9 wA := by rw [hwA]; exact balloc w9 _
          have hhA : wA.heap[w9.heap.size]? = some (.cells #[.slice Ak2 kn.length ck2, .slice (some ⟨gv2, 0, none⟩) m m, .bool false] 33 (0, 0)) := by rw [hwA]; exact heap_alloc_new w9 _
          have hzA : wA.heap.size = w9.heap.size + 1 := by rw [hwA]; simp
          have hb9A := hrs2.bel.trans (hbA.mono hrs2.bel.size)
          have hcx := HLT.out.ch.size
          have hpx : p7 < wx.heap.size := by have := hp75.out.2; omega
          have h7A : wA.heap[p7]? = some (.cells #[.slice Ak kn.length ck, .slice (some ⟨gv, 0, none⟩) m m, .bool false] 33 (0, 0)) := (hb9A.block p7 hpx).trans H7r.out
          have h6x : w6.heap.size ≤ wx.heap.size := by have := Hz7.out; omega
          have hvrx := Hrs.out.vr.keep (w' := wx) fun z hz => Hk6.out z (hz.elim (fun hz => (Hrs.out.sb z hz).1) fun hz => by rw [hz]; exact Hrs.out.gb) (hz.elim (fun hz => (Hrs.out.sb z hz).2) fun hz => by rw [hz]; exact Hrs.out.vr.lt)
          have hvrA := hvrx.keep (w' := wA) fun z hz => hb9A.block z (hz.elim (fun hz => Nat.lt_of_lt_of_le (Hrs.out.sb z hz).2 h6x) fun hz => by rw [hz]; exact hvrx.lt)
          have hvr2A := hrs2.vr.keep (w' := wA) fun z hz => hbA.block z (hz.elim (fun hz => (hrs2.sb z hz).2) fun hz => by rw [hz]; exact hrs2.vr.lt)
          have hrwx := Hrow.out.keep (w' := wx) fun z hz => Hk6.out z (Hrs.out.kb z hz).1 (Hrow.out.lt hz)
          have hrwA := hrwx.keep (w' := wA) fun z hz => hb9A.block z (hrwx.lt hz)
          have hrw2A := hrow2.keep (w' := wA) fun z hz => hbA.block z (hrow2.lt hz)
          have hsm := same_calls Ak kn ck Ak2 kn ck2 (· < wA.heap.size) wA hck2 hck1 (row_ints hrwA hwfk fun z hz => hrwA.lt hz) hk2 hk1 (row_ints hrw2A hwfk fun z hz => hrw2A.lt hz) (fun z hz => hz)
          rw [sameN_yes] at hsm
          have hstr : ∀ i : Nat, i < m → ∃ A ln c A' ln' c' s, wA.cell? ⟨gv, i, none⟩ = some (.slice A ln c) ∧ wA.cell? ⟨gv2, i, none⟩ = some (.slice A' ln' c') ∧ ∀ y : World, Below wA.heap.size wA y → (convert 38 9 (.slice A ln c)).run Try.prog y = .ok (.string s) y ∧ (convert 38 9 (.slice A' ln' c')).run Try.prog y = .ok (.string s) y := fun i hi => by
            obtain ⟨A, ln, c, g1, g2⟩ := hvrA.str (fun k hk => by have := (Hrs.out.sb k hk).2; have := hb9A.size; omega) hi
            obtain ⟨A', ln', c', g1', g2'⟩ := hvr2A.str (fun k hk => by have := (hrs2.sb k hk).2; omega) hi
            exact ⟨A, ln, c, A', ln', c', _, g1, g1', fun y hy => ⟨g2 y hy, g2' y hy⟩⟩
          obtain ⟨pA, hpA⟩ : ∃ pA, pA = w9.heap.size := ⟨_, rfl⟩
          rw [← hpA] at hhA
          have Hstr := hide hstr
          have Hsm := hide hsm
          have H7A := hide h7A
          have HhA := hide hhA
          have HwA := hide hwA
          have HpA := hide hpA
          have hpA2 := hide (show pA < wA.heap.size by omega)
          have hp7A := hide (show p7 < wA.heap.size by have := hb9A.size; omega)
          have Hend := hide (show Below w.heap.size w wA from (HLT.out.ch.below Hbw7.out Hbw7.out.size (fun z hz => by have := HES.out.ol z hz; have := Hb04.out.size; omega)).trans (hb9A.mono (by have := Hbw7.out.size; have := HLT.out.ch.size; omega)))
          clear hwfk hbA hhA hzA hb9A hcx hpx h7A h6x hvrx hvrA hvr2A hrwx hrwA hrw2A hsm hstr hwA hpA hrs2 hrow2 Hso2 H7r Hk6 hcf2 hfin2
          have hn40 : kn.length ≤ 40 := hnd.out
          go_upto_region 16 with fail
          rw [← HwA.out, ← HpA.out]
          clear HwA
          have k0 : wA.cell? ⟨p7, 0, none⟩ = some (.slice Ak kn.length ck) := by rw [cell_of_row _ _ 0 _ _ _ H7A.out]; rfl
          have k1 : wA.cell? ⟨p7, 1, none⟩ = some (.slice (some ⟨gv, 0, none⟩) m m) := by rw [cell_of_row _ _ 1 _ _ _ H7A.out]; rfl
          have m0 : wA.cell? ⟨pA, 0, none⟩ = some (.slice Ak2 kn.length ck2) := by rw [cell_of_row _ _ 0 _ _ _ HhA.out]; rfl
          have m1 : wA.cell? ⟨pA, 1, none⟩ = some (.slice (some ⟨gv2, 0, none⟩) m m) := by rw [cell_of_row _ _ 1 _ _ _ HhA.out]; rfl
          have m2 : wA.cell? ⟨pA, 2, none⟩ = some (.bool false) := by rw [cell_of_row _ _ 2 _ _ _ HhA.out]; rfl
          go_wp2_with fail
          refine Hsm.out.mono ?_
          rintro _ wB ⟨rfl, hbB⟩
          have n1 := keep8 k1 hbB
          have r1 := keep8 m1 hbB
          have r2 := keep8 m2 hbB
          have HbB := hide hbB
          clear k0 m0 m2 hbB
          go_wp2_with fail
          go_loopw [81] (fun i wr => ∃ j : Nat, j ≤ m ∧ i = .int .i64 (j : Int) ∧ Below wA.heap.size wA wr) (fun i _ => m - (intOf i).toNat)
          case atStart => exact ⟨0, Nat.zero_le _, rfl, HbB.out⟩
          case round =>
            obtain ⟨j, hj, rfl, hbw⟩ := hrel
            have n2 := keep8 k1 hbw
            have n3 := keep8 m1 hbw
            by_cases hlt : j < m
            · obtain ⟨A, ln, c, A', ln', c', sx, g1, g2, g3⟩ := Hstr.out j hlt
              have g4 := keep8 g1 hbw
              have g5 := keep8 g2 hbw
              have q1 := fun q => (g3 (wr.drewN q) ⟨hbw.os, hbw.tape, hbw.output, hbw.size, hbw.block⟩).1
              have q2 := fun q => (g3 (wr.drewN q) ⟨hbw.os, hbw.tape, hbw.output, hbw.size, hbw.block⟩).2
              have q3 : (sx.toList != sx.toList) = false := by simp
              have i1 : (0 : Int) ≤ (j : Int) := by omega
              have i2 : (j : Int) < (m : Int) := by omega
              have Hbw := hide hbw
              clear g1 g2 g3 hbw k1 m1 n1 r1
              go_wp2_with fail
              go_quiet (fail)
              go_wp2_with fail
              exact ⟨⟨j + 1, by omega, by rw [Int.natCast_succ], ⟨Hbw.out.os, Hbw.out.tape, Hbw.out.output, Hbw.out.size, Hbw.out.block⟩⟩, by simp only [intOf]; omega⟩
            · obtain rfl : j = m := by omega
              have Hbw := hide hbw
              clear hbw
              go_wp2_with fail
              exact hR.out _ _ ⟨rfl, Hend.out.trans (Hbw.out.mono Hend.out.size)⟩
    · go_wp2_with fail
      exact hR.out _ _ ⟨rfl, Hbw7.out⟩
  · go_wp2_with fail
    exact hR.out _ _ ⟨rfl, Hb02.out⟩
end Go.Proofs.Ytdppjhfndolbjaa
