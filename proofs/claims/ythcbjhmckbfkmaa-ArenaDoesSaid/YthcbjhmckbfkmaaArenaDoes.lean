/- ArenaDoes, walked. -/
import Derived.Test.YthcbjhmckbfkmaaArenaDo
import Derived.Deep.QuietTactic
import Derived.BigQuiet
import Derived.Deep.Cut
import Derived.Deep.CutRange
import Derived.Deep.CutBlock
import Derived.Deep.RegionHeld
set_option linter.unusedVariables false
set_option linter.unusedSimpArgs false
namespace Go.Proofs.Ythcbjhmckbfkmaa
open Go.RowKit

abbrev ActA := Int × Int × Int × Bool × List UInt8
abbrev kAct : Kd ActA := Kd.seq (Kd.int .i64) (Kd.seq (Kd.int .i64) (Kd.seq (Kd.int .i64) (Kd.seq Kd.bool (Kd.sl Kd.byte))))
theorem act_at {S : Nat → Prop} {w : World} {B : Option Addr} {l : List ActA} (h : RdL kAct S w B l) {i : Nat} (hi : i < l.length) : ∃ b off Bx c, B = some ⟨b, off, none⟩ ∧ S b ∧ w.cell? ⟨b, off + i * 5, none⟩ = some (.int .i64 l[i].1) ∧ w.cell? ⟨b, off + i * 5 + 1, none⟩ = some (.int .i64 l[i].2.1) ∧ w.cell? ⟨b, off + i * 5 + 2, none⟩ = some (.int .i64 l[i].2.2.1) ∧ w.cell? ⟨b, off + i * 5 + 3, none⟩ = some (.bool l[i].2.2.2.1) ∧ w.cell? ⟨b, off + i * 5 + 4, none⟩ = some (.slice Bx l[i].2.2.2.2.length c) ∧ l[i].2.2.2.2.length ≤ c ∧ c ≤ maxLen ∧ RdL Kd.byte S w Bx l[i].2.2.2.2 := by
  obtain ⟨b, off, e, hs, hc⟩ := h (by omega)
  obtain ⟨cs, hr, hcell⟩ := hc i l[i] (List.getElem?_eq_getElem hi)
  obtain ⟨_, _, rfl, ⟨_, rfl, rfl, -⟩, _, _, rfl, ⟨_, rfl, rfl, -⟩, _, _, rfl, ⟨_, rfl, rfl, -⟩, _, _, rfl, ⟨_, rfl, rfl⟩, Bx, c, rfl, h1, h2, h3⟩ := hr
  exact ⟨b, off, Bx, c, e, hs, hcell 0 _ rfl, hcell 1 _ rfl, hcell 2 _ rfl, hcell 3 _ rfl, hcell 4 _ rfl, h1, h2, h3⟩
theorem meant_calls (kd I K : Int) (ev : Bool) (Bv : Option Addr) (lx cx : Nat) (E : List Int) (Eo : Option Addr) (ce : Nat) (w : World) (hm : E.length ≤ 1000) (hE : Row w 3 (.slice Eo E.length ce) (E.map fun x => .int .i64 x)) :
    Calls Try.prog 29 #[.agg #[.int .i64 kd, .int .i64 I, .int .i64 K, .bool ev, .slice Bv lx cx], .slice Eo E.length ce] w fun e w' => e = .returned (.tuple #[.int .i64 (meantI ev E I), .int .i64 (meantI ev E K)]) ∧ Below w.heap.size w w' := by
  by_cases h : ev = false ∨ E = []
  · exact meant_look kd I K ev Bv lx cx E Eo ce w h
  · have h1 : ev = true := by
      cases ev with
      | true => rfl
      | false => exact absurd (.inl rfl) h
    subst h1
    exact meant_ever kd I K Bv lx cx E Eo ce w (by
      cases E with
      | nil => exact absurd (.inr rfl) h
      | cons a r => simp) hm hE
theorem AM.drop2 {w1 w w' : World} {S Sl : Nat → Prop} {vl v' : Value} {l l' : LBlk} {ve : Value} {E : List Int} (h : AM w1 w S Sl vl l ve E) (h1 : w1.heap.size ≤ w.heap.size) (hS : ∀ k, S k → k < w.heap.size) (d : Dr w w' (fun k => Sl k ∨ vl.ownBlock = some k) v' l') : AM w1 w' S (fun k => Sl k ∨ vl.ownBlock = some k) v' l' ve E := by
  have h2 := h.below d.bel
  have hlt : ∀ k, (Sl k ∨ vl.ownBlock = some k) → k < w.heap.size := fun k hk => hk.elim (fun hk => (h.sl k hk).2.2) fun hk => h.ltl hk
  refine ⟨d.row, h2.ev, fun k hk => ?_, fun k hk => ?_, fun k hk => ?_⟩
  · rcases hk with hk | hk
    · exact h2.sl k hk
    · exact ⟨(h.ol k hk).1, (h.ol k hk).2.1, Nat.lt_of_lt_of_le (h.ltl hk) d.bel.size⟩
  · have := d.own k hk
    exact ⟨fun hs => by have := hS k hs; omega, by omega, fun hs => by have := hlt k hs; omega⟩
  · have h3 := h2.oe k hk
    have := h.lte hk
    exact ⟨h3.1, h3.2.1, fun hs => hs.elim h3.2.2.1 fun e => h3.2.2.2 e, fun e => by have := d.own k e; omega⟩
theorem orow_mono {α : Type} {d : Kd α} {S S' : Nat → Prop} {w : World} {e : TypeId} {v : Value} {xs : List α} (h : ORow d S w e v xs) (hs : ∀ k, S k → S' k) : ORow d S' w e v xs := by
  obtain ⟨us, h1, h2⟩ := h
  exact ⟨us, h1, fun i x hx => by
    obtain ⟨cs, hr, hc⟩ := h2 i x hx
    exact ⟨cs, d.mono hs hr, hc⟩⟩
theorem blk_made {S T : Nat → Prop} {w : World} {z n j : Nat} (hj : j ≤ 1000) (hn : n ≤ 1000) (h : RdL Kd.byte T w (some ⟨z, 0, none⟩) (zs n)) (hT : ∀ k, T k → S k) : kBlk.R S w ((j : Int), zs n) [.int .i64 (j : Int), .slice (some ⟨z, 0, none⟩) n n] :=
  ⟨[.int .i64 (j : Int)], _, rfl, ⟨_, rfl, rfl, by simp [Lit.wf, IntKind.min, IntKind.max, IntKind.signed, IntKind.bits]; omega⟩, some ⟨z, 0, none⟩, n, by simp [zs], by simp [zs], by unfold maxLen; omega, h.mono hT⟩
theorem run_maxn (P : Program) (w : World) (ts : Array TypeId) (t : TypeId) (a b : Nat) : (Builtin.max_ ts t #[.int .i64 (a : Int), .int .i64 (b : Int)]).run P w = .ok (.int .i64 ((max a b : Nat) : Int)) w := by
  simp [Builtin.max_, Builtin.max2]
  omega
section
variable {w1 w : World} {n room g live peak : Nat} {S : Nat → Prop} {bl : List (List UInt8)} {us : List Bool} {fr : List Nat} {l : LBlk} {i k : Int}
theorem onto_here (h : Calls Try.prog 33 #[.pointer (some ⟨w1.heap.size, 0, none⟩), .int .i64 i, .int .i64 k] w fun e w' =>
      ∃ bl', e = .returned (.bool (decide (i ≠ k) && (decide (0 ≤ findB l k) && decide (0 ≤ findB l i)))) ∧ AL w1 w' S w1.heap.size n room bl' us fr live peak ∧ Step S S w w' ∧
        (i ≠ k → ∀ f (hf : f < l.length), findB l k = (f : Int) → LI (putL l i l[f].2) bl' us ∧ putB l i l[f].2 = decide (0 ≤ findB l i)) ∧ (¬ (i ≠ k ∧ 0 ≤ findB l k) → LI l bl' us)) (hne : i ≠ k) {f : Nat} (hf : f < l.length) (hfe : findB l k = (f : Int)) :
    Calls Try.prog 33 #[.pointer (some ⟨w1.heap.size, 0, none⟩), .int .i64 i, .int .i64 k] w fun e w' => ∃ bl', e = .returned (.bool (putB l i l[f].2)) ∧ AL w1 w' S w1.heap.size n room bl' us fr live peak ∧ Step S S w w' ∧ LI (putL l i l[f].2) bl' us := by
  refine h.mono ?_
  rintro e w' ⟨bl', rfl, h1, h2, h3, -⟩
  obtain ⟨h4, h5⟩ := h3 hne f hf hfe
  exact ⟨bl', by rw [h5, hfe, decide_eq_true hne]; simp, h1, h2, h4⟩
theorem onto_not (h : Calls Try.prog 33 #[.pointer (some ⟨w1.heap.size, 0, none⟩), .int .i64 i, .int .i64 k] w fun e w' =>
      ∃ bl', e = .returned (.bool (decide (i ≠ k) && (decide (0 ≤ findB l k) && decide (0 ≤ findB l i)))) ∧ AL w1 w' S w1.heap.size n room bl' us fr live peak ∧ Step S S w w' ∧
        (i ≠ k → ∀ f (hf : f < l.length), findB l k = (f : Int) → LI (putL l i l[f].2) bl' us ∧ putB l i l[f].2 = decide (0 ≤ findB l i)) ∧ (¬ (i ≠ k ∧ 0 ≤ findB l k) → LI l bl' us)) (hno : ¬ (i ≠ k ∧ 0 ≤ findB l k)) :
    Calls Try.prog 33 #[.pointer (some ⟨w1.heap.size, 0, none⟩), .int .i64 i, .int .i64 k] w fun e w' => ∃ bl', e = .returned (.bool false) ∧ AL w1 w' S w1.heap.size n room bl' us fr live peak ∧ Step S S w w' ∧ LI l bl' us := by
  refine h.mono ?_
  rintro e w' ⟨bl', rfl, h1, h2, -, h3⟩
  refine ⟨bl', ?_, h1, h2, h3 hno⟩
  congr 2
  by_cases hik : i = k
  · simp [hik]
  · have : ¬ 0 ≤ findB l k := fun h => hno ⟨hik, h⟩
    simp [this]
end
set_option maxHeartbeats 40000000 in
set_option maxRecDepth 100000 in
theorem ArenaDoes_calls (sz mt : UInt8) (B : Option Addr) (xs : List ActA) (d : Nat) (w : World) (hd : d ≤ maxLen) (hdl : xs.length ≤ d) (h : RdL kAct (· < w.heap.size) w B xs) :
    Calls Try.prog 9 #[.int .u8 (sz.toNat : Int), .int .u8 (mt.toNat : Int), .slice B xs.length d] w fun e w' => e = .returned (.bool true) ∧ Below w.heap.size w w' := by
  refine cps fun R hR => ?_
  unfold maxLen at hd
  obtain ⟨n, hn, hn40⟩ : ∃ n : Nat, ((sz.toNat : Int)).tmod 40 = (n : Int) ∧ n < 40 := ⟨sz.toNat % 40, rfl, Nat.mod_lt _ (by omega)⟩
  obtain ⟨room, hm, hm12⟩ : ∃ n : Nat, ((mt.toNat : Int)).tmod 12 = (n : Int) ∧ n < 12 := ⟨mt.toNat % 12, rfl, Nat.mod_lt _ (by omega)⟩
  have hsz := sz.toNat_lt
  have hmt := mt.toNat_lt
  generalize sz.toNat = sz at *
  generalize mt.toNat = mt at *
  have H := hide h
  clear h
  obtain ⟨L, hL⟩ : ∃ L, L = xs.length := ⟨_, rfl⟩
  rw [← hL] at hdl ⊢
  have HL := hide hL
  clear hL
  go_enter Try.func9, Try.ntmps9
  go_wp2_with fail
  refine (aspeaks w).mono ?_
  rintro e w1 ⟨rfl, hb1⟩
  have Hb1 := hide hb1
  by_cases h15 : 150 < L
  · go_wp2_with fail
    exact hR.out _ _ ⟨rfl, hb1⟩
  clear hb1
  go_wp2_with fail
  refine (al_new (n : Int) (room : Int) w1).mono ?_
  rintro e w2 ⟨rfl, S2, h2⟩
  rw [Int.toNat_natCast, Int.toNat_natCast] at h2
  have H2 := hide (AD.mk h2 (⟨ORow.nil, Row.nil, (fun k hk => hk.elim), (fun k hk => by cases hk), (fun k hk => by cases hk)⟩ : AM w1 w2 S2 (fun _ => False) (.slice none 0 0) [] (.slice none 0 0) []) LI.nil FI.nil rfl)
  clear h2 hn hm hsz hmt
  go_wp2_with fail
  go_loopw [10, 11, 12, 39] (fun vl ve pk i wr => ∃ (k : Nat) (S Sl : Nat → Prop) (bl : List (List UInt8)) (us : List Bool) (fr : List Nat) (live peak : Nat) (l : LBlk) (E : List Int), k ≤ L ∧ i = .int .i64 (k : Int) ∧ pk = .int .i64 (peak : Int) ∧ E.length ≤ k ∧ peak ≤ room ∧ AD w1 wr n room vl ve S Sl bl us fr live peak l E) (fun _ _ _ i _ => L - (intOf i).toNat)
  case atStart => exact ⟨0, _, _, _, _, _, _, _, _, _, Nat.zero_le _, rfl, rfl, Nat.le_refl _, Nat.zero_le _, H2.out⟩
  case round =>
    obtain ⟨k, S, Sl, bl, us, fr, live, peak, l, E, hk, rfl, rfl, hE, hpr, hA⟩ := hrel
    clear H2
    have HA := hide hA
    have Hb := hide (Hb1.out.trans (hA.al.bel.mono Hb1.out.size))
    clear hA
    by_cases hlt : k < L
    · obtain ⟨b0, off, Bx, c, rfl, hsb, q0, q1, q2, q3, q4, hxc, hcm, hxr⟩ := act_at (H.out.below Hb.out) (i := k) (by rw [← HL.out]; exact hlt)
      generalize xs[k]'(by rw [← HL.out]; exact hlt) = x at q0 q1 q2 q3 q4 hxc hxr
      obtain ⟨kd, I, K, ev, xb⟩ := x
      simp only at q0 q1 q2 q3 q4 hxc hxr
      have Hx := hide hxr
      clear hxr hsb
      obtain ⟨ln, hln⟩ : ∃ ln, ln = xb.length := ⟨_, rfl⟩
      rw [← hln] at q4 hxc
      have Hln := hide hln
      clear hln
      by_cases h100 : 100 < ln
      · go_wp2_with fail
        exact hR.out _ _ ⟨rfl, Hb.out.alloc Hb.out.size _⟩
      · obtain ⟨Eo, ce, rfl, hce1, hce2⟩ := HA.out.am.ev.shape
        rw [List.length_map] at HA hce1 ⊢
        obtain ⟨w3, hw3⟩ : ∃ w3, w3 = wr.alloc (.cells #[.int .i64 kd, .int .i64 I, .int .i64 K, .bool ev, .slice Bx ln c] 48) := ⟨_, rfl⟩
        have hb3 : Below wr.heap.size wr w3 := by rw [hw3]; exact balloc wr _
        have hq : w3.heap[wr.heap.size]? = some (.cells #[.int .i64 kd, .int .i64 I, .int .i64 K, .bool ev, .slice Bx ln c] 48 (0, 0)) := by rw [hw3]; exact heap_alloc_new wr _
        have hA3 : AD w1 w3 n room u10 (.slice Eo E.length ce) S Sl bl us fr live peak l E := ⟨HA.out.al.below hb3, HA.out.am.below hb3, HA.out.li, HA.out.fi, HA.out.ll⟩
        have Hme := hide (meant_calls kd I K ev Bx ln c E Eo ce w3 (by omega) hA3.am.ev)
        have HA3 := hide hA3
        have Hq := hide hq
        have Hw3 := hide hw3
        have Hb3 := hide hb3
        have Hbd := hide (show wr.heap.size < w3.heap.size by rw [hw3]; simp)
        clear hq hw3 hb3 hA3
        go_upto_region 13 with fail
        rw [← Hw3.out]
        have c4 : w3.cell? ⟨wr.heap.size, 4, none⟩ = some (.slice Bx ln c) := by rw [cell_of_row _ _ 4 _ _ _ Hq.out]; rfl
        have c0 : w3.cell? ⟨wr.heap.size, 0, none⟩ = some (.int .i64 kd) := by rw [cell_of_row _ _ 0 _ _ _ Hq.out]; rfl
        have c1 : w3.cell? ⟨wr.heap.size, 1, none⟩ = some (.int .i64 I) := by rw [cell_of_row _ _ 1 _ _ _ Hq.out]; rfl
        have c2 : w3.cell? ⟨wr.heap.size, 2, none⟩ = some (.int .i64 K) := by rw [cell_of_row _ _ 2 _ _ _ Hq.out]; rfl
        have c3 : w3.cell? ⟨wr.heap.size, 3, none⟩ = some (.bool ev) := by rw [cell_of_row _ _ 3 _ _ _ Hq.out]; rfl
        obtain ⟨q, hqe⟩ : ∃ q, q = wr.heap.size := ⟨_, rfl⟩
        rw [← hqe] at c0 c1 c2 c3 c4 Hq Hbd ⊢
        have Hqe := hide hqe
        clear hqe Hw3 q0 q1 q2 q3 q4
        generalize meantI ev E I = i0 at Hme
        generalize meantI ev E K = k0 at Hme
        go_wp2_with fail
        refine Hme.out.mono ?_
        rintro _ w4 ⟨rfl, hb4⟩
        have d0 : w4.cell? ⟨q, 0, none⟩ = some (.int .i64 kd) := (hb4.cell Hbd.out).trans c0
        have d4 : w4.cell? ⟨q, 4, none⟩ = some (.slice Bx ln c) := (hb4.cell Hbd.out).trans c4
        have Hb4 := hide hb4
        clear c0 c1 c2 c3 c4 hb4
        have hA4 := HA3.out.below Hb4.out
        obtain ⟨Bl, dl, rfl, hdl1, hdl2⟩ := hA4.am.row.shape
        obtain ⟨h1, h2, h3, h4, h5⟩ := hA4.caps
        have hll := hA4.ll
        have hpk := hide (show max peak live = peak by have := hA4.fi.pk; omega)
        have hlL := hll.symm
        rw [← hlL] at hA4 hdl1 h5 ⊢
        have HlL := hide hlL
        have HA4 := hide hA4
        have Hpr := hide hpr
        have HE := hide hE
        have Hb34 := hide Hb3.out
        clear hlL hll hA4 h1 h2 h4 h5 HA3 HA Hme Hb3 hpr hE
        go_upto_block 2 with fail
        go_cut [10, 11, 17, 18, 19, 20, 21] from 55 to 149 (fun s10 s11 s17 s18 s19 s20 s21 wx => ∃ (b : Bool) (S' Sl' : Nat → Prop) (bl' : List (List UInt8)) (us' : List Bool) (fr' : List Nat) (live' : Nat) (l' : LBlk) (E' : List Int), s17 = .bool b ∧ s18 = .bool b ∧ E'.length ≤ k + 1 ∧ AD w1 wx n room s10 s11 S' Sl' bl' us' fr' live' (max peak live') l' E')
        case first =>
          have Hal := hide (alloc_do HA4.out (by omega) (by omega) (by have := Hpr.out; omega))
          by_cases hk0 : kd = 0
          · have t0 : (kd == 0) = true := by simp [hk0]
            clear hk0
            go_wp2_with fail
            refine Hal.out.mono ?_
            rintro e w5 (⟨j, S5, bl5, us5, fr5, rfl, hj, hlv, hfn, ha5, hs5, hl5, hf5⟩ | ⟨rfl, hfull, rfl⟩)
            · have i1 : decide ((live : Int) < (room : Int)) = true := by simp; omega
              have i2 : decide ((j : Int) < 0) = false := by simp
              have i3 : decide ((room : Int) ≤ (j : Int)) = false := by simp; omega
              have hm5 := HA4.out.am.step hs5
              have Hfi := hide (find_calls Bl l dl (j : Int) _ w5 hdl2 (by rw [← HlL.out]; exact hdl1) hm5.row.rd)
              rw [hfn, ← HlL.out] at Hfi
              have Hm5 := hide hm5
              have Hst := hide (And.intro ha5 (And.intro hl5 hf5))
              have hmk := make_bytes n (by omega) w5
              clear hm5 ha5 hl5 hf5 hs5 hfn
              go_wp2_with fail
              refine Hfi.out.mono ?_
              rintro _ w6 ⟨rfl, rfl⟩
              have Hwr := hide (Wr.made w5 n)
              obtain ⟨o0, ho0⟩ : ∃ o0 : Obj, o0 = .cells (madeCells #[.int .u8 0] n) 5 := ⟨_, rfl⟩
              obtain ⟨o1, ho1⟩ : ∃ o1 : Obj, o1 = .cells #[.int .i64 (j : Int), .slice (some ⟨w5.heap.size, 0, none⟩) n n] 53 := ⟨_, rfl⟩
              rw [← ho0] at Hwr hmk
              have hS5 := hide Hst.out.1.ar.lt
              have hb51 := hide (balloc w5 o0)
              have hs51 := hide (show (w5.alloc o0).heap.size = w5.heap.size + 1 by simp)
              have hb52 := hide ((balloc w5 o0).alloc (Nat.le_of_lt (by simp)) o1)
              have hor : ORow kBlk (fun z => Sl z ∨ z = w5.heap.size) ((w5.alloc o0).alloc o1) 53 (.slice Bl live dl) l :=
                orow_mono (Hm5.out.row.keep (w' := (w5.alloc o0).alloc o1) fun z hz => hb52.out.block z (hz.elim (fun hz => (Hm5.out.sl z hz).2.2) fun hz => Hm5.out.row.lt hz)) fun z hz => .inl hz
              have Hor := hide hor
              have hel : kBlk.R (fun z => Sl z ∨ z = w5.heap.size) ((w5.alloc o0).alloc o1) ((j : Int), zs n) [.int .i64 (j : Int), .slice (some ⟨w5.heap.size, 0, none⟩) n n] :=
                blk_made (by omega) (by omega) (Hwr.out.rd.keep (w' := (w5.alloc o0).alloc o1) fun z hz => (balloc (w5.alloc o0) o1).block z (by rw [hz, hs51.out]; omega)) fun z hz => .inr hz
              have Hel := hide hel
              have Happ := hide (Hm5.out.app (o0 := o0) (o1 := o1) (o2 := .cells #[.int .i64 (j : Int)] 3) (Hst.out.1.bel.size) Hst.out.1.ar.lt (j : Int) ((j : Int), zs n))
              have Hnew := hide (show ((w5.alloc o0).alloc o1).heap[w5.heap.size + 1]? = some o1 by have := heap_alloc_new (w5.alloc o0) o1; rwa [hs51.out] at this)
              have Hle := hide (show E.length ≤ 1000 by have := HE.out; omega)
              subst ho1
              clear ho0 hor hel hb51 hb52
              go_wp2_with (at_builtin; with_reducible refine wp_push 86 rfl rfl (.tmp 80) (.tmp 85) 46 rfl Try.underlying46 infoBlk ?_ (S := fun z => Sl z ∨ z = w5.heap.size) (xs := l) ?_ Hor.out (g := w5.heap.size + 1) (y := ((j : Int), zs n)) (cs := [.int .i64 (j : Int), .slice (some ⟨w5.heap.size, 0, none⟩) n n]) ?_ Hnew.out Hel.out ?_ ?_ ?_ ?_ ?_)
              case refine_1 => rfl
              case refine_2 => rfl
              case refine_3 => rfl
              case refine_4 => intro u hu; simp at hu; rcases hu with rfl | rfl <;> rfl
              case refine_5 => have := HlL.out; omega
              case refine_6 => have := HlL.out; unfold maxLen; omega
              case refine_7 => exact fun z hz => ⟨by
                have := hs51.out
                rcases hz with hz | hz
                · have := (Hm5.out.sl z hz).2.2; simp; omega
                · simp; omega, fun e => by
                rcases hz with hz | hz
                · exact (Hm5.out.ol z e.symm).2.2 hz
                · have := Hm5.out.ltl e.symm; omega⟩
              case refine_8 =>
              intro v6 w6 hr6 g6 o6
              obtain ⟨A6, c6, rfl, -, -⟩ := hr6.shape
              have Hap6 := hide (Happ.out _ w6 hr6 g6 o6)
              have hr7 := hide (Hm5.out.ev.keep (w' := w6.alloc (.cells #[.int .i64 (j : Int)] 3)) fun z hz => by
                have hzl := Hm5.out.lte hz
                have hs6 := g6.size
                have e2 : ((w5.alloc o0).alloc (.cells #[.int .i64 (j : Int), .slice (some ⟨w5.heap.size, 0, none⟩) n n] 53)).heap.size = w5.heap.size + 2 := by simp
                exact ((balloc w6 _).block z (by omega)).trans ((g6.block z (by omega) fun e => (Hm5.out.oe z hz).2.2.2 e.symm).trans (((balloc w5 o0).alloc (Nat.le_of_lt (by simp)) _).block z hzl)))
              have s7 := hide (Src.lit1 w6 (.int .i64 (j : Int)) 3)
              have hEm := hide (show (E.map fun x : Int => Value.int .i64 x).length = E.length from List.length_map _)
              clear hr6 g6 o6
              go_wp2_with (at_builtin; with_reducible refine wp_app 90 rfl rfl (.tmp 87) (.tmp 89) 37 rfl Try.underlying37 infoI ?_ (us := E.map fun x => .int .i64 x) ?_ hr7.out (A := some ⟨w6.heap.size, 0, none⟩) (c := 1) (news := [.int .i64 (j : Int)]) ?_ s7.out ?_ ?_ ?_ ?_)
              case refine_1 => rfl
              case refine_2 => rfl
              case refine_3 => rfl
              case refine_4 => intro u hu; simp at hu; subst hu; rfl
              case refine_5 => have := Hle.out; rw [hEm.out, List.length_singleton]; omega
              case refine_6 => have := Hle.out; rw [hEm.out, List.length_singleton]; unfold maxLen; omega
              case refine_7 =>
              intro v8 w8 hr8 g8 o8
              have Hap8 := hide (Hap6.out v8 w8 hr8 g8 o8)
              clear hr8 g8 o8
              go_wp2_with fail
              go_meet
              case rel =>
                obtain ⟨e1, T, e2, e3, e4⟩ := Hap8.out
                rw [List.length_append, List.length_singleton] at e1
                obtain ⟨e5, e6, e7⟩ := Hst.out
                have := HE.out
                exact ⟨true, S5, _, bl5, us5, fr5, live + 1, l ++ [((j : Int), zs n)], E ++ [(j : Int)], rfl, rfl, by rw [List.length_append, List.length_singleton]; omega, e5.keep e2 e3 e4, e1, e6, e7, by rw [List.length_append, List.length_singleton, ← HlL.out]⟩
            · have i1 : decide ((live : Int) < (room : Int)) = false := by simp; omega
              have Hful := hide hfull
              clear hfull
              go_wp2_with fail
              go_meet
              case rel =>
                have := HE.out
                exact ⟨false, S, Sl, bl, us, fr, live, l, E, rfl, congrArg Value.bool (decide_eq_false (by have := Hful.out; omega)), by omega, by rw [hpk.out]; exact HA4.out⟩
          · have t0 : (kd == 0) = false := by simp [hk0]
            clear hk0 Hal
            by_cases hk1 : kd = 1
            · have t1 : (kd == 1) = true := by simp [hk1]
              clear hk1
              have Hfr := hide (free_do HA4.out i0 (by omega))
              have Hfi := hide (find_calls Bl l dl i0 _ w4 hdl2 (by rw [← HlL.out]; exact hdl1) HA4.out.am.row.rd)
              rw [← HlL.out] at Hfi
              obtain ⟨bf, hbf⟩ : ∃ bf, bf = decide (0 ≤ findB l i0) := ⟨_, rfl⟩
              obtain ⟨fi, hfi⟩ : ∃ fi, fi = findB l i0 := ⟨_, rfl⟩
              rw [← hbf] at Hfr
              rw [← hfi] at Hfi hbf
              have hbf' := hbf.symm
              clear hfi hbf
              go_wp2_with fail
              refine Hfi.out.mono ?_
              rintro _ w6 ⟨rfl, rfl⟩
              go_wp2_with fail
              refine Hfr.out.mono ?_
              rintro _ w5 ⟨S5, us5, fr5, live5, rfl, ha5, hs5, hl5, hf5, hlen5⟩
              have Hm5 := hide (HA4.out.am.step hs5)
              have Hdr := hide (drop_calls Bl l dl i0 (fun z => Sl z ∨ (Value.slice Bl live dl).ownBlock = some z) w5 hdl2 (by rw [← HlL.out]; exact hdl1) (by rw [← HlL.out]; omega) Hm5.out.row.rd (fun z hz => hz.elim (fun hz => (Hm5.out.sl z hz).2.2) fun hz => Hm5.out.ltl hz))
              rw [← HlL.out] at Hdr
              have Hst := hide (And.intro ha5 (And.intro hl5 (And.intro hf5 hlen5)))
              clear ha5 hs5 hl5 hf5 hlen5
              go_wp2_with fail
              refine Hdr.out.mono ?_
              rintro _ w7 ⟨v7, rfl, hd7⟩
              have Hd7 := hide hd7
              clear hd7
              go_wp2_with fail
              go_meet
              case rel =>
                obtain ⟨e1, e2, e3, e4⟩ := Hst.out
                have := HE.out
                have h9 := e3.pk
                exact ⟨bf, S5, _, bl, us5, fr5, live5, dropB l i0, E, rfl, rfl, by omega, by rw [show max peak live5 = peak by omega]; exact e1.below Hd7.out.bel, Hm5.out.drop2 e1.bel.size e1.ar.lt Hd7.out, e2, by rw [show max peak live5 = peak by omega]; exact e3, e4⟩
            · have t1 : (kd == 1) = false := by simp [hk1]
              clear hk1
              have hxw : RdL Kd.byte (· < w.heap.size) w4 Bx xb := Hx.out.keep fun z hz => by
                have h9 := Hb.out.size
                have h10 := Hb4.out.size
                exact (Hb4.out.block z (by have := Hbd.out; have := Hqe.out; omega)).trans (Hb34.out.block z (by omega))
              have Hxw := hide hxw
              clear hxw
              by_cases hk2 : kd = 2
              · have t2 : (kd == 2) = true := by simp [hk2]
                clear hk2
                have Hrp := hide (refput_do HA4.out i0 Hxw.out Hln.out hxc hcm (fun z hz => by have := Hb.out.size; have := Hb34.out.size; have := Hb4.out.size; omega) (by omega) (by omega) (by omega))
                have hap := fun (y : World) (hy : Below w4.heap.size w4 y) => aput_do (HA4.out.al.below hy) HA4.out.li i0 (Hxw.out.keep (w' := y) fun z hz => hy.block z (by have := Hb.out.size; have := Hb34.out.size; have := Hb4.out.size; omega)) Hln.out hxc hcm (fun z hz => ⟨by have := Hb.out.size; have := Hb34.out.size; have := Hb4.out.size; have := hy.size; omega, fun hs => by have := HA4.out.al.ge z hs; have := Hb1.out.size; omega⟩) (by omega)
                obtain ⟨pb, hpb⟩ : ∃ pb, pb = putB l i0 xb := ⟨_, rfl⟩
                rw [← hpb] at Hrp hap
                have Hap := hide hap
                clear hap hpb
                go_wp2_with fail
                refine Hrp.out.mono ?_
                rintro _ w5 ⟨v5, Sl5, rfl, hm5, hb5⟩
                have d45 : w5.cell? ⟨q, 4, none⟩ = some (.slice Bx ln c) := (hb5.cell (World.block_lt_of_cell? _ _ d4)).trans d4
                have Hap5 := hide (Hap.out w5 hb5)
                have Hm5 := hide hm5
                clear hm5 hb5
                go_wp2_with fail
                refine Hap5.out.mono ?_
                rintro _ w6 ⟨bl6, rfl, ha6, hs6, hl6⟩
                have Hst := hide (And.intro ha6 (And.intro hs6 hl6))
                clear ha6 hs6 hl6
                go_wp2_with fail
                go_meet
                case rel =>
                  obtain ⟨e1, e2, e3⟩ := Hst.out
                  have := HE.out
                  exact ⟨pb, S, Sl5, bl6, us, fr, live, putL l i0 xb, E, rfl, rfl, by omega, by rw [hpk.out]; exact e1, Hm5.out.step e2, e3, by rw [hpk.out]; exact HA4.out.fi, by rw [putL_len]; exact HlL.out.symm⟩
              · have t2 : (kd == 2) = false := by simp [hk2]
                clear hk2
                by_cases hk3 : kd = 3
                · have t3 : (kd == 3) = true := by simp [hk3]
                  clear hk3
                  have Hfi := hide (find_calls Bl l dl k0 _ w4 hdl2 (by rw [← HlL.out]; exact hdl1) HA4.out.am.row.rd)
                  rw [← HlL.out] at Hfi
                  have hon := fun (y : World) (hy : Below w4.heap.size w4 y) => onto_do (HA4.out.al.below hy) HA4.out.li i0 k0 (by omega)
                  have Hon := hide hon
                  clear hon
                  by_cases hik : i0 ≠ k0 ∧ 0 ≤ findB l k0
                  · obtain ⟨hne, hge⟩ := hik
                    obtain ⟨f, hf, hfe, -⟩ : ∃ (f : Nat) (hf : f < l.length), findB l k0 = (f : Int) ∧ l[f].1 = k0 := by
                      rcases findB_cases l k0 with ⟨h9, -⟩ | h9
                      · rw [h9] at hge; omega
                      · exact h9
                    rw [hfe] at Hfi
                    have hlen := HA4.out.lens hf
                    obtain ⟨b2, off2, Bx2, c2, rfl, hsb2, -, hcy, g2, g3, hrd, -⟩ := blk_at HA4.out.am.row.rd hf
                    have hon5 := fun (y : World) (hy : Below w4.heap.size w4 y) => onto_here (Hon.out y hy) hne hf hfe
                    obtain ⟨x2, hx2⟩ : ∃ x2, x2 = l[f].2 := ⟨_, rfl⟩
                    rw [← hx2] at hlen hcy g2 hrd hon5
                    obtain ⟨pb, hpb⟩ : ∃ pb, pb = putB l i0 x2 := ⟨_, rfl⟩
                    have hrp := refput_do HA4.out i0 hrd rfl g2 g3 (fun z hz => hz.elim (fun hz => (HA4.out.am.sl z hz).2.2) fun hz => HA4.out.am.ltl hz) (by omega) (by omega) (by omega)
                    rw [← hpb] at hon5 hrp
                    have hfl : f < live := by rw [HlL.out]; exact hf
                    have n1 : (i0 != k0) = true := by simp [hne]
                    have n2 : decide ((0 : Int) ≤ (f : Int)) = true := by simp
                    have n3 : (0 : Int) ≤ (f : Int) := by omega
                    have n4 : (f : Int) < (live : Int) := by omega
                    rw [hlen] at hcy hrp
                    have Hon5 := hide hon5
                    have Hrp := hide hrp
                    clear hon5 hrp hpb hx2 hrd hsb2 hlen hfe hge hne g2 Hon
                    go_wp2_with fail
                    refine Hfi.out.mono ?_
                    rintro _ w6 ⟨rfl, rfl⟩
                    go_wp2_with fail
                    refine Hrp.out.mono ?_
                    rintro _ w5 ⟨v5, Sl5, rfl, hm5, hb5⟩
                    have Hap5 := hide (Hon5.out w5 hb5)
                    have Hm5 := hide hm5
                    clear hm5 hb5
                    go_wp2_with fail
                    refine Hap5.out.mono ?_
                    rintro _ w6 ⟨bl6, rfl, ha6, hs6, hl6⟩
                    have Hst := hide (And.intro ha6 (And.intro hs6 hl6))
                    clear ha6 hs6 hl6
                    go_wp2_with fail
                    go_meet
                    case rel =>
                      obtain ⟨e1, e2, e3⟩ := Hst.out
                      have := HE.out
                      exact ⟨pb, S, Sl5, bl6, us, fr, live, putL l i0 x2, E, rfl, rfl, by omega, by rw [hpk.out]; exact e1, Hm5.out.step e2, e3, by rw [hpk.out]; exact HA4.out.fi, by rw [putL_len]; exact HlL.out.symm⟩
                  · have hon4 : Calls Try.prog 33 #[.pointer (some ⟨w1.heap.size, 0, none⟩), .int .i64 i0, .int .i64 k0] w4 fun e w' => ∃ bl', e = .returned (.bool false) ∧ AL w1 w' S w1.heap.size n room bl' us fr live peak ∧ Step S S w4 w' ∧ LI l bl' us := onto_not (Hon.out w4 (Below.refl _ _)) hik
                    have Hon4 := hide hon4
                    obtain ⟨fk, hfk⟩ : ∃ fk, fk = findB l k0 := ⟨_, rfl⟩
                    rw [← hfk] at Hfi hik
                    clear hon4 Hon hfk
                    by_cases hne : i0 = k0
                    · have n1 : (i0 != k0) = false := by simp [hne]
                      clear hne hik
                      go_wp2_with fail
                      refine Hfi.out.mono ?_
                      rintro _ w6 ⟨rfl, rfl⟩
                      go_wp2_with fail
                      refine Hon4.out.mono ?_
                      rintro _ w6 ⟨bl6, rfl, ha6, hs6, hl6⟩
                      have Hst := hide (And.intro ha6 (And.intro hs6 hl6))
                      clear ha6 hs6 hl6
                      go_wp2_with fail
                      go_meet
                      case rel =>
                        obtain ⟨e1, e2, e3⟩ := Hst.out
                        have := HE.out
                        exact ⟨false, S, Sl, bl6, us, fr, live, l, E, rfl, rfl, by omega, by rw [hpk.out]; exact e1, HA4.out.am.step e2, e3, by rw [hpk.out]; exact HA4.out.fi, HlL.out.symm⟩
                    · have n1 : (i0 != k0) = true := by simp [hne]
                      have n2 : decide ((0 : Int) ≤ fk) = false := by simp; exact Int.not_le.1 fun h => hik ⟨hne, h⟩
                      clear hne hik
                      go_wp2_with fail
                      refine Hfi.out.mono ?_
                      rintro _ w6 ⟨rfl, rfl⟩
                      go_wp2_with fail
                      refine Hon4.out.mono ?_
                      rintro _ w6 ⟨bl6, rfl, ha6, hs6, hl6⟩
                      have Hst := hide (And.intro ha6 (And.intro hs6 hl6))
                      clear ha6 hs6 hl6
                      go_wp2_with fail
                      go_meet
                      case rel =>
                        obtain ⟨e1, e2, e3⟩ := Hst.out
                        have := HE.out
                        exact ⟨false, S, Sl, bl6, us, fr, live, l, E, rfl, rfl, by omega, by rw [hpk.out]; exact e1, HA4.out.am.step e2, e3, by rw [hpk.out]; exact HA4.out.fi, HlL.out.symm⟩
                · have t3 : (kd == 3) = false := by simp [hk3]
                  clear hk3
                  go_wp2_with fail
                  go_meet
                  case rel =>
                    have := HE.out
                    exact ⟨true, S, Sl, bl, us, fr, live, l, E, rfl, rfl, by omega, by rw [hpk.out]; exact HA4.out⟩
        case rest =>
          obtain ⟨bb, S9, Sl9, bl9, us9, fr9, live9, l9, E9, rfl, rfl, hE9, hA9⟩ := hcut
          obtain ⟨Bl9, dl9, rfl, g1, g2⟩ := hA9.am.row.shape
          obtain ⟨g3, g4, g5, g6, g7⟩ := hA9.caps
          have hl9 := hA9.ll.symm
          rw [← hl9] at hA9 g1 ⊢
          obtain ⟨pk, hpk9⟩ : ∃ pk, pk = max peak live9 := ⟨_, rfl⟩
          have hmx := fun (w : World) ts t => run_maxn Try.prog w ts t peak live9
          rw [← hpk9] at hA9 hmx
          have Hpk9 := hide (show pk ≤ room by have := Hpr.out; omega)
          have b1 : (bb != bb) = false := by simp
          have b2 : ((live9 : Int) != (live9 : Int)) = false := by simp
          have b3 : ((pk : Int) != (pk : Int)) = false := by simp
          have Hlv := hide (as_live hA9.al.ar)
          have Hpk := hide (as_peak hA9.al.ar)
          have hT9 : ∀ z, (Sl9 z ∨ (Value.slice Bl9 live9 dl9).ownBlock = some z) → z < wc.heap.size := fun z hz => hz.elim (fun hz => (hA9.am.sl z hz).2.2) fun hz => hA9.am.ltl hz
          have hsm := same_calls Bl9 l9 dl9 room hA9.al (by omega) (by omega) g2 (by rw [← hl9]; exact g1) hA9.am.row.rd hT9 (hA9.li.agree room)
          have hfi := fun (y : World) (hy : Below wc.heap.size wc y) => find_calls Bl9 l9 dl9 i0 _ y g2 (by rw [← hl9]; exact g1) (hA9.am.row.rd.keep (w' := y) fun z hz => hy.block z (hT9 z hz))
          rw [← hl9] at hsm hfi
          have Hsm := hide hsm
          have Hfi := hide hfi
          have HA9 := hide hA9
          have HE9 := hide hE9
          have Hl9 := hide hl9
          have HT9 := hide hT9
          clear hsm hfi hA9 hE9 hl9 hT9 g3 g4 g5 g6 g7 hpk9 HA4 HlL h3 hdl1 Hx
          replace hmx := hmx wc
          go_wp2_with fail
          refine Hlv.out.mono ?_
          rintro _ w9 ⟨rfl, rfl⟩
          go_wp2_with fail
          refine Hpk.out.mono ?_
          rintro _ w9 ⟨rfl, rfl⟩
          go_wp2_with fail
          refine Hsm.out.mono ?_
          rintro _ w9 ⟨rfl, hb9⟩
          have Hb9 := hide hb9
          clear hb9
          have hfi9 := Hfi.out w9 Hb9.out
          have HA10 := hide (HA9.out.below Hb9.out)
          rcases HA9.out.li.find i0 with ⟨h6, h7, -⟩ | ⟨f, hf, kk, h6, -, -, h7, -, h8⟩
          · rw [h6] at hfi9
            have hha := as_has i0 HA10.out.al.ar
            have hze := as_zero i0 HA10.out.al.ar (by omega)
            rw [h7] at hha hze
            rw [Bool.false_and] at hze
            have Hfi9 := hide hfi9
            have Hha := hide hha
            have Hze := hide hze
            clear hfi9 hha hze h6 h7
            go_wp2_with fail
            refine Hfi9.out.mono ?_
            rintro _ w10 ⟨rfl, rfl⟩
            go_wp2_with fail
            refine Hha.out.mono ?_
            rintro _ w10 ⟨rfl, rfl⟩
            go_wp2_with fail
            refine Hze.out.mono ?_
            rintro _ w10 ⟨rfl, rfl⟩
            go_wp2_with fail
            exact ⟨⟨k + 1, S9, Sl9, bl9, us9, fr9, live9, pk, l9, E9, by omega, by rw [Int.natCast_succ], rfl, HE9.out, Hpk9.out, HA10.out⟩, by simp only [intOf]; omega⟩
          · rw [h6] at hfi9
            have hha := as_has i0 HA10.out.al.ar
            have hze := as_zero i0 HA10.out.al.ar (by omega)
            rw [h7] at hha hze
            rw [Bool.true_and, h8] at hze
            have hlen := HA10.out.lens hf
            obtain ⟨b2, off2, Bx2, c2, rfl, hsb2, -, hcy, g2, g3, hrd, -⟩ := blk_at HA10.out.am.row.rd hf
            have hrz := refzero_calls Bx2 l9[f].2 c2 _ w9 g3 g2 hrd
            obtain ⟨zb, hzb⟩ : ∃ zb, zb = zeroB l9[f].2 := ⟨_, rfl⟩
            rw [← hzb] at hze hrz
            rw [hlen] at hcy hrz
            have hfl : f < live9 := by rw [Hl9.out]; exact hf
            have n2 : decide ((0 : Int) ≤ (f : Int)) = true := by simp
            have n3 : (0 : Int) ≤ (f : Int) := by omega
            have n4 : (f : Int) < (live9 : Int) := by omega
            have n5 : (zb != zb) = false := by simp
            have Hfi9 := hide hfi9
            have Hha := hide hha
            have Hze := hide hze
            have Hrz := hide hrz
            clear hfi9 hha hze hrz h6 h7 h8 hzb hlen hrd hsb2 g2
            go_wp2_with fail
            refine Hfi9.out.mono ?_
            rintro _ w10 ⟨rfl, rfl⟩
            go_wp2_with fail
            refine Hha.out.mono ?_
            rintro _ w10 ⟨rfl, rfl⟩
            go_wp2_with fail
            refine Hze.out.mono ?_
            rintro _ w10 ⟨rfl, rfl⟩
            go_wp2_with fail
            refine Hrz.out.mono ?_
            rintro _ w10 ⟨rfl, rfl⟩
            go_wp2_with fail
            exact ⟨⟨k + 1, S9, Sl9, bl9, us9, fr9, live9, pk, l9, E9, by omega, by rw [Int.natCast_succ], rfl, HE9.out, Hpk9.out, HA10.out⟩, by simp only [intOf]; omega⟩
    · obtain rfl : k = L := by omega
      have Hsz := hide (as_size HA.out.al.ar)
      go_wp2_with fail
      refine Hsz.out.mono ?_
      rintro _ w9 ⟨rfl, rfl⟩
      go_wp2_with fail
      exact hR.out _ _ ⟨rfl, Hb.out⟩
end Go.Proofs.Ythcbjhmckbfkmaa
