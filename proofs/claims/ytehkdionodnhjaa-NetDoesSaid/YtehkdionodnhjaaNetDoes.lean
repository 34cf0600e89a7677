/- NetDoes, walked. -/
import Derived.Test.YtehkdionodnhjaaNet8
import Derived.Test.YtehkdionodnhjaaNetKeeps
set_option linter.unusedVariables false
set_option linter.unusedSimpArgs false
namespace Go.Proofs.Ytehkdionodnhjaa
open Go.RowKit

/-- Frames' blocks are not the row's own. -/
theorem OR.sep {w : World} {T : Nat → Prop} {e : TypeId} {v : Value} {us : List Value} {xs : List (List UInt8)} (h : OR Kd.ow T w e v us xs) : OR Kd.ow (fun z => T z ∧ v.ownBlock ≠ some z) w e v us xs := by
  refine ⟨h.row, h.len, fun i u x hu hx => ?_⟩
  obtain ⟨A, c, e1, h1, h2, h3⟩ := h.el i u x hu hx
  refine ⟨A, c, e1, h1, h2, fun hp => ?_⟩
  obtain ⟨g, post, t, ha, hT, hh⟩ := h3 hp
  refine ⟨g, post, t, ha, ⟨hT, fun ho => ?_⟩, hh⟩
  have hul : 0 < us.length := by have := (List.getElem?_eq_some_iff.1 hu).1; omega
  have hc0 := World.ownsRow.cells h.row ho 0 us[0] (List.getElem?_eq_getElem hul)
  have hc1 : w.cell? ⟨g, 0, none⟩ = some (encB x[0]) := by
    rw [cell_of_row w g 0 _ _ (0, 0) hh, List.getElem?_toArray, List.getElem?_append_left (by simpa using hp), List.getElem?_map, List.getElem?_eq_getElem hp]; rfl
  obtain ⟨A0, c0, e0, -⟩ := h.el 0 us[0] (xs[0]'(by rw [← h.len]; exact hul)) (List.getElem?_eq_getElem hul) (List.getElem?_eq_getElem (by rw [← h.len]; exact hul))
  injection e0 with e0
  have : (⟨g, 0, none⟩ : Addr).add 0 = ⟨g, 0, none⟩ := rfl
  rw [this, hc1, e0] at hc0
  injection hc0 with hc0
  cases hc0
/-- All frames of a row can be written; only their blocks change. -/
def PW (T : Nat → Prop) (us : List Value) (xs : List (List UInt8)) (w wr : World) : Prop := Ch T w wr ∧ ∀ (i : Nat) (u : Value) (x : List UInt8), us[i]? = some u → xs[i]? = some x → WB T wr u x.length
theorem PW.set {T : Nat → Prop} {us : List Value} {xs : List (List UInt8)} {w wr : World} (h : PW T us xs w wr) {g : Nat} (hg : T g) (j : Nat) (y : UInt8) : PW T us xs w (wr.setCell ⟨g, j, none⟩ (.int .u8 (y.toNat : Int))) :=
  ⟨h.1.trans (Ch.set wr ⟨g, j, none⟩ _) fun b hb => .inl (by simp at hb; subst hb; exact hg), fun i u x hu hx => (h.2 i u x hu hx).set g j y⟩
theorem OR.pw {T : Nat → Prop} {us : List Value} {xs : List (List UInt8)} {w : World} {e : TypeId} {v : Value} (h : OR Kd.ow T w e v us xs) : PW T us xs w w := ⟨Ch.refl w, fun i u x hu hx => Kd.ow_wb (h.el i u x hu hx)⟩
theorem RdL.below' {B : Nat} {w w' : World} {A : Option Addr} {xs : List UInt8} (h : RdL Kd.byte (· < B) w A xs) (hb : Below w.heap.size w w') (hB : B ≤ w.heap.size) : RdL Kd.byte (· < B) w' A xs := h.keep fun k hk => hb.block k (Nat.lt_of_lt_of_le hk hB)
theorem rd_lt {S : Nat → Prop} {w w' : World} {A : Option Addr} {xs : List UInt8} (h : RdL Kd.byte S w A xs) (hS : ∀ k, S k → k < w'.heap.size) : RdL Kd.byte (· < w'.heap.size) w A xs := h.mono hS
theorem doL_len (hs : List (List UInt8)) (kind pt : Int) (m : UInt32) (bs fr : List UInt8) : (doL hs kind pt m bs fr).1.length ≤ hs.length + 1 ∧ (doL hs kind pt m bs fr).2.length ≤ hs.length + 2 := by
  unfold doL
  split
  · simp
  split
  · simp
  split
  · simp
  split
  · simp
  split
  · simp
  split
  · simp
  split <;> simp
theorem doL_fr (hs : List (List UInt8)) (kind pt : Int) (m : UInt32) (bs fr : List UInt8) (hh : ∀ x ∈ hs, x.length ≤ 200) (hb : bs.length ≤ 200) (hf : fr.length ≤ 200) : (∀ x ∈ (doL hs kind pt m bs fr).1, x.length ≤ 200) ∧ ∀ x ∈ (doL hs kind pt m bs fr).2, x.length ≤ 200 := by
  unfold doL
  split
  · exact ⟨hh, fun x hx => by simp at hx⟩
  split
  · exact ⟨hh, fun x hx => by simp at hx; rw [hx]; exact hf⟩
  split
  · refine ⟨fun x hx => ?_, fun x hx => by simp at hx⟩
    simp at hx
    rcases hx with hx | rfl
    · exact hh x hx
    · exact hf
  split
  · refine ⟨fun x hx => by simp at hx, fun x hx => ?_⟩
    simp at hx
    rcases hx with rfl | hx
    · exact hf
    · exact hh x hx
  split
  · exact ⟨hh, fun x hx => by simp at hx; rw [hx, List.length_take]; omega⟩
  split
  · exact ⟨hh, fun x hx => by simp at hx; rw [hx, flipL_len]; exact hf⟩
  split
  · refine ⟨hh, fun x hx => ?_⟩
    simp at hx
    rcases hx with rfl | rfl
    · exact hb
    · exact hf
  · exact ⟨hh, fun x hx => by simp at hx; rw [hx]; exact hf⟩
theorem plus_str {str : ByteArray} {fr : List UInt8} {n : Nat} {S : Nat → Prop} {w : World} {A : Option Addr} {c : Nat} (hs : str = bstr (incL fr)) (hn : (incL fr).length = n) (h : RdL Kd.byte S w A (incL fr)) : (convert 57 9 (.slice A n c)).run Try.prog w = .ok (.string str) w := by
  rw [hs, ← hn]
  exact run_str Try.underlying57 Try.underlying5 Try.underlying9 h.srcB c
theorem own_str {str : ByteArray} {fr : List UInt8} {n : Nat} {w w' : World} {A : Option Addr} {g : Nat} {post : List Value} {e : TypeId} (hs : str = bstr (incL fr)) (hn : (incL fr).length = n) (h : Wr w A g [] post e (incL fr)) (hb : Below w.heap.size w w') (c : Nat) : (convert 57 9 (.slice A n c)).run Try.prog w' = .ok (.string str) w' := by
  have h' : Wr w' A g [] post e (incL fr) := fun hp => ⟨(h hp).1, (hb.block g (Array.getElem?_eq_some_iff.1 (h hp).2).1).trans (h hp).2⟩
  exact plus_str hs hn h'.rd
set_option maxHeartbeats 8000000 in
set_option maxRecDepth 100000 in
theorem Does24_calls (A : Option Addr) (acts : List OpT) (c : Nat) (B : Option Addr) (frs : List (List UInt8)) (d : Nat) (w : World) (hc : acts.length ≤ c) (hcm : c ≤ maxLen) (hf : RdL Kd.op (· < w.heap.size) w A acts) (hd : frs.length ≤ d) (hdm : d ≤ maxLen) (hB : RdL Kd.sb (· < w.heap.size) w B frs) :
    Calls Try.prog 8 #[.slice A acts.length c, .slice B frs.length d] w fun e w' => e = .returned (.bool true) ∧ Below w.heap.size w w' := by
  refine cps fun R hR => ?_
  have Hsp := hide (nspeaks w)
  have Hf := hide hf
  have HB := hide hB
  unfold maxLen at hcm hdm
  obtain ⟨N, hN⟩ : ∃ N, N = acts.length := ⟨_, rfl⟩
  obtain ⟨M, hM⟩ : ∃ M, M = frs.length := ⟨_, rfl⟩
  rw [← hN] at hc ⊢
  rw [← hM] at hd ⊢
  have HN := hide hN
  have HM := hide hM
  clear hN hf hM hB
  by_cases h60 : 60 < N
  · go_enter Try.func8, Try.ntmps8
    go_wp2_with fail
    refine Hsp.out.mono ?_
    rintro _ w1 ⟨rfl, hb1⟩
    go_wp2_with fail
    exact hR.out _ _ ⟨rfl, hb1⟩
  by_cases h60' : 60 < M
  · go_enter Try.func8, Try.ntmps8
    go_wp2_with fail
    refine Hsp.out.mono ?_
    rintro _ w1 ⟨rfl, hb1⟩
    go_wp2_with fail
    exact hR.out _ _ ⟨rfl, hb1⟩
  go_enter Try.func8, Try.ntmps8
  go_wp2_with fail
  refine Hsp.out.mono ?_
  rintro _ w1 ⟨rfl, hb1⟩
  have hq1 := nl_new w w1 hb1
  obtain ⟨w2, hw2⟩ : ∃ w2, w2 = w1.alloc (.cells #[.slice none 0 0] 62) := ⟨_, rfl⟩
  rw [← hw2] at hq1
  obtain ⟨g, hg⟩ : ∃ g, g = w1.heap.size := ⟨_, rfl⟩
  rw [← hg] at hq1
  have HW2 := hide hw2
  have Hg := hide hg
  have Hq2 := hide hq1
  clear hw2 hq1 hb1 hg Hsp
  go_upto_region 6 with fail
  rw [← HW2.out, ← Hg.out]
  clear HW2 Hg
  go_wp2_with fail
  go_loopw [6, 30] (fun held i wr => ∃ (k : Nat) (S SH : Nat → Prop) (hs : List (List UInt8)) (Ah : Option Addr) (ch : Nat), k ≤ M ∧ i = .int .i64 (k : Int) ∧ held = .slice Ah hs.length ch ∧ hs.length ≤ ch ∧ ch ≤ maxLen ∧ NL w wr S g hs ∧ RdL Kd.sb SH wr Ah hs ∧ (∀ z, SH z → z < wr.heap.size ∧ ¬ S z) ∧ hs.length ≤ k ∧ (∀ x ∈ hs, x.length ≤ 200)) (fun _ i _ => M - (intOf i).toNat)
  case atStart => exact ⟨0, _, fun _ => False, [], none, 0, by omega, rfl, rfl, by simp, by unfold maxLen; omega, Hq2.out, RdL.nil, (fun z hz => hz.elim), by simp, (fun x hx => by cases hx)⟩
  case round =>
    obtain ⟨k, S, SH, hs, Ah, ch, hk, rfl, rfl, hch1, hch2, hq, hrh, hSH, hsl, hs200⟩ := hrel
    have Hq := hide hq
    have Hrh := hide hrh
    have HSH := hide hSH
    have Hch := hide (show hs.length ≤ ch ∧ ch ≤ maxLen from ⟨hch1, hch2⟩)
    have Hsl := hide hsl
    have Hs200 := hide hs200
    clear hq hrh hSH hch1 hch2 hs200
    by_cases hlt : k < M
    · have hkl : k < frs.length := by rw [← HM.out]; exact hlt
      obtain ⟨bx, off, u, rfl, hbx, hu, hcx⟩ := HB.out.at1 rfl hkl
      obtain ⟨Bf, cf, rfl, hcf, hcfm, hrf⟩ := Kd.sl_cell hu
      obtain ⟨fr, hfr⟩ : ∃ fr, fr = frs[k] := ⟨_, rfl⟩
      rw [← hfr] at hcx hcf hrf
      have hcr : wr.cell? ⟨bx, off + k, none⟩ = some (.slice Bf fr.length cf) := (Hq.out.bel.cell hbx).trans hcx
      have Hrf := hide hrf
      have Hcfm := hide hcfm
      obtain ⟨Fl, hFl⟩ : ∃ Fl, Fl = fr.length := ⟨_, rfl⟩
      rw [← hFl] at hcr hcf
      have HFl := hide hFl
      obtain ⟨q, hqq⟩ : ∃ q, q = wr.heap.size := ⟨_, rfl⟩
      obtain ⟨w5, hw5⟩ : ∃ w5, w5 = wr.alloc (opO 0 0 0 none 0 0) := ⟨_, rfl⟩
      have hb5 : Below wr.heap.size wr w5 := by rw [hw5]; exact balloc wr _
      have hh5 : w5.heap[q]? = some (opO 0 0 0 none 0 0) := by rw [hw5, hqq]; exact heap_alloc_new wr _
      have HW5 := hide hw5
      have Hb5 := hide hb5
      have Hh5 := hide hh5
      have Hqq := hide hqq
      clear hu hcx hfr hFl hrf hcfm hw5 hb5 hh5 hqq hkl
      go_upto_region 11 with fail
      have hopw : (Obj.cells #[Value.int .i64 0, .int .i64 0, .int .u32 0, .slice none 0 0] 59) = opO 0 0 0 none 0 0 := rfl
      rw [hopw, ← HW5.out, ← Hqq.out]
      clear HW5 hopw
      by_cases hkN : k < N
      · have hkl : k < acts.length := by rw [← HN.out]; exact hkN
        obtain ⟨bo, oo, Bo, dO, rfl, hbo, ⟨o0, o1, o2, o3⟩, wp, hlo, hco, hro⟩ := Hf.out.op hkl
        obtain ⟨kind, hkd⟩ : ∃ kind, kind = acts[k].1 := ⟨_, rfl⟩
        obtain ⟨pt, hpo⟩ : ∃ pt, pt = acts[k].2.1 := ⟨_, rfl⟩
        obtain ⟨m, hmo⟩ : ∃ m, m = acts[k].2.2.1 := ⟨_, rfl⟩
        obtain ⟨bs, hbso⟩ : ∃ bs, bs = acts[k].2.2.2 := ⟨_, rfl⟩
        rw [← hkd] at o0
        rw [← hpo] at o1 wp
        rw [← hmo] at o2
        rw [← hbso] at o3 hlo hro
        clear hkd hpo hmo hbso hkl
        have hB5 := below_t3 Hq.out.bel Hq.out.bel.size Hb5.out
        have q0 : w5.cell? ⟨bo, oo + k * 4, none⟩ = some (.int .i64 kind) := (hB5.cell hbo).trans o0
        have q1 : w5.cell? ⟨bo, oo + k * 4 + 1, none⟩ = some (.int .i64 pt) := (hB5.cell hbo).trans o1
        have q2 : w5.cell? ⟨bo, oo + k * 4 + 2, none⟩ = some (.int .u32 (m.toNat : Int)) := (hB5.cell hbo).trans o2
        have q3 : w5.cell? ⟨bo, oo + k * 4 + 3, none⟩ = some (.slice Bo bs.length dO) := (hB5.cell hbo).trans o3
        obtain ⟨z0, z1, z2, z3⟩ := opO_head Hh5.out
        have fz0 : w5.frozen? ⟨q, 0, none⟩ = false := by simp [World.frozen?, Hh5.out]
        have fz1 : w5.frozen? ⟨q, 1, none⟩ = false := by simp [World.frozen?, Hh5.out]
        have fz2 : w5.frozen? ⟨q, 2, none⟩ = false := by simp [World.frozen?, Hh5.out]
        have fz3 : w5.frozen? ⟨q, 3, none⟩ = false := by simp [World.frozen?, Hh5.out]
        have Hro := hide hro
        have Hwp := hide wp
        have Hlo := hide (show bs.length ≤ dO ∧ dO ≤ maxLen from ⟨hlo, hco⟩)
        clear hB5 hro wp hlo hco o0 o1 o2 o3
        go_upto_region 13 with fail
        obtain ⟨w6, hw6⟩ : ∃ w6, w6 = ((((w5.setCell ⟨q, 0, none⟩ (.int .i64 kind)).setCell ⟨q, 1, none⟩ (.int .i64 pt)).setCell ⟨q, 2, none⟩ (.int .u32 (m.toNat : Int))).setCell ⟨q, 3, none⟩ (.slice Bo bs.length dO)) := ⟨_, rfl⟩
        have Hh6 := hide (show w6.heap[q]? = some (opO kind pt m Bo bs.length dO) from hw6 ▸ op_store Hh5.out)
        have Hb6 := hide (show Below wr.heap.size wr w6 from by
          have h1 := Hb5.out
          have hq : wr.heap.size ≤ q := by have := Hqq.out; omega
          rw [hw6]
          exact (((h1.setCell (p := ⟨q, 0, none⟩) hq _).setCell (p := ⟨q, 1, none⟩) hq _).setCell (p := ⟨q, 2, none⟩) hq _).setCell (p := ⟨q, 3, none⟩) hq _)
        have Hbs := hide (Hro.out.below (below_t3 Hq.out.bel Hq.out.bel.size Hb6.out))
        rw [← hw6]
        clear hw6 q0 q1 q2 q3 z0 z1 z2 z3 fz0 fz1 fz2 fz3 Hro
        obtain ⟨z0, z1, z2, z3⟩ := opO_head Hh6.out
        have Hbw := hide (below_t3 Hq.out.bel Hq.out.bel.size Hb6.out)
        by_cases h200 : 200 < Fl
        · go_wp2_with fail
          exact hR.out _ _ ⟨rfl, Hbw.out⟩
        by_cases h200b : 200 < bs.length
        · go_wp2_with fail
          exact hR.out _ _ ⟨rfl, Hbw.out⟩
        have Hbl := hide (show bs.length ≤ 200 ∧ Fl ≤ 200 by omega)
        have hb0 := hide (balloc w6 (.cells #[] 5))
        have s1 := hide (((Hrf.out.below (below_t3 Hbw.out Hbw.out.size hb0.out))).srcB)
        have hle := hide (show (fr.map encB).length = Fl from by rw [List.length_map, HFl.out])
        clear z0 z1 z2
        go_wp2_with (at_builtin; with_reducible refine wp_app_lit 55 rfl rfl (.tmp 53) (.tmp 54) 57 rfl Try.underlying57 infoB ?_ (g := w6.heap.size) ?_ (A := Bf) (c := cf) (news := fr.map encB) ?_ ?_ ?_ ?_ ?_ ?_)
        all_goals first | rfl | exact s1.out | exact HFl.out | exact encB_one fr | exact fun (a : UInt8) _ => rfl | (rw [hle.out]; rfl) | (rw [hle.out]; omega) | (rw [hle.out]; unfold maxLen; omega) | (have := HFl.out; omega) | (have := HFl.out; unfold maxLen; omega) | skip
        intro v7 w7 hn
        obtain ⟨Ao, co, rfl, hk7, hb7'⟩ := hn.ow
        have hsz0 : w6.heap.size ≤ (w6.alloc (.cells #[] 5)).heap.size := by simp
        have hsz1 : (w6.alloc (.cells #[] 5)).heap.size = w6.heap.size + 1 := by simp
        have hb7 : Below w6.heap.size w6 w7 := below_t3 hb0.out hsz0 hb7'
        have hk7' : Kd.ow.R (fun z => w6.heap.size ≤ z ∧ z < w7.heap.size) w7 fr [.slice Ao fr.length co] := Kd.ow.mono (fun z hz => ⟨by have := hz.1; omega, hz.2⟩) hk7
        obtain ⟨hco, hcom, go, posto, eo, hwo, hgo, hgol⟩ := ow_wr hb7.size hk7'
        have Hgo := hide (show w6.heap.size ≤ go ∧ (0 < fr.length → go < w7.heap.size) from ⟨hgo, hgol⟩)
        have Hwo := hide hwo
        have Hco := hide (show fr.length ≤ co ∧ co ≤ maxLen from ⟨hco, hcom⟩)
        have Hb7 := hide hb7
        have Hbr7 := hide (below_t3 Hb6.out Hb6.out.size hb7)
        have Hbw7 := hide (below_t3 Hbw.out Hbw.out.size hb7)
        have hltw7 : ∀ z, z < w.heap.size → z < w7.heap.size := fun z hz => by have := Hbw7.out.size; omega
        have hq7 : w7.heap[q]? = some (opO kind pt m Bo bs.length dO) := (hb7.block q (Array.getElem?_eq_some_iff.1 Hh6.out).1).trans Hh6.out
        have hrd7 : RdL Kd.sb (fun z => SH z ∨ z < w.heap.size) w7 Ah hs := (Hrh.out.keep fun z hz => Hbr7.out.block z (HSH.out z hz).1).mono fun z hz => .inl hz
        have hSR7 : ∀ z, (SH z ∨ z < w.heap.size) → z < w7.heap.size := fun z hz => hz.elim (fun h => by have := (HSH.out z h).1; have := Hbr7.out.size; omega) (hltw7 z)
        have hBs7 := (Hbs.out.below' hb7 Hbw.out.size)
        have hrdo := rdo_calls kind pt m Ah hs ch Bo bs dO Bf fr cf (fun z => SH z ∨ z < w.heap.size) w7 (by have := Hsl.out; omega) Hch.out.1 Hch.out.2 Hlo.out.1 Hlo.out.2 (by have := HFl.out; omega) (by have := HFl.out; omega) Hcfm.out Hwp.out hSR7 hrd7 (hBs7.mono fun z hz => .inr hz) ((Hrf.out.below Hbw7.out).mono fun z hz => .inr hz)
        rw [← HFl.out] at hrdo
        have Hrdo := hide hrdo
        have Hq7 := hide hq7
        have HSR7 := hide hSR7
        have HBs7 := hide hBs7
        have hol := hide (show fr.length = Fl from HFl.out.symm)
        rw [hol.out]
        clear hn hk7 hk7' hb7' hsz0 hsz1 hwo hgo hgol hco hcom hb7 hltw7 hq7 hrd7 hSR7 hrdo hBs7 z3 s1 hb0 hle
        obtain ⟨z0, z1, z2, z3⟩ := opO_head Hq7.out
        go_wp2_with fail
        refine Hrdo.out.mono ?_
        rintro _ w8 ⟨A1, c1, A2, c2, rfl, hc11, hc12, hc21, hc22, hr1, hr2, hb8⟩
        have hq8 : w8.heap[q]? = some (opO kind pt m Bo bs.length dO) := (hb8.block q (Array.getElem?_eq_some_iff.1 Hq7.out).1).trans Hq7.out
        obtain ⟨hs', hhs'⟩ : ∃ hs', hs' = (doL hs kind pt m bs fr).1 := ⟨_, rfl⟩
        obtain ⟨xs, hxs⟩ : ∃ xs, xs = (doL hs kind pt m bs fr).2 := ⟨_, rfl⟩
        have hlens := doL_len hs kind pt m bs fr
        have hfrs := doL_fr hs kind pt m bs fr Hs200.out Hbl.out.1 (by have := hol.out; have := Hbl.out; omega)
        rw [← hhs'] at hc11 hr1 hlens hfrs ⊢
        rw [← hxs] at hc21 hr2 hlens hfrs ⊢
        have Hlens := hide hlens
        have Hfrs := hide hfrs
        have Hb78 := hide hb8
        have hbr8 := below_t3 Hbr7.out Hbr7.out.size hb8
        have hbw8 := below_t3 Hbw7.out Hbw7.out.size hb8
        have hwo8 : Wr w8 Ao go [] posto eo fr := fun hp => ⟨(Hwo.out hp).1, (hb8.block go (Hgo.out.2 hp)).trans (Hwo.out hp).2⟩
        have hown8 : RdL Kd.byte (fun z => z < w8.heap.size) w8 Ao fr := fun hp => (hwo8.rd.mono fun z hz => by rw [hz]; have := Hgo.out.2 hp; have := hb8.size; omega) hp
        have hdo := nl_do kind pt m Bo bs dO Ao fr co (fun z => z < w8.heap.size) w8 (Hq.out.below hbr8) (by have := hol.out; omega) (by have := Hsl.out; omega) (fun _ => by have := Hbl.out; omega) Hwp.out Hlo.out.1 Hlo.out.2 (by have := hol.out; have := Hco.out; omega) Hco.out.2 (fun z hz => hz) hown8 ((HBs7.out.below' hb8 (by have := Hbw7.out.size; omega)).mono fun z hz => by have := hbw8.size; show z < _; omega)
        rw [← hhs', ← hxs, hol.out] at hdo
        have Hdo := hide hdo
        have Hq8 := hide hq8
        have Hbr8 := hide hbr8
        have Hbw8 := hide hbw8
        have Hwo8 := hide hwo8
        have Hr1 := hide hr1
        have Hr2 := hide hr2
        have Hc1 := hide (show hs'.length ≤ c1 ∧ c1 ≤ maxLen from ⟨hc11, hc12⟩)
        have Hc2 := hide (show xs.length ≤ c2 ∧ c2 ≤ maxLen from ⟨hc21, hc22⟩)
        have hll : Hid (hs'.length ≤ k + 1 ∧ xs.length ≤ 100) := hide (by have := Hsl.out; have := hlens; omega)
        clear hhs' hxs hlens hfrs hb8 hbr8 hbw8 hwo8 hown8 hdo hq8 hr1 hr2 hc11 hc12 hc21 hc22 z0 z1 z2 z3 Hrdo Hwo
        obtain ⟨z0, z1, z2, z3⟩ := opO_head Hq8.out
        go_wp2_with fail
        refine Hdo.out.mono ?_
        rintro _ w9 ⟨A3, c3, us3, S', T, rfl, hq9, hfr9, hch9, hnew9, hout9⟩
        have hwS : ∀ z, z < w.heap.size → ¬ S z := fun z hz hs => by have := Hq.out.ge z hs; omega
        have hS6 : ∀ z, S z → z < wr.heap.size := Hq.out.ns.lt
        have hqS : ¬ S q := fun hs => by have := hS6 q hs; have := Hqq.out; omega
        have hq9' : w9.heap[q]? = some (opO kind pt m Bo bs.length dO) := (hch9.block q (Array.getElem?_eq_some_iff.1 Hq8.out).1 hqS).trans Hq8.out
        -- the document's rows, in w9
        have hSR : ∀ z, ((SH z ∨ z < w.heap.size) ∨ newB w7 w8 z) → z < w8.heap.size ∧ ¬ S z := fun z hz => by
          rcases hz with (hz | hz) | hz
          · exact ⟨by have := (HSH.out z hz).1; have := Hbr8.out.size; omega, (HSH.out z hz).2⟩
          · exact ⟨by have := Hbw8.out.size; omega, hwS z hz⟩
          · exact ⟨hz.2, fun hs => by have := hS6 z hs; have := hz.1; have := Hbr7.out.size; omega⟩
        have hr19 : RdL Kd.sb (fun z => (SH z ∨ z < w.heap.size) ∨ newB w7 w8 z) w9 A1 hs' := Hr1.out.keep fun z hz => hch9.block z (hSR z hz).1 (hSR z hz).2
        have hr29 : RdL Kd.sb (fun z => (SH z ∨ z < w.heap.size) ∨ newB w7 w8 z) w9 A2 xs := Hr2.out.keep fun z hz => hch9.block z (hSR z hz).1 (hSR z hz).2
        have hs9 := hch9.size
        have hgot9 : RdL Kd.sb (fun z => z < w9.heap.size) w9 A3 xs := (RdL.conv (d := Kd.ow) (d' := Kd.sb) (hfr9.row.rd rfl) rfl fun x cs h => Kd.ow_sl h).mono fun z hz => (hout9 z hz).2
        have hr29' : RdL Kd.sb (fun z => z < w9.heap.size) w9 A2 xs := hr29.mono fun z hz => by have := (hSR z hz).1; show z < _; omega
        have hsame : ∀ x : Later w9, Calls Try.prog 31 #[.slice A3 xs.length c3, .slice A2 xs.length c2] x.v fun e w' => e = .returned (.bool true) ∧ Below x.v.heap.size x.v w' := fun x => by
          have := same_calls A3 xs c3 A2 xs c2 x.v (by have := hll.out; omega) (by have := hll.out; omega) ((hgot9.below x.below).mono fun z hz => Nat.lt_of_lt_of_le hz x.below.size) ((hr29'.below x.below).mono fun z hz => Nat.lt_of_lt_of_le hz x.below.size)
          rwa [decide_eq_true (rfl : xs = xs)] at this
        have hS'g : ∀ z, S' z → S z ∨ w8.heap.size ≤ z := hnew9
        have hTg : ∀ z, (T z ∨ (Value.slice A3 xs.length c3).ownBlock = some z) → (S z ∨ w8.heap.size ≤ z) ∧ z < w9.heap.size := hout9
        have hwo9 : Wr w9 Ao go [] posto eo fr := fun hp => ⟨(Hwo8.out hp).1, (hch9.block go (by have := Hgo.out.2 hp; have := Hb78.out.size; omega) (fun hs => by have := hS6 go hs; have := Hgo.out.1; have := Hb6.out.size; omega)).trans (Hwo8.out hp).2⟩
        have Hsame := hide hsame
        have Hs9 := hide hs9
        have Hq9 := hide hq9
        have Hrow9 := hide hfr9.row
        have Hout9 := hide (show ∀ z, (T z ∨ (Value.slice A3 xs.length c3).ownBlock = some z) → ¬ S' z ∧ w.heap.size ≤ z from hfr9.out)
        have HS'g := hide hS'g
        have HTg := hide hTg
        have HSR := hide hSR
        have Hr19 := hide hr19
        have Hwo9 := hide hwo9
        have Hq9' := hide hq9'
        have HS6 := hide hS6
        clear hq9 hfr9 hch9 hnew9 hout9 hwS hS6 hqS hq9' hSR hr19 hr29 hs9 hgot9 hsame hS'g hTg hwo9 z0 z1 z2 z3 Hdo Hr1 Hr2
        obtain ⟨z0, z1, z2, z3⟩ := opO_head Hq9'.out
        have k0 := fun x : Later w9 => later_cell z0 x
        have k1 := fun x : Later w9 => later_cell z1 x
        have k2 := fun x : Later w9 => later_cell z2 x
        have k3 := fun x : Later w9 => later_cell z3 x
        clear z0 z1 z2 z3
        go_upto_region 19 with fail
        go_cut [96] from 74 to 96 (fun s96 wx => s96 = .bool false ∧ Below w9.heap.size w9 wx)
        case first =>
          obtain ⟨b5, hb5⟩ : ∃ b5, decide (kind < 5) = b5 := ⟨_, rfl⟩
          obtain ⟨b7, hb7⟩ : ∃ b7, decide (7 < kind) = b7 := ⟨_, rfl⟩
          have hhb : harmB kind = (b5 || b7) := by rw [← hb5, ← hb7]; rfl
          have hnn : ((hs'.length : Int) != (hs'.length : Int)) = false := by simp
          have hheld := hide fun x : Later w9 => held_calls (Hq9.out.ns.below x.below)
          have hharm : Hid (∀ x : World, Calls Try.prog 33 #[.agg #[.int .i64 kind, .int .i64 pt, .int .u32 (m.toNat : Int), .slice Bo bs.length dO]] x fun e w' => e = .returned (.bool (b5 || b7)) ∧ Below x.heap.size x w') := hide fun x => by
            have := harmless_calls kind pt m Bo bs.length dO x
            rwa [hhb] at this
          clear hhb
          cases b5 <;> cases b7
          all_goals
            simp only [Bool.or_false, Bool.or_true, Bool.false_or, Bool.true_or] at hharm
            refine wp_region_later (by kernel_rfl) (by kernel_rfl) ?_
            repeat (go_big_quiet_step ((first | (go_at_call 31; exact later_call (Hsame.out _)) | (go_at_call 32; exact later_same (hheld.out _)) | (go_at_call 33; exact later_call (hharm.out _)))))
            refine wpQuiet_nil ?_
            intro _ hw'
            obtain ⟨⟨w10, hb10⟩, rfl⟩ := hw'
            go_wp2_with fail
            go_meet
            exact ⟨rfl, hb10⟩
        case rest =>
        obtain ⟨rfl, hbc⟩ := hcut
        obtain ⟨w10, hw10⟩ : ∃ w10 : World, w10 = wc := ⟨_, rfl⟩
        rw [← hw10] at hbc ⊢
        clear hw10 k0 k1 k2 k3
        have hgl : 0 < fr.length → go < w9.heap.size := fun hp => (Array.getElem?_eq_some_iff.1 (Hwo9.out hp).2).1
        have Hwo10 := hide (show Wr w10 Ao go [] posto eo fr from fun hp => ⟨(Hwo9.out hp).1, (hbc.block go (hgl hp)).trans (Hwo9.out hp).2⟩)
        have Hbc := hide hbc
        have Hgl := hide hgl
        clear hbc hgl Hwo9 Hwo8 Hsame
        go_wp2_with fail
        go_loopw [99] (fun i wr => ∃ (j : Nat), j ≤ Fl ∧ i = .int .i64 (j : Int) ∧ Wr wr Ao go [] posto eo (incK j fr) ∧ Ch (fun z => z = go ∧ 0 < fr.length) w10 wr) (fun i _ => Fl - (intOf i).toNat)
        case atStart => exact ⟨0, Nat.zero_le _, rfl, by rw [incK_zero]; exact Hwo10.out, Ch.refl _⟩
        case round =>
          obtain ⟨j, hj, rfl, hwr, hch⟩ := hrel
          by_cases hjl : j < Fl
          · have hjb : j < fr.length := by have := HFl.out; omega
            obtain ⟨hA, hc1, hf1⟩ := hwr.cell (i := j) (by rw [incK_len]; exact hjb)
            have hset := hwr.set (i := j) (by rw [incK_len]; exact hjb) (fr[j] + 1)
            rw [incK_get j fr hjb] at hc1
            rw [← incK_succ j fr hjb] at hset
            simp only [List.length_nil, Nat.zero_add] at hA hc1 hf1 hset
            have hinc := inc_u8 fr[j]
            obtain ⟨x, hx⟩ : ∃ x, x = fr[j] := ⟨_, rfl⟩
            rw [← hx] at hc1 hset hinc
            obtain ⟨y, hy⟩ : ∃ y, y = x + 1 := ⟨_, rfl⟩
            rw [← hy] at hset hinc
            have Hset := hide hset
            have Hch := hide hch
            have Hjb := hide hjb
            subst hA
            clear hset hch hx hy hwr hjb
            go_wp2_with fail
            exact ⟨⟨j + 1, by omega, by rw [Int.natCast_succ], Hset.out, Hch.out.trans (Ch.set wr ⟨go, j, none⟩ (.int .u8 (y.toNat : Int))) fun b hb => .inl ⟨hb, by have := Hjb.out; omega⟩⟩, by simp only [intOf]; omega⟩
          · obtain rfl : j = Fl := by omega
            have hfl := HFl.out
            rw [hfl, incK_all] at hwr
            obtain ⟨w11, hw11⟩ : ∃ w11 : World, w11 = wr := ⟨_, rfl⟩
            rw [← hw11] at hwr hch ⊢
            clear hw11 hfl
            have Hwr11 := hide hwr
            have Hch11 := hide hch
            have hgo11 : ∀ z, (T z ∨ (Value.slice A3 xs.length c3).ownBlock = some z) → ¬ (z = go ∧ 0 < fr.length) := fun z hz ⟨e, hp⟩ => by
              subst e
              rcases (HTg.out z hz).1 with h1 | h1
              · have := HS6.out z h1; have := Hgo.out.1; have := Hb6.out.size; omega
              · have := Hgo.out.2 hp; have := Hb78.out.size; omega
            have hrow11 := (Hrow9.out.keep (w' := w10) fun z hz => Hbc.out.block z (HTg.out z hz).2).keep (w' := w11) fun z hz => hch.block z (by have := (HTg.out z hz).2; have := Hbc.out.size; omega) (hgo11 z hz)
            have hsep := hrow11.sep
            obtain ⟨T', hT'⟩ : ∃ T' : Nat → Prop, T' = fun z => T z ∧ (Value.slice A3 xs.length c3).ownBlock ≠ some z := ⟨_, rfl⟩
            rw [← hT'] at hsep
            have HT' := hide (show ∀ z, T' z → T z ∧ (Value.slice A3 xs.length c3).ownBlock ≠ some z from fun z hz => by rw [hT'] at hz; exact hz)
            have Hsep := hide hsep
            obtain ⟨L, hL⟩ : ∃ L, L = xs.length := ⟨_, rfl⟩
            have HL := hide hL
            have hcells : ∀ t, t < L → ∃ b u x, A3 = some ⟨b, 0, none⟩ ∧ (Value.slice A3 xs.length c3).ownBlock = some b ∧ us3[t]? = some u ∧ xs[t]? = some x ∧ w11.cell? ⟨b, t, none⟩ = some u := fun t ht => by
              obtain ⟨b, u, h1, h2, h3, h4, -⟩ := hsep.cell (i := t) (by omega)
              exact ⟨b, u, xs[t]'(by omega), h1, h2, h3, List.getElem?_eq_getElem (by omega), h4⟩
            have Hcells := hide hcells
            have hLm : L ≤ 100 := by rw [hL]; exact hll.out.2
            have hx200 := hide (show ∀ x ∈ xs, x.length ≤ 200 from Hfrs.out.2)
            rw [← hL]
            clear hwr hch hgo11 hrow11 hsep hT' hL hcells Hrow9
            go_wp2_with fail
            go_loopw [111] (fun i wr => ∃ t : Nat, t ≤ L ∧ i = .int .i64 (t : Int) ∧ PW T' us3 xs w11 wr) (fun i _ => L - (intOf i).toNat)
            case atStart => exact ⟨0, Nat.zero_le _, rfl, Hsep.out.pw⟩
            case round =>
              obtain ⟨t, ht, rfl, hpw⟩ := hrel
              by_cases htl : t < L
              · obtain ⟨b3, u, x, rfl, hbo, hut, hxt, hcell⟩ := Hcells.out t htl
                have hcr : wr.cell? ⟨b3, t, none⟩ = some u := hpw.1.cell hcell fun hz => (HT'.out b3 hz).2 hbo
                have hwb := hpw.2 t u x hut hxt
                obtain ⟨A9, c9, rfl, -, -, -⟩ := hwb
                have hxl : x.length ≤ 200 := hx200.out x (List.mem_of_getElem? hxt)
                obtain ⟨X, hX⟩ : ∃ X, X = x.length := ⟨_, rfl⟩
                rw [← hX] at hcr hxl
                have HX := hide hX
                have Hut := hide (show us3[t]? = some (.slice A9 x.length c9) ∧ xs[t]? = some x from ⟨hut, hxt⟩)
                have Hpw := hide hpw
                obtain ⟨wq, hwq⟩ : ∃ wq : World, wq = wr := ⟨_, rfl⟩
                rw [← hwq] at hcr Hpw ⊢
                clear hpw hut hxt hcell hX hwq
                go_wp2_with fail
                go_loopw [117] (fun i wr => ∃ j : Nat, j ≤ X ∧ i = .int .i64 (j : Int) ∧ PW T' us3 xs w11 wr) (fun i _ => X - (intOf i).toNat)
                case atStart => exact ⟨0, Nat.zero_le _, rfl, Hpw.out⟩
                case round =>
                  obtain ⟨j, hj, rfl, hpj⟩ := hrel
                  by_cases hjl : j < X
                  · have hwb := hpj.2 t _ x Hut.out.1 Hut.out.2
                    obtain ⟨gx, ox, vx, cx, eu, -, -, hgx, hcx, hfx⟩ := hwb.cell (j := j) (by have := HX.out; omega)
                    injection eu with e1 e2 e3
                    subst e1
                    clear e2 e3
                    obtain ⟨y, hy⟩ := inc8 vx
                    have hpn := hide (hpj.set hgx (ox + j) y)
                    have hvl : (vx.toNat : Int) < 256 := by have := vx.toNat_lt; omega
                    clear hpj hwb hgx
                    go_wp2_with fail
                    exact ⟨⟨j + 1, by omega, by rw [Int.natCast_succ], hpn.out⟩, by simp only [intOf]; omega⟩
                  · obtain rfl : j = X := by omega
                    have Hpj := hide hpj
                    clear hpj
                    go_wp2_with fail
                    exact ⟨⟨t + 1, by omega, by rw [Int.natCast_succ], Hpj.out⟩, by simp only [intOf]; omega⟩
              · obtain rfl : t = L := by omega
                obtain ⟨w12, hw12⟩ : ∃ w12 : World, w12 = wr := ⟨_, rfl⟩
                rw [← hw12] at hpw ⊢
                have hcht := hpw.1
                clear hw12 hpw
                have hgS : ∀ z, (z = go ∧ 0 < fr.length) → ¬ S' z ∧ w.heap.size ≤ z ∧ w6.heap.size ≤ z ∧ z < w7.heap.size := fun z ⟨e, hp⟩ => by
                  subst e
                  have h1 := Hgo.out.1
                  have h2 := Hgo.out.2 hp
                  have h3 := Hb6.out.size
                  have h4 := Hb78.out.size
                  have h5 := Hbw.out.size
                  refine ⟨fun hs => ?_, by omega, h1, h2⟩
                  rcases HS'g.out z hs with h6 | h6
                  · have := HS6.out z h6; omega
                  · omega
                have hTS : ∀ z, T' z → ¬ S' z ∧ w.heap.size ≤ z ∧ (S z ∨ w8.heap.size ≤ z) := fun z hz => ⟨(Hout9.out z (.inl (HT'.out z hz).1)).1, (Hout9.out z (.inl (HT'.out z hz).1)).2, (HTg.out z (.inl (HT'.out z hz).1)).1⟩
                have hq12 : NL w w12 S' g hs' := (((Hq9.out.below Hbc.out).keep Hch11.out (fun z hz => (hgS z hz).2.1) fun z hz hz' => (hgS z hz').1 hz)).keep hcht (fun z hz => (hTS z hz).2.1) fun z hz hz' => (hTS z hz').1 hz
                have hs10 := Hbc.out.size
                have hs11 := Hch11.out.size
                have hrh12 : RdL Kd.sb (fun z => (SH z ∨ z < w.heap.size) ∨ newB w7 w8 z) w12 A1 hs' := Hr19.out.keep fun z hz => by
                  have h1 := HSR.out z hz
                  have h2 : z < w9.heap.size := Nat.lt_of_lt_of_le h1.1 Hs9.out
                  have h3 : ¬ (z = go ∧ 0 < fr.length) := fun hg => by
                    have h4 := hgS z hg
                    rcases hz with (hz | hz) | hz
                    · have := (HSH.out z hz).1; have := Hb6.out.size; omega
                    · omega
                    · have := hz.1; omega
                  have h5 : ¬ T' z := fun hT => by
                    rcases (hTS z hT).2.2 with h6 | h6
                    · exact h1.2 h6
                    · omega
                  exact ((hcht.block z (by omega) h5).trans (Hch11.out.block z (by omega) h3)).trans (Hbc.out.block z h2)
                have hwo12 : Wr w12 Ao go [] posto eo (incL fr) := fun hp => by
                  have hp' : 0 < fr.length := by simpa [incL] using hp
                  have hg7 := Hgo.out.2 hp'
                  refine ⟨(Hwr11.out hp).1, (hcht.block go ?_ fun hT => ?_).trans (Hwr11.out hp).2⟩
                  · exact (Array.getElem?_eq_some_iff.1 (Hwr11.out hp).2).1
                  · rcases (hTS go hT).2.2 with h6 | h6
                    · have := HS6.out go h6; have := Hgo.out.1; have := Hb6.out.size; omega
                    · have := Hb78.out.size; omega
                have hown12 := hwo12.rd
                have hil : (incL fr).length = j := by rw [incL, List.length_map, HFl.out]
                have hplus := hide (plus_calls Bf fr cf (· < w.heap.size) w12.drew (by have := HFl.out; have := Hbl.out; omega) (fun z hz => by have := hq12.bel.size; show z < w12.heap.size; omega) ((Hrf.out.below hq12.bel).keep fun _ _ => rfl))
                have c1 := run_str (P := Try.prog) (w := w12.drew) Try.underlying57 Try.underlying5 Try.underlying9 (hown12.keep (w' := w12.drew) fun _ _ => rfl).srcB co
                rw [hil] at c1
                rw [← HFl.out] at hplus
                have Hq12 := hide hq12
                have Hrh12 := hide hrh12
                have Hwo12 := hide hwo12
                have Hil := hide hil
                have hSH12 := hide (show ∀ z, ((SH z ∨ z < w.heap.size) ∨ newB w7 w8 z) → ¬ S' z from fun z hz hs => by
                  have h1 := HSR.out z hz
                  rcases HS'g.out z hs with h2 | h2
                  · exact h1.2 h2
                  · omega)
                obtain ⟨str, hstr⟩ : ∃ str, str = bstr (incL fr) := ⟨_, rfl⟩
                rw [← hstr] at c1
                have Hstr := hide hstr
                have heq : (str.toList != str.toList) = false := by simp
                clear hstr hil hown12 hwo12 hrh12 hq12 hgS hTS hs10 hs11
                go_wp2_with fail
                go_region_law ((go_simp; refine hplus.out.mono ?_; rintro _ w13 ⟨A5, c5, rfl, hr5, hb5'⟩; have hb5 := undrew hb5'; have c2 := plus_str (c := c5) Hstr.out Hil.out hr5; have c3' := own_str Hstr.out Hil.out Hwo12.out hb5 co; have Hb5' := hide hb5; clear hr5 hb5' hb5))
                all_goals
                  go_wp2_with fail
                  have hz1 := Hs9.out
                  have hz2 := Hbc.out.size
                  have hz3 := Hch11.out.size
                  have hz4 := hcht.size
                  have hz5 := Hb5'.out.size
                  have hltSH : ∀ z, ((SH z ∨ z < w.heap.size) ∨ newB w7 w8 z) → z < w12.heap.size := fun z hz => by have := (HSR.out z hz).1; omega
                  exact ⟨⟨k + 1, S', _, hs', A1, _, by omega, by rw [Int.natCast_succ], rfl, Hc1.out.1, Hc1.out.2, Hq12.out.below Hb5'.out, Hrh12.out.keep fun z hz => Hb5'.out.block z (hltSH z hz), fun z hz => ⟨Nat.lt_of_lt_of_le (hltSH z hz) hz5, hSH12.out z hz⟩, hll.out.1, Hfrs.out.1⟩, by simp only [intOf]; omega⟩
      · have hkN' : ¬ ((k : Int) < (N : Int)) := by omega
        obtain ⟨w6, hw6⟩ : ∃ w6, w6 = w5 := ⟨_, rfl⟩
        obtain ⟨kind, pt, m, Bo, bs, dO, Hh6, Hwp, Hlo, Hbs⟩ : ∃ (kind pt : Int) (m : UInt32) (Bo : Option Addr) (bs : List UInt8) (dO : Nat), Hid (w6.heap[q]? = some (opO kind pt m Bo bs.length dO)) ∧ Hid ((Lit.int .i64 pt).wf = true) ∧ Hid (bs.length ≤ dO ∧ dO ≤ maxLen) ∧ Hid (RdL Kd.byte (· < w.heap.size) w6 Bo bs) :=
          ⟨0, 0, 0, none, [], 0, hide (hw6 ▸ Hh5.out), hide (by decide), hide ⟨by decide, by decide⟩, hide RdL.nil⟩
        have Hb6 := hide (show Below wr.heap.size wr w6 from hw6 ▸ Hb5.out)
        go_upto_region 13 with fail
        rw [← hw6]
        clear hw6
        obtain ⟨z0, z1, z2, z3⟩ := opO_head Hh6.out
        have Hbw := hide (below_t3 Hq.out.bel Hq.out.bel.size Hb6.out)
        by_cases h200 : 200 < Fl
        · go_wp2_with fail
          exact hR.out _ _ ⟨rfl, Hbw.out⟩
        by_cases h200b : 200 < bs.length
        · go_wp2_with fail
          exact hR.out _ _ ⟨rfl, Hbw.out⟩
        have Hbl := hide (show bs.length ≤ 200 ∧ Fl ≤ 200 by omega)
        have hb0 := hide (balloc w6 (.cells #[] 5))
        have s1 := hide (((Hrf.out.below (below_t3 Hbw.out Hbw.out.size hb0.out))).srcB)
        have hle := hide (show (fr.map encB).length = Fl from by rw [List.length_map, HFl.out])
        clear z0 z1 z2
        go_wp2_with (at_builtin; with_reducible refine wp_app_lit 55 rfl rfl (.tmp 53) (.tmp 54) 57 rfl Try.underlying57 infoB ?_ (g := w6.heap.size) ?_ (A := Bf) (c := cf) (news := fr.map encB) ?_ ?_ ?_ ?_ ?_ ?_)
        all_goals first | rfl | exact s1.out | exact HFl.out | exact encB_one fr | exact fun (a : UInt8) _ => rfl | (rw [hle.out]; rfl) | (rw [hle.out]; omega) | (rw [hle.out]; unfold maxLen; omega) | (have := HFl.out; omega) | (have := HFl.out; unfold maxLen; omega) | skip
        intro v7 w7 hn
        obtain ⟨Ao, co, rfl, hk7, hb7'⟩ := hn.ow
        have hsz0 : w6.heap.size ≤ (w6.alloc (.cells #[] 5)).heap.size := by simp
        have hsz1 : (w6.alloc (.cells #[] 5)).heap.size = w6.heap.size + 1 := by simp
        have hb7 : Below w6.heap.size w6 w7 := below_t3 hb0.out hsz0 hb7'
        have hk7' : Kd.ow.R (fun z => w6.heap.size ≤ z ∧ z < w7.heap.size) w7 fr [.slice Ao fr.length co] := Kd.ow.mono (fun z hz => ⟨by have := hz.1; omega, hz.2⟩) hk7
        obtain ⟨hco, hcom, go, posto, eo, hwo, hgo, hgol⟩ := ow_wr hb7.size hk7'
        have Hgo := hide (show w6.heap.size ≤ go ∧ (0 < fr.length → go < w7.heap.size) from ⟨hgo, hgol⟩)
        have Hwo := hide hwo
        have Hco := hide (show fr.length ≤ co ∧ co ≤ maxLen from ⟨hco, hcom⟩)
        have Hb7 := hide hb7
        have Hbr7 := hide (below_t3 Hb6.out Hb6.out.size hb7)
        have Hbw7 := hide (below_t3 Hbw.out Hbw.out.size hb7)
        have hltw7 : ∀ z, z < w.heap.size → z < w7.heap.size := fun z hz => by have := Hbw7.out.size; omega
        have hq7 : w7.heap[q]? = some (opO kind pt m Bo bs.length dO) := (hb7.block q (Array.getElem?_eq_some_iff.1 Hh6.out).1).trans Hh6.out
        have hrd7 : RdL Kd.sb (fun z => SH z ∨ z < w.heap.size) w7 Ah hs := (Hrh.out.keep fun z hz => Hbr7.out.block z (HSH.out z hz).1).mono fun z hz => .inl hz
        have hSR7 : ∀ z, (SH z ∨ z < w.heap.size) → z < w7.heap.size := fun z hz => hz.elim (fun h => by have := (HSH.out z h).1; have := Hbr7.out.size; omega) (hltw7 z)
        have hBs7 := (Hbs.out.below' hb7 Hbw.out.size)
        have hrdo := rdo_calls kind pt m Ah hs ch Bo bs dO Bf fr cf (fun z => SH z ∨ z < w.heap.size) w7 (by have := Hsl.out; omega) Hch.out.1 Hch.out.2 Hlo.out.1 Hlo.out.2 (by have := HFl.out; omega) (by have := HFl.out; omega) Hcfm.out Hwp.out hSR7 hrd7 (hBs7.mono fun z hz => .inr hz) ((Hrf.out.below Hbw7.out).mono fun z hz => .inr hz)
        rw [← HFl.out] at hrdo
        have Hrdo := hide hrdo
        have Hq7 := hide hq7
        have HSR7 := hide hSR7
        have HBs7 := hide hBs7
        have hol := hide (show fr.length = Fl from HFl.out.symm)
        rw [hol.out]
        clear hn hk7 hk7' hb7' hsz0 hsz1 hwo hgo hgol hco hcom hb7 hltw7 hq7 hrd7 hSR7 hrdo hBs7 z3 s1 hb0 hle
        obtain ⟨z0, z1, z2, z3⟩ := opO_head Hq7.out
        go_wp2_with fail
        refine Hrdo.out.mono ?_
        rintro _ w8 ⟨A1, c1, A2, c2, rfl, hc11, hc12, hc21, hc22, hr1, hr2, hb8⟩
        have hq8 : w8.heap[q]? = some (opO kind pt m Bo bs.length dO) := (hb8.block q (Array.getElem?_eq_some_iff.1 Hq7.out).1).trans Hq7.out
        obtain ⟨hs', hhs'⟩ : ∃ hs', hs' = (doL hs kind pt m bs fr).1 := ⟨_, rfl⟩
        obtain ⟨xs, hxs⟩ : ∃ xs, xs = (doL hs kind pt m bs fr).2 := ⟨_, rfl⟩
        have hlens := doL_len hs kind pt m bs fr
        have hfrs := doL_fr hs kind pt m bs fr Hs200.out Hbl.out.1 (by have := hol.out; have := Hbl.out; omega)
        rw [← hhs'] at hc11 hr1 hlens hfrs ⊢
        rw [← hxs] at hc21 hr2 hlens hfrs ⊢
        have Hlens := hide hlens
        have Hfrs := hide hfrs
        have Hb78 := hide hb8
        have hbr8 := below_t3 Hbr7.out Hbr7.out.size hb8
        have hbw8 := below_t3 Hbw7.out Hbw7.out.size hb8
        have hwo8 : Wr w8 Ao go [] posto eo fr := fun hp => ⟨(Hwo.out hp).1, (hb8.block go (Hgo.out.2 hp)).trans (Hwo.out hp).2⟩
        have hown8 : RdL Kd.byte (fun z => z < w8.heap.size) w8 Ao fr := fun hp => (hwo8.rd.mono fun z hz => by rw [hz]; have := Hgo.out.2 hp; have := hb8.size; omega) hp
        have hdo := nl_do kind pt m Bo bs dO Ao fr co (fun z => z < w8.heap.size) w8 (Hq.out.below hbr8) (by have := hol.out; omega) (by have := Hsl.out; omega) (fun _ => by have := Hbl.out; omega) Hwp.out Hlo.out.1 Hlo.out.2 (by have := hol.out; have := Hco.out; omega) Hco.out.2 (fun z hz => hz) hown8 ((HBs7.out.below' hb8 (by have := Hbw7.out.size; omega)).mono fun z hz => by have := hbw8.size; show z < _; omega)
        rw [← hhs', ← hxs, hol.out] at hdo
        have Hdo := hide hdo
        have Hq8 := hide hq8
        have Hbr8 := hide hbr8
        have Hbw8 := hide hbw8
        have Hwo8 := hide hwo8
        have Hr1 := hide hr1
        have Hr2 := hide hr2
        have Hc1 := hide (show hs'.length ≤ c1 ∧ c1 ≤ maxLen from ⟨hc11, hc12⟩)
        have Hc2 := hide (show xs.length ≤ c2 ∧ c2 ≤ maxLen from ⟨hc21, hc22⟩)
        have hll : Hid (hs'.length ≤ k + 1 ∧ xs.length ≤ 100) := hide (by have := Hsl.out; have := hlens; omega)
        clear hhs' hxs hlens hfrs hb8 hbr8 hbw8 hwo8 hown8 hdo hq8 hr1 hr2 hc11 hc12 hc21 hc22 z0 z1 z2 z3 Hrdo Hwo
        obtain ⟨z0, z1, z2, z3⟩ := opO_head Hq8.out
        go_wp2_with fail
        refine Hdo.out.mono ?_
        rintro _ w9 ⟨A3, c3, us3, S', T, rfl, hq9, hfr9, hch9, hnew9, hout9⟩
        have hwS : ∀ z, z < w.heap.size → ¬ S z := fun z hz hs => by have := Hq.out.ge z hs; omega
        have hS6 : ∀ z, S z → z < wr.heap.size := Hq.out.ns.lt
        have hqS : ¬ S q := fun hs => by have := hS6 q hs; have := Hqq.out; omega
        have hq9' : w9.heap[q]? = some (opO kind pt m Bo bs.length dO) := (hch9.block q (Array.getElem?_eq_some_iff.1 Hq8.out).1 hqS).trans Hq8.out
        -- the document's rows, in w9
        have hSR : ∀ z, ((SH z ∨ z < w.heap.size) ∨ newB w7 w8 z) → z < w8.heap.size ∧ ¬ S z := fun z hz => by
          rcases hz with (hz | hz) | hz
          · exact ⟨by have := (HSH.out z hz).1; have := Hbr8.out.size; omega, (HSH.out z hz).2⟩
          · exact ⟨by have := Hbw8.out.size; omega, hwS z hz⟩
          · exact ⟨hz.2, fun hs => by have := hS6 z hs; have := hz.1; have := Hbr7.out.size; omega⟩
        have hr19 : RdL Kd.sb (fun z => (SH z ∨ z < w.heap.size) ∨ newB w7 w8 z) w9 A1 hs' := Hr1.out.keep fun z hz => hch9.block z (hSR z hz).1 (hSR z hz).2
        have hr29 : RdL Kd.sb (fun z => (SH z ∨ z < w.heap.size) ∨ newB w7 w8 z) w9 A2 xs := Hr2.out.keep fun z hz => hch9.block z (hSR z hz).1 (hSR z hz).2
        have hs9 := hch9.size
        have hgot9 : RdL Kd.sb (fun z => z < w9.heap.size) w9 A3 xs := (RdL.conv (d := Kd.ow) (d' := Kd.sb) (hfr9.row.rd rfl) rfl fun x cs h => Kd.ow_sl h).mono fun z hz => (hout9 z hz).2
        have hr29' : RdL Kd.sb (fun z => z < w9.heap.size) w9 A2 xs := hr29.mono fun z hz => by have := (hSR z hz).1; show z < _; omega
        have hsame : ∀ x : Later w9, Calls Try.prog 31 #[.slice A3 xs.length c3, .slice A2 xs.length c2] x.v fun e w' => e = .returned (.bool true) ∧ Below x.v.heap.size x.v w' := fun x => by
          have := same_calls A3 xs c3 A2 xs c2 x.v (by have := hll.out; omega) (by have := hll.out; omega) ((hgot9.below x.below).mono fun z hz => Nat.lt_of_lt_of_le hz x.below.size) ((hr29'.below x.below).mono fun z hz => Nat.lt_of_lt_of_le hz x.below.size)
          rwa [decide_eq_true (rfl : xs = xs)] at this
        have hS'g : ∀ z, S' z → S z ∨ w8.heap.size ≤ z := hnew9
        have hTg : ∀ z, (T z ∨ (Value.slice A3 xs.length c3).ownBlock = some z) → (S z ∨ w8.heap.size ≤ z) ∧ z < w9.heap.size := hout9
        have hwo9 : Wr w9 Ao go [] posto eo fr := fun hp => ⟨(Hwo8.out hp).1, (hch9.block go (by have := Hgo.out.2 hp; have := Hb78.out.size; omega) (fun hs => by have := hS6 go hs; have := Hgo.out.1; have := Hb6.out.size; omega)).trans (Hwo8.out hp).2⟩
        have Hsame := hide hsame
        have Hs9 := hide hs9
        have Hq9 := hide hq9
        have Hrow9 := hide hfr9.row
        have Hout9 := hide (show ∀ z, (T z ∨ (Value.slice A3 xs.length c3).ownBlock = some z) → ¬ S' z ∧ w.heap.size ≤ z from hfr9.out)
        have HS'g := hide hS'g
        have HTg := hide hTg
        have HSR := hide hSR
        have Hr19 := hide hr19
        have Hwo9 := hide hwo9
        have Hq9' := hide hq9'
        have HS6 := hide hS6
        clear hq9 hfr9 hch9 hnew9 hout9 hwS hS6 hqS hq9' hSR hr19 hr29 hs9 hgot9 hsame hS'g hTg hwo9 z0 z1 z2 z3 Hdo Hr1 Hr2
        obtain ⟨z0, z1, z2, z3⟩ := opO_head Hq9'.out
        have k0 := fun x : Later w9 => later_cell z0 x
        have k1 := fun x : Later w9 => later_cell z1 x
        have k2 := fun x : Later w9 => later_cell z2 x
        have k3 := fun x : Later w9 => later_cell z3 x
        clear z0 z1 z2 z3
        go_upto_region 19 with fail
        go_cut [96] from 74 to 96 (fun s96 wx => s96 = .bool false ∧ Below w9.heap.size w9 wx)
        case first =>
          obtain ⟨b5, hb5⟩ : ∃ b5, decide (kind < 5) = b5 := ⟨_, rfl⟩
          obtain ⟨b7, hb7⟩ : ∃ b7, decide (7 < kind) = b7 := ⟨_, rfl⟩
          have hhb : harmB kind = (b5 || b7) := by rw [← hb5, ← hb7]; rfl
          have hnn : ((hs'.length : Int) != (hs'.length : Int)) = false := by simp
          have hheld := hide fun x : Later w9 => held_calls (Hq9.out.ns.below x.below)
          have hharm : Hid (∀ x : World, Calls Try.prog 33 #[.agg #[.int .i64 kind, .int .i64 pt, .int .u32 (m.toNat : Int), .slice Bo bs.length dO]] x fun e w' => e = .returned (.bool (b5 || b7)) ∧ Below x.heap.size x w') := hide fun x => by
            have := harmless_calls kind pt m Bo bs.length dO x
            rwa [hhb] at this
          clear hhb
          cases b5 <;> cases b7
          all_goals
            simp only [Bool.or_false, Bool.or_true, Bool.false_or, Bool.true_or] at hharm
            refine wp_region_later (by kernel_rfl) (by kernel_rfl) ?_
            repeat (go_big_quiet_step ((first | (go_at_call 31; exact later_call (Hsame.out _)) | (go_at_call 32; exact later_same (hheld.out _)) | (go_at_call 33; exact later_call (hharm.out _)))))
            refine wpQuiet_nil ?_
            intro _ hw'
            obtain ⟨⟨w10, hb10⟩, rfl⟩ := hw'
            go_wp2_with fail
            go_meet
            exact ⟨rfl, hb10⟩
        case rest =>
        obtain ⟨rfl, hbc⟩ := hcut
        obtain ⟨w10, hw10⟩ : ∃ w10 : World, w10 = wc := ⟨_, rfl⟩
        rw [← hw10] at hbc ⊢
        clear hw10 k0 k1 k2 k3
        have hgl : 0 < fr.length → go < w9.heap.size := fun hp => (Array.getElem?_eq_some_iff.1 (Hwo9.out hp).2).1
        have Hwo10 := hide (show Wr w10 Ao go [] posto eo fr from fun hp => ⟨(Hwo9.out hp).1, (hbc.block go (hgl hp)).trans (Hwo9.out hp).2⟩)
        have Hbc := hide hbc
        have Hgl := hide hgl
        clear hbc hgl Hwo9 Hwo8 Hsame
        go_wp2_with fail
        go_loopw [99] (fun i wr => ∃ (j : Nat), j ≤ Fl ∧ i = .int .i64 (j : Int) ∧ Wr wr Ao go [] posto eo (incK j fr) ∧ Ch (fun z => z = go ∧ 0 < fr.length) w10 wr) (fun i _ => Fl - (intOf i).toNat)
        case atStart => exact ⟨0, Nat.zero_le _, rfl, by rw [incK_zero]; exact Hwo10.out, Ch.refl _⟩
        case round =>
          obtain ⟨j, hj, rfl, hwr, hch⟩ := hrel
          by_cases hjl : j < Fl
          · have hjb : j < fr.length := by have := HFl.out; omega
            obtain ⟨hA, hc1, hf1⟩ := hwr.cell (i := j) (by rw [incK_len]; exact hjb)
            have hset := hwr.set (i := j) (by rw [incK_len]; exact hjb) (fr[j] + 1)
            rw [incK_get j fr hjb] at hc1
            rw [← incK_succ j fr hjb] at hset
            simp only [List.length_nil, Nat.zero_add] at hA hc1 hf1 hset
            have hinc := inc_u8 fr[j]
            obtain ⟨x, hx⟩ : ∃ x, x = fr[j] := ⟨_, rfl⟩
            rw [← hx] at hc1 hset hinc
            obtain ⟨y, hy⟩ : ∃ y, y = x + 1 := ⟨_, rfl⟩
            rw [← hy] at hset hinc
            have Hset := hide hset
            have Hch := hide hch
            have Hjb := hide hjb
            subst hA
            clear hset hch hx hy hwr hjb
            go_wp2_with fail
            exact ⟨⟨j + 1, by omega, by rw [Int.natCast_succ], Hset.out, Hch.out.trans (Ch.set wr ⟨go, j, none⟩ (.int .u8 (y.toNat : Int))) fun b hb => .inl ⟨hb, by have := Hjb.out; omega⟩⟩, by simp only [intOf]; omega⟩
          · obtain rfl : j = Fl := by omega
            have hfl := HFl.out
            rw [hfl, incK_all] at hwr
            obtain ⟨w11, hw11⟩ : ∃ w11 : World, w11 = wr := ⟨_, rfl⟩
            rw [← hw11] at hwr hch ⊢
            clear hw11 hfl
            have Hwr11 := hide hwr
            have Hch11 := hide hch
            have hgo11 : ∀ z, (T z ∨ (Value.slice A3 xs.length c3).ownBlock = some z) → ¬ (z = go ∧ 0 < fr.length) := fun z hz ⟨e, hp⟩ => by
              subst e
              rcases (HTg.out z hz).1 with h1 | h1
              · have := HS6.out z h1; have := Hgo.out.1; have := Hb6.out.size; omega
              · have := Hgo.out.2 hp; have := Hb78.out.size; omega
            have hrow11 := (Hrow9.out.keep (w' := w10) fun z hz => Hbc.out.block z (HTg.out z hz).2).keep (w' := w11) fun z hz => hch.block z (by have := (HTg.out z hz).2; have := Hbc.out.size; omega) (hgo11 z hz)
            have hsep := hrow11.sep
            obtain ⟨T', hT'⟩ : ∃ T' : Nat → Prop, T' = fun z => T z ∧ (Value.slice A3 xs.length c3).ownBlock ≠ some z := ⟨_, rfl⟩
            rw [← hT'] at hsep
            have HT' := hide (show ∀ z, T' z → T z ∧ (Value.slice A3 xs.length c3).ownBlock ≠ some z from fun z hz => by rw [hT'] at hz; exact hz)
            have Hsep := hide hsep
            obtain ⟨L, hL⟩ : ∃ L, L = xs.length := ⟨_, rfl⟩
            have HL := hide hL
            have hcells : ∀ t, t < L → ∃ b u x, A3 = some ⟨b, 0, none⟩ ∧ (Value.slice A3 xs.length c3).ownBlock = some b ∧ us3[t]? = some u ∧ xs[t]? = some x ∧ w11.cell? ⟨b, t, none⟩ = some u := fun t ht => by
              obtain ⟨b, u, h1, h2, h3, h4, -⟩ := hsep.cell (i := t) (by omega)
              exact ⟨b, u, xs[t]'(by omega), h1, h2, h3, List.getElem?_eq_getElem (by omega), h4⟩
            have Hcells := hide hcells
            have hLm : L ≤ 100 := by rw [hL]; exact hll.out.2
            have hx200 := hide (show ∀ x ∈ xs, x.length ≤ 200 from Hfrs.out.2)
            rw [← hL]
            clear hwr hch hgo11 hrow11 hsep hT' hL hcells Hrow9
            go_wp2_with fail
            go_loopw [111] (fun i wr => ∃ t : Nat, t ≤ L ∧ i = .int .i64 (t : Int) ∧ PW T' us3 xs w11 wr) (fun i _ => L - (intOf i).toNat)
            case atStart => exact ⟨0, Nat.zero_le _, rfl, Hsep.out.pw⟩
            case round =>
              obtain ⟨t, ht, rfl, hpw⟩ := hrel
              by_cases htl : t < L
              · obtain ⟨b3, u, x, rfl, hbo, hut, hxt, hcell⟩ := Hcells.out t htl
                have hcr : wr.cell? ⟨b3, t, none⟩ = some u := hpw.1.cell hcell fun hz => (HT'.out b3 hz).2 hbo
                have hwb := hpw.2 t u x hut hxt
                obtain ⟨A9, c9, rfl, -, -, -⟩ := hwb
                have hxl : x.length ≤ 200 := hx200.out x (List.mem_of_getElem? hxt)
                obtain ⟨X, hX⟩ : ∃ X, X = x.length := ⟨_, rfl⟩
                rw [← hX] at hcr hxl
                have HX := hide hX
                have Hut := hide (show us3[t]? = some (.slice A9 x.length c9) ∧ xs[t]? = some x from ⟨hut, hxt⟩)
                have Hpw := hide hpw
                obtain ⟨wq, hwq⟩ : ∃ wq : World, wq = wr := ⟨_, rfl⟩
                rw [← hwq] at hcr Hpw ⊢
                clear hpw hut hxt hcell hX hwq
                go_wp2_with fail
                go_loopw [117] (fun i wr => ∃ j : Nat, j ≤ X ∧ i = .int .i64 (j : Int) ∧ PW T' us3 xs w11 wr) (fun i _ => X - (intOf i).toNat)
                case atStart => exact ⟨0, Nat.zero_le _, rfl, Hpw.out⟩
                case round =>
                  obtain ⟨j, hj, rfl, hpj⟩ := hrel
                  by_cases hjl : j < X
                  · have hwb := hpj.2 t _ x Hut.out.1 Hut.out.2
                    obtain ⟨gx, ox, vx, cx, eu, -, -, hgx, hcx, hfx⟩ := hwb.cell (j := j) (by have := HX.out; omega)
                    injection eu with e1 e2 e3
                    subst e1
                    clear e2 e3
                    obtain ⟨y, hy⟩ := inc8 vx
                    have hpn := hide (hpj.set hgx (ox + j) y)
                    have hvl : (vx.toNat : Int) < 256 := by have := vx.toNat_lt; omega
                    clear hpj hwb hgx
                    go_wp2_with fail
                    exact ⟨⟨j + 1, by omega, by rw [Int.natCast_succ], hpn.out⟩, by simp only [intOf]; omega⟩
                  · obtain rfl : j = X := by omega
                    have Hpj := hide hpj
                    clear hpj
                    go_wp2_with fail
                    exact ⟨⟨t + 1, by omega, by rw [Int.natCast_succ], Hpj.out⟩, by simp only [intOf]; omega⟩
              · obtain rfl : t = L := by omega
                obtain ⟨w12, hw12⟩ : ∃ w12 : World, w12 = wr := ⟨_, rfl⟩
                rw [← hw12] at hpw ⊢
                have hcht := hpw.1
                clear hw12 hpw
                have hgS : ∀ z, (z = go ∧ 0 < fr.length) → ¬ S' z ∧ w.heap.size ≤ z ∧ w6.heap.size ≤ z ∧ z < w7.heap.size := fun z ⟨e, hp⟩ => by
                  subst e
                  have h1 := Hgo.out.1
                  have h2 := Hgo.out.2 hp
                  have h3 := Hb6.out.size
                  have h4 := Hb78.out.size
                  have h5 := Hbw.out.size
                  refine ⟨fun hs => ?_, by omega, h1, h2⟩
                  rcases HS'g.out z hs with h6 | h6
                  · have := HS6.out z h6; omega
                  · omega
                have hTS : ∀ z, T' z → ¬ S' z ∧ w.heap.size ≤ z ∧ (S z ∨ w8.heap.size ≤ z) := fun z hz => ⟨(Hout9.out z (.inl (HT'.out z hz).1)).1, (Hout9.out z (.inl (HT'.out z hz).1)).2, (HTg.out z (.inl (HT'.out z hz).1)).1⟩
                have hq12 : NL w w12 S' g hs' := (((Hq9.out.below Hbc.out).keep Hch11.out (fun z hz => (hgS z hz).2.1) fun z hz hz' => (hgS z hz').1 hz)).keep hcht (fun z hz => (hTS z hz).2.1) fun z hz hz' => (hTS z hz').1 hz
                have hs10 := Hbc.out.size
                have hs11 := Hch11.out.size
                have hrh12 : RdL Kd.sb (fun z => (SH z ∨ z < w.heap.size) ∨ newB w7 w8 z) w12 A1 hs' := Hr19.out.keep fun z hz => by
                  have h1 := HSR.out z hz
                  have h2 : z < w9.heap.size := Nat.lt_of_lt_of_le h1.1 Hs9.out
                  have h3 : ¬ (z = go ∧ 0 < fr.length) := fun hg => by
                    have h4 := hgS z hg
                    rcases hz with (hz | hz) | hz
                    · have := (HSH.out z hz).1; have := Hb6.out.size; omega
                    · omega
                    · have := hz.1; omega
                  have h5 : ¬ T' z := fun hT => by
                    rcases (hTS z hT).2.2 with h6 | h6
                    · exact h1.2 h6
                    · omega
                  exact ((hcht.block z (by omega) h5).trans (Hch11.out.block z (by omega) h3)).trans (Hbc.out.block z h2)
                have hwo12 : Wr w12 Ao go [] posto eo (incL fr) := fun hp => by
                  have hp' : 0 < fr.length := by simpa [incL] using hp
                  have hg7 := Hgo.out.2 hp'
                  refine ⟨(Hwr11.out hp).1, (hcht.block go ?_ fun hT => ?_).trans (Hwr11.out hp).2⟩
                  · exact (Array.getElem?_eq_some_iff.1 (Hwr11.out hp).2).1
                  · rcases (hTS go hT).2.2 with h6 | h6
                    · have := HS6.out go h6; have := Hgo.out.1; have := Hb6.out.size; omega
                    · have := Hb78.out.size; omega
                have hown12 := hwo12.rd
                have hil : (incL fr).length = j := by rw [incL, List.length_map, HFl.out]
                have hplus := hide (plus_calls Bf fr cf (· < w.heap.size) w12.drew (by have := HFl.out; have := Hbl.out; omega) (fun z hz => by have := hq12.bel.size; show z < w12.heap.size; omega) ((Hrf.out.below hq12.bel).keep fun _ _ => rfl))
                have c1 := run_str (P := Try.prog) (w := w12.drew) Try.underlying57 Try.underlying5 Try.underlying9 (hown12.keep (w' := w12.drew) fun _ _ => rfl).srcB co
                rw [hil] at c1
                rw [← HFl.out] at hplus
                have Hq12 := hide hq12
                have Hrh12 := hide hrh12
                have Hwo12 := hide hwo12
                have Hil := hide hil
                have hSH12 := hide (show ∀ z, ((SH z ∨ z < w.heap.size) ∨ newB w7 w8 z) → ¬ S' z from fun z hz hs => by
                  have h1 := HSR.out z hz
                  rcases HS'g.out z hs with h2 | h2
                  · exact h1.2 h2
                  · omega)
                obtain ⟨str, hstr⟩ : ∃ str, str = bstr (incL fr) := ⟨_, rfl⟩
                rw [← hstr] at c1
                have Hstr := hide hstr
                have heq : (str.toList != str.toList) = false := by simp
                clear hstr hil hown12 hwo12 hrh12 hq12 hgS hTS hs10 hs11
                go_wp2_with fail
                go_region_law ((go_simp; refine hplus.out.mono ?_; rintro _ w13 ⟨A5, c5, rfl, hr5, hb5'⟩; have hb5 := undrew hb5'; have c2 := plus_str (c := c5) Hstr.out Hil.out hr5; have c3' := own_str Hstr.out Hil.out Hwo12.out hb5 co; have Hb5' := hide hb5; clear hr5 hb5' hb5))
                all_goals
                  go_wp2_with fail
                  have hz1 := Hs9.out
                  have hz2 := Hbc.out.size
                  have hz3 := Hch11.out.size
                  have hz4 := hcht.size
                  have hz5 := Hb5'.out.size
                  have hltSH : ∀ z, ((SH z ∨ z < w.heap.size) ∨ newB w7 w8 z) → z < w12.heap.size := fun z hz => by have := (HSR.out z hz).1; omega
                  exact ⟨⟨k + 1, S', _, hs', A1, _, by omega, by rw [Int.natCast_succ], rfl, Hc1.out.1, Hc1.out.2, Hq12.out.below Hb5'.out, Hrh12.out.keep fun z hz => Hb5'.out.block z (hltSH z hz), fun z hz => ⟨Nat.lt_of_lt_of_le (hltSH z hz) hz5, hSH12.out z hz⟩, hll.out.1, Hfrs.out.1⟩, by simp only [intOf]; omega⟩
    · obtain rfl : k = M := by omega
      have hfl := hide (flush_calls Hq.out.ns (by have := Hsl.out; omega))
      have hSg : S g := by
        obtain ⟨_, _, _, hna⟩ := Hq.out.ns
        exact hna.sg
      have HSg := hide hSg
      clear hSg
      go_wp2_with fail
      refine hfl.out.mono ?_
      rintro _ w1 ⟨r1, us1, T1, rfl, hcm1, hch1, ho1⟩
      obtain ⟨A1, c1, rfl, hl1, hlm1⟩ := hcm1.row.shape
      have hrh1 : RdL Kd.sb SH w1 Ah hs := Hrh.out.keep fun z hz => hch1.block z (HSH.out z hz).1 fun e => (HSH.out z hz).2 (e ▸ HSg.out)
      have htn := hide (refturned_calls Ah hs ch SH w1 (by have := Hsl.out; omega) Hch.out.1 Hch.out.2 (fun z hz => Nat.lt_of_lt_of_le (HSH.out z hz).1 hch1.size) hrh1)
      have hbw1 : Below w.heap.size w w1 := hch1.below Hq.out.bel Hq.out.bel.size fun z hz => by rw [hz]; exact Hq.out.ge g HSg.out
      have Hcm1 := hide hcm1
      have Hbw1 := hide hbw1
      have Hl1 := hide (show hs.reverse.length ≤ c1 ∧ c1 ≤ maxLen from ⟨hl1, hlm1⟩)
      clear hcm1 hch1 ho1 hrh1 hbw1 hfl hl1 hlm1
      go_wp2_with fail
      refine htn.out.mono ?_
      rintro _ w2 ⟨A2, c2, us2, rfl, hor2, ho2, hb2⟩
      have hlr : hs.reverse.length = hs.length := List.length_reverse
      have hg2 : RdL Kd.sb (fun z => z < w2.heap.size) w2 A1 hs.reverse := (RdL.conv (d := Kd.ow) (d' := Kd.sb) ((Hcm1.out.row.keep (w' := w2) fun z hz => hb2.block z (Hcm1.out.out z hz).2.2).rd rfl) rfl fun x cs h => Kd.ow_sl h).mono fun z hz => by have := (Hcm1.out.out z hz).2.2; have := hb2.size; show z < _; omega
      have ht2 : RdL Kd.sb (fun z => z < w2.heap.size) w2 A2 hs.reverse := (hor2.rd rfl).mono fun z hz => hz.elim (fun h => by have := (HSH.out z h).1; have := Hcm1.out.ch.size; have := hb2.size; show z < _; omega) fun h => hor2.row.lt h
      have hsm := same_calls A1 hs.reverse c1 A2 hs.reverse c2 w2 (by rw [hlr]; have := Hsl.out; omega) (by rw [hlr]; have := Hsl.out; omega) hg2 ht2
      rw [decide_eq_true (rfl : hs.reverse = hs.reverse), hlr] at hsm
      have Hsm := hide hsm
      have Hb2 := hide hb2
      clear hor2 ho2 hb2 hg2 ht2 hsm htn
      clear hlr
      go_wp2_with fail
      refine Hsm.out.mono ?_
      rintro _ w3 ⟨rfl, hb3⟩
      have hns3 := (Hcm1.out.ns.below Hb2.out).below hb3
      have hbw3 := below_t3 (below_t3 Hbw1.out Hbw1.out.size Hb2.out) (by have := Hbw1.out.size; have := Hb2.out.size; omega) hb3
      have hhd := hide (held_calls hns3)
      have hfl3 := hide (flush_calls hns3 (by simp))
      have Hbw3 := hide hbw3
      have Hgw := hide (Hq.out.ge g HSg.out)
      clear hns3 hbw3 hb3
      go_wp2_with fail
      refine hhd.out.mono ?_
      rintro _ w4 ⟨rfl, rfl⟩
      go_wp2_with fail
      refine hfl3.out.mono ?_
      rintro _ w5 ⟨r5, us5, T5, rfl, hcm5, hch5, -⟩
      obtain ⟨A5, c5, rfl, -, -⟩ := hcm5.row.shape
      have hb5 := hide (hch5.below Hbw3.out Hbw3.out.size fun z hz => by rw [hz]; exact Hgw.out)
      clear hcm5 hch5
      go_wp2_with fail
      exact hR.out _ _ ⟨rfl, hb5.out⟩
end Go.Proofs.Ytehkdionodnhjaa
