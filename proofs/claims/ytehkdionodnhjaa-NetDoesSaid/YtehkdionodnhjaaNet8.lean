/- The document: a frame is held; all that are held come; bytes, each one more. -/
import Derived.Test.YtehkdionodnhjaaNet7
set_option linter.unusedVariables false
set_option linter.unusedSimpArgs false
namespace Go.Proofs.Ytehkdionodnhjaa
open Go.RowKit

theorem Src.keepN {w w' : World} {A : Option Addr} {us : List Value} (h : Src w A us) (hk : ∀ a u, w.cell? a = some u → w'.cell? a = some u) : Src w' A us := fun hp => by
  obtain ⟨ad, e, hc⟩ := h hp
  exact ⟨ad, e, fun j u hu => hk _ u (hc j u hu)⟩
set_option maxHeartbeats 1000000 in
theorem rdo3 (pt : Int) (m : UInt32) (A : Option Addr) (hs : List (List UInt8)) (c : Nat) (B : Option Addr) (bs : List UInt8) (d : Nat) (D : Option Addr) (fr : List UInt8) (cf : Nat) (S : Nat → Prop) (w : World) (hhl : hs.length ≤ 1000) (hc : hs.length ≤ c) (hcm : c ≤ maxLen) (hbd : bs.length ≤ d) (hdm : d ≤ maxLen) (hfl : fr.length ≤ 1000) (hfc : fr.length ≤ cf) (hfm : cf ≤ maxLen) (hp : (Lit.int .i64 pt).wf = true) (hS : ∀ k, S k → k < w.heap.size) (hA : RdL Kd.sb S w A hs) (hB : RdL Kd.byte S w B bs) (hD : RdL Kd.byte S w D fr) :
    Calls Try.prog 30 #[.slice A hs.length c, .int .i64 3, .int .i64 pt, .int .u32 (m.toNat : Int), .slice B bs.length d, .slice D fr.length cf] w (RPost w S (hs ++ [fr]) []) := by
  refine cps fun R hR => ?_
  obtain ⟨vs, hvl, hvs, hv1, hvr⟩ := hA.vals
  have hb := hide (balloc w (.cells #[] 57))
  have r0 := hide (Row.lit (w := w) (e := 57) [] (by simp))
  have s0 := hide (hvs.keepN (w' := w.alloc (.cells #[] 57)) fun a u hu => hb.out.cell (World.block_lt_of_cell? _ _ hu) |>.trans hu)
  have HA := hide hA
  have HS := hide hS
  have Hvl := hide hvl
  have Hv1 := hide hv1
  have Hvr := hide hvr
  have HD := hide (sb_val hfc hfm hD)
  clear hA hB hD hS hvl hvs hv1 hvr
  unfold maxLen at hcm
  go_enter Try.func30, Try.ntmps30
  go_wp2_with (at_builtin; with_reducible refine wp_app 29 rfl rfl (.tmp 27) (.tmp 28) 60 rfl Try.underlying60 infoSB ?_ (us := []) ?_ r0.out (A := A) (c := c) (news := vs) ?_ s0.out Hv1.out ?_ ?_ ?_)
  case refine_1 => rfl
  case refine_2 => rfl
  case refine_3 => rw [Hvl.out]; rfl
  case refine_4 => rw [Hvl.out]; simp; omega
  case refine_5 => rw [Hvl.out]; simp; unfold maxLen; omega
  case refine_6 =>
  intro v2 w2 hr2 g2 o2
  rw [List.nil_append] at hr2
  have hB2 : Below w.heap.size w w2 := (Ch.of_grown g2).below hb.out (by simp) fun k hk => by have := own_lit hk; omega
  have ho2 : ∀ k, v2.ownBlock = some k → w.heap.size ≤ k := fun k hk => by
    rcases o2 with e | e
    · rw [e] at hk; have := own_lit hk; omega
    · rw [hk] at e; injection e with e; simp at e; omega
  have hvl := Hvl.out
  have b3 := hide (balloc w2 (.cells #[.slice D fr.length cf] 57))
  have r3 := hide (hr2.keep (w' := w2.alloc (.cells #[.slice D fr.length cf] 57)) fun q hq => b3.out.block q (hr2.lt hq))
  have s3 := hide (Src.lit1 w2 (.slice D fr.length cf) 57)
  have Hr2 := hide hr2
  have HB2 := hide hB2
  have Ho2 := hide ho2
  obtain ⟨A2, c2, rfl, -, -⟩ := hr2.shape
  clear hr2 g2 o2 hB2 ho2 hvl
  go_wp2_with (at_builtin; with_reducible refine wp_app 32 rfl rfl (.tmp 29) (.tmp 31) 60 rfl Try.underlying60 infoSB ?_ (us := vs) ?_ r3.out (A := some ⟨w2.heap.size, 0, none⟩) (c := 1) (news := [.slice D fr.length cf]) ?_ s3.out ?_ ?_ ?_ ?_)
  all_goals first | rfl | (intro u hu; simp at hu; subst hu; rfl) | (rw [Hvl.out, List.length_singleton]; omega) | (rw [Hvl.out, List.length_singleton]; unfold maxLen; omega) | skip
  intro v4 w4 hr4 g4 o4
  obtain ⟨A4, c4, rfl, hc4, hm4⟩ := hr4.shape
  have el : (vs ++ [Value.slice D fr.length cf]).length = (hs ++ [fr]).length := by rw [List.length_append, List.length_append, Hvl.out]; rfl
  rw [el] at hr4 o4 hc4 ⊢
  have Hr4 := hide hr4
  have G4 := hide g4
  have O4 := hide o4
  have Hc4 := hide (show (hs ++ [fr]).length ≤ c4 ∧ c4 ≤ maxLen from ⟨hc4, hm4⟩)
  clear hr4 g4 o4 el hc4 hm4
  go_wp2_with fail
  have s2 := HB2.out.size
  have hB4 : Below w.heap.size w w4 := (Ch.of_grown G4.out).below (HB2.out.alloc s2 (.cells #[.slice D fr.length cf] 57)) (by simp; omega) fun k hk => Ho2.out k hk
  have s4 := hB4.size
  have ho4 : ∀ k, (Value.slice A4 (hs ++ [fr]).length c4).ownBlock = some k → w.heap.size ≤ k := fun k hk => by
    rcases O4.out with e | e
    · exact Ho2.out k (by rw [← e]; exact hk)
    · rw [hk] at e; injection e with e; simp at e; omega
  have hrow : OR Kd.sb S w4 57 (.slice A4 (hs ++ [fr]).length c4) (vs ++ [.slice D fr.length cf]) (hs ++ [fr]) := by
    refine ⟨Hr4.out, by rw [List.length_append, List.length_append, Hvl.out]; rfl, fun i u x hu hx => Kd.sb.keep (fun k hk => hB4.block k (HS.out k hk)) ?_⟩
    by_cases hi : i < vs.length
    · rw [List.getElem?_append_left hi] at hu
      rw [List.getElem?_append_left (by rw [← Hvl.out]; exact hi)] at hx
      exact Hvr.out i u x hu hx
    · rw [List.getElem?_append_right (by omega)] at hu
      rw [List.getElem?_append_right (by rw [← Hvl.out]; omega), ← Hvl.out] at hx
      match hj : i - vs.length, hu, hx with
      | 0, hu, hx =>
        simp at hu hx; subst hu; subst hx
        exact HD.out
      | j + 1, hu, _ => simp at hu
  have hrd := or_sb (w := w) (S := S) hrow (fun k hk => .inl hk) ho4
  have b5 := balloc w4 (.cells #[] 57)
  exact hR.out _ _ ⟨A4, c4, _, 0, by rw [List.length_append, List.length_singleton]; rfl, Hc4.out.1, Hc4.out.2, Nat.le_refl _, by unfold maxLen; simp, sb_mono hrd (fun k hk => b5.block k (hk.elim (fun h => by have := HS.out k h; omega) fun h => h.2)) (fun k hk => hk.imp id fun h => ⟨h.1, by have := h.2; simp; omega⟩), RdL.nil, hB4.alloc s4 _⟩
set_option maxHeartbeats 1000000 in
theorem rdo4 (pt : Int) (m : UInt32) (A : Option Addr) (hs : List (List UInt8)) (c : Nat) (B : Option Addr) (bs : List UInt8) (d : Nat) (D : Option Addr) (fr : List UInt8) (cf : Nat) (S : Nat → Prop) (w : World) (hhl : hs.length ≤ 1000) (hc : hs.length ≤ c) (hcm : c ≤ maxLen) (hbd : bs.length ≤ d) (hdm : d ≤ maxLen) (hfl : fr.length ≤ 1000) (hfc : fr.length ≤ cf) (hfm : cf ≤ maxLen) (hp : (Lit.int .i64 pt).wf = true) (hS : ∀ k, S k → k < w.heap.size) (hA : RdL Kd.sb S w A hs) (hB : RdL Kd.byte S w B bs) (hD : RdL Kd.byte S w D fr) :
    Calls Try.prog 30 #[.slice A hs.length c, .int .i64 4, .int .i64 pt, .int .u32 (m.toNat : Int), .slice B bs.length d, .slice D fr.length cf] w (RPost w S [] (fr :: hs.reverse)) := by
  refine cps fun R hR => ?_
  obtain ⟨W, hW⟩ : ∃ W, W = (w.alloc (.cells #[] 57)).alloc (.cells #[.slice D fr.length cf] 57) := ⟨_, rfl⟩
  have hbW : Below w.heap.size w W := by rw [hW]; exact ((balloc w _).alloc (by simp) _)
  have hzW : W.heap.size = w.heap.size + 2 := by rw [hW]; simp
  have hSW : ∀ k, S k → k < W.heap.size := fun k hk => by have := hS k hk; omega
  have hrow : OR Kd.sb S W 57 (.slice (some ⟨w.heap.size + 1, 0, none⟩) 1 1) [.slice D fr.length cf] [fr] := by
    have := lit_sb (w := w.alloc (.cells #[] 57)) (S := S) (us := [.slice D fr.length cf]) (xs := [fr]) rfl (by unfold maxLen; simp) (fun k hk => by have := hS k hk; simp; omega) (by
      intro i u x hu hx
      match i, hu, hx with
      | 0, hu, hx =>
        simp at hu hx; subst hu; subst hx
        exact sb_val hfc hfm (hD.keep fun k hk => (balloc w _).block k (hS k hk))
      | i + 1, hu, _ => simp at hu)
    simp only [World.size_alloc] at this
    rw [hW]; exact this
  have htn := hide (refturned_calls A hs c S W (by omega) hc hcm hSW (hA.keep fun k hk => hbW.block k (hS k hk)))
  have HW := hide hW
  have HbW := hide hbW
  have HzW := hide hzW
  have Hrow := hide hrow
  have HSW := hide hSW
  have HS0 := hide hS
  clear hA hB hD hS hW hbW hzW hrow hSW
  go_enter Try.func30, Try.ntmps30
  go_wp2_with fail
  rw [← HW.out]
  clear HW
  refine htn.out.mono ?_
  rintro _ w2 ⟨A2, c2, us, rfl, hor2, ho2, hb2⟩
  have hul := hor2.len
  rw [List.length_reverse] at hul
  have r2 := hide (Hrow.out.row.keep (w' := w2) fun k hk => hb2.block k (Hrow.out.row.lt hk))
  have s2 := hide hor2.row.src
  have one2 := hide (show ∀ u ∈ us, u.oneCell' = true from fun u hu => by
    obtain ⟨i, hi, rfl⟩ := List.mem_iff_getElem.1 hu
    have hi' : i < hs.reverse.length := by rw [List.length_reverse]; omega
    obtain ⟨A1, c1, e1, -⟩ := hor2.el i us[i] hs.reverse[i] (List.getElem?_eq_getElem hi) (List.getElem?_eq_getElem hi')
    injection e1 with e1
    rw [e1]; rfl)
  have Hor2 := hide hor2
  have Hb2 := hide hb2
  have Hul := hide hul
  clear hor2 ho2 hb2 hul htn
  go_wp2_with (at_builtin; with_reducible refine wp_app 41 rfl rfl (.tmp 38) (.tmp 40) 60 rfl Try.underlying60 infoSB ?_ (us := [.slice D fr.length cf]) ?_ r2.out (A := A2) (c := c2) (news := us) ?_ s2.out one2.out ?_ ?_ ?_)
  all_goals first | rfl | (rw [Hul.out]; rfl) | (rw [Hul.out, List.length_singleton]; omega) | (rw [Hul.out, List.length_singleton]; unfold maxLen; omega) | (rw [Hul.out]; omega) | skip
  intro v4 w4 hr4 g4 o4
  obtain ⟨A4, c4, rfl, hc4, hm4⟩ := hr4.shape
  have el : ([Value.slice D fr.length cf] ++ us).length = (fr :: hs.reverse).length := by rw [List.length_append, List.length_singleton, Hul.out, List.length_cons, List.length_reverse]; omega
  rw [el] at hr4 o4 hc4 ⊢
  have Hr4 := hide hr4
  have G4 := hide g4
  have O4 := hide o4
  have Hc4 := hide (show (fr :: hs.reverse).length ≤ c4 ∧ c4 ≤ maxLen from ⟨hc4, hm4⟩)
  clear hr4 g4 o4 el hc4 hm4
  go_wp2_with fail
  have hz := HzW.out
  have hB2 := below_trN HbW.out HbW.out.size Hb2.out
  have s2' := Hb2.out.size
  have hB4 : Below w.heap.size w w4 := (Ch.of_grown G4.out).below hB2 hB2.size fun k hk => by have := own_lit hk; omega
  have ho4 : ∀ k, (Value.slice A4 (fr :: hs.reverse).length c4).ownBlock = some k → w.heap.size ≤ k := fun k hk => by
    rcases O4.out with e | e
    · rw [e] at hk; have := own_lit hk; omega
    · rw [hk] at e; injection e with e; omega
  have hrow : OR Kd.sb S w4 57 (.slice A4 (fr :: hs.reverse).length c4) ([.slice D fr.length cf] ++ us) ([fr] ++ hs.reverse) := by
    refine OR.app (w' := w4) (S' := S) Hrow.out (fun k hk => ?_) (fun k hk => hk) Hr4.out Hor2.out.len fun i u x hu hx => Kd.sb.keep (fun k hk => ?_) (Hor2.out.el i u x hu hx)
    · have h1 := HSW.out k hk
      have h2 : k ≠ w.heap.size + 1 := by have := HS0.out k hk; omega
      exact (G4.out.block k (by omega) fun e => h2 (own_lit e.symm)).trans (Hb2.out.block k h1)
    · have h1 := HSW.out k hk
      have h2 : k ≠ w.heap.size + 1 := by have := HS0.out k hk; omega
      exact G4.out.block k (by omega) fun e => h2 (own_lit e.symm)
  have hrd := or_sb (w := w) (S := S) hrow (fun k hk => .inl hk) ho4
  exact hR.out _ _ ⟨_, 0, A4, c4, by rw [List.length_cons, List.length_reverse]; rfl, Nat.le_refl _, by unfold maxLen; simp, Hc4.out.1, Hc4.out.2, RdL.nil, hrd, hB4⟩
theorem rdo_calls (kind pt : Int) (m : UInt32) (A : Option Addr) (hs : List (List UInt8)) (c : Nat) (B : Option Addr) (bs : List UInt8) (d : Nat) (D : Option Addr) (fr : List UInt8) (cf : Nat) (S : Nat → Prop) (w : World) (hhl : hs.length ≤ 1000) (hc : hs.length ≤ c) (hcm : c ≤ maxLen) (hbd : bs.length ≤ d) (hdm : d ≤ maxLen) (hfl : fr.length ≤ 1000) (hfc : fr.length ≤ cf) (hfm : cf ≤ maxLen) (hp : (Lit.int .i64 pt).wf = true) (hS : ∀ k, S k → k < w.heap.size) (hA : RdL Kd.sb S w A hs) (hB : RdL Kd.byte S w B bs) (hD : RdL Kd.byte S w D fr) :
    Calls Try.prog 30 #[.slice A hs.length c, .int .i64 kind, .int .i64 pt, .int .u32 (m.toNat : Int), .slice B bs.length d, .slice D fr.length cf] w (RPost w S (doL hs kind pt m bs fr).1 (doL hs kind pt m bs fr).2) := by
  unfold doL
  by_cases h1 : kind = 1
  · subst h1; exact rdo1 pt m A hs c B bs d D fr cf S w hhl hc hcm hbd hdm hfl hfc hfm hp hS hA hB hD
  by_cases h2 : kind = 2
  · subst h2; exact rdo2 pt m A hs c B bs d D fr cf S w hhl hc hcm hbd hdm hfl hfc hfm hp hS hA hB hD
  by_cases h3 : kind = 3
  · subst h3; exact rdo3 pt m A hs c B bs d D fr cf S w hhl hc hcm hbd hdm hfl hfc hfm hp hS hA hB hD
  by_cases h4 : kind = 4
  · subst h4; exact rdo4 pt m A hs c B bs d D fr cf S w hhl hc hcm hbd hdm hfl hfc hfm hp hS hA hB hD
  by_cases h5 : kind = 5
  · subst h5; exact rdo5 pt m A hs c B bs d D fr cf S w hhl hc hcm hbd hdm hfl hfc hfm hp hS hA hB hD
  by_cases h6 : kind = 6
  · subst h6; exact rdo6 pt m A hs c B bs d D fr cf S w hhl hc hcm hbd hdm hfl hfc hfm hp hS hA hB hD
  by_cases h7 : kind = 7
  · subst h7; exact rdo7 pt m A hs c B bs d D fr cf S w hhl hc hcm hbd hdm hfl hfc hfm hp hS hA hB hD
  rw [if_neg h1, if_neg h2, if_neg h3, if_neg h4, if_neg h5, if_neg h6, if_neg h7]
  exact rdo0 kind (by omega) pt m A hs c B bs d D fr cf S w hhl hc hcm hbd hdm hfl hfc hfm hp hS hA hB hD
/-- Bytes, the first k of them one more each. -/
def incK (k : Nat) (b : List UInt8) : List UInt8 := (b.take k).map (· + 1) ++ b.drop k
theorem Wr.rd {w : World} {A : Option Addr} {g : Nat} {pre post : List Value} {e : TypeId} {ts : List UInt8} (h : Wr w A g pre post e ts) : RdL Kd.byte (· = g) w A ts := fun hp => by
  obtain ⟨hA, hh⟩ := h hp
  refine ⟨g, pre.length, hA, rfl, fun i x hx => ⟨[.int .u8 (x.toNat : Int)], ⟨_, rfl, rfl⟩, fun j u hu => ?_⟩⟩
  have hi : i < ts.length := (List.getElem?_eq_some_iff.1 hx).1
  rw [List.getElem?_eq_getElem hi] at hx
  injection hx with hx
  cases j with
  | zero =>
    simp at hu; subst hu; subst hx
    show w.cell? ⟨g, pre.length + (i * 1 + 0), none⟩ = _
    rw [Nat.mul_one, Nat.add_zero]
    exact (h.cell hi).2.1
  | succ j => simp at hu
def incL (b : List UInt8) : List UInt8 := b.map (· + 1)
theorem incK_zero (b : List UInt8) : incK 0 b = b := by simp [incK]
theorem incK_all (b : List UInt8) : incK b.length b = incL b := by simp [incK, incL]
theorem incK_len (k : Nat) (b : List UInt8) : (incK k b).length = b.length := by simp [incK]; omega
theorem incK_get (k : Nat) (b : List UInt8) (h : k < b.length) : (incK k b)[k]'(by rw [incK_len]; exact h) = b[k] := by
  simp only [incK]
  rw [List.getElem_append_right (by simp; omega)]
  simp [Nat.min_eq_left (Nat.le_of_lt h)]
theorem incK_succ (k : Nat) (b : List UInt8) (h : k < b.length) : incK (k + 1) b = (incK k b).set k (b[k] + 1) := by
  unfold incK
  rw [List.take_succ_eq_append_getElem h, List.map_append, List.set_append]
  simp [Nat.min_eq_left (Nat.le_of_lt h)]
  rw [List.drop_eq_getElem_cons h]; rfl
theorem inc_u8 (x : UInt8) : IntKind.u8.wrap ((x.toNat : Int) + 1) = ((x + 1).toNat : Int) := by
  rw [UInt8.toNat_add]
  simp [IntKind.wrap, IntKind.bits, IntKind.signed]
set_option maxHeartbeats 1000000 in
theorem plus_calls (A : Option Addr) (b : List UInt8) (c : Nat) (S : Nat → Prop) (w : World) (hl : b.length ≤ 1000) (hS : ∀ k, S k → k < w.heap.size) (h : RdL Kd.byte S w A b) :
    Calls Try.prog 34 #[.slice A b.length c] w fun e w' => ∃ A' c', e = .returned (.slice A' b.length c') ∧ RdL Kd.byte (newB w w') w' A' (incL b) ∧ Below w.heap.size w w' := by
  refine cps fun R hR => ?_
  have hb0 := balloc w (.cells #[] 5)
  have s1 := hide ((h.keep (w' := w.alloc (.cells #[] 5)) fun k hk => hb0.block k (hS k hk)).srcB)
  have Hb0 := hide hb0
  have hle := hide (show (b.map encB).length = b.length from List.length_map _)
  clear h hS hb0
  obtain ⟨N, hN⟩ : ∃ N, N = b.length := ⟨_, rfl⟩
  rw [← hN] at hl hle ⊢
  have HN := hide hN
  clear hN
  go_enter Try.func34, Try.ntmps34
  go_wp2_with (at_builtin; with_reducible refine wp_app_lit 7 rfl rfl (.tmp 5) (.tmp 6) 57 rfl Try.underlying57 infoB ?_ (g := w.heap.size) ?_ (A := A) (c := c) (news := b.map encB) ?_ ?_ ?_ ?_ ?_ ?_)
  case refine_1 => rfl
  case refine_2 => rfl
  case refine_3 => rw [hle.out]; rfl
  case refine_4 => exact s1.out
  case refine_5 => exact encB_one b
  case refine_6 => rw [hle.out]; omega
  case refine_7 => rw [hle.out]; unfold maxLen; omega
  case refine_8 =>
  intro v w2 hn
  obtain ⟨A2, c2, rfl, hk2, hb2'⟩ := hn.ow
  have hsz0 : w.heap.size ≤ (w.alloc (.cells #[] 5)).heap.size := by simp
  have hb2 : Below w.heap.size w w2 := Hb0.out.trans (hb2'.mono hsz0)
  have hk2' : Kd.ow.R (fun k => w.heap.size ≤ k ∧ k < w2.heap.size) w2 b [.slice A2 b.length c2] := Kd.ow.mono (fun k hk => ⟨by have := hk.1; omega, hk.2⟩) hk2
  obtain ⟨hc2, hm2, g2, post2, e2, hw2, hg2, hg2l⟩ := ow_wr hb2.size hk2'
  have Hw2 := hide hw2
  have Hb2 := hide hb2
  have Hg2 := hide (show w.heap.size ≤ g2 ∧ (0 < b.length → g2 < w2.heap.size) from ⟨hg2, hg2l⟩)
  rw [← HN.out]
  clear hk2 hk2' hw2 hb2 hg2 hg2l hm2 hc2 hn hb2' hsz0 s1
  go_wp2_with fail
  go_loopw [10] (fun i wr => ∃ (j : Nat), j ≤ N ∧ i = .int .i64 (j : Int) ∧ Wr wr A2 g2 [] post2 e2 (incK j b) ∧ Ch (· = g2) w2 wr) (fun i _ => N - (intOf i).toNat)
  case atStart => exact ⟨0, Nat.zero_le _, rfl, by rw [incK_zero]; exact Hw2.out, Ch.refl _⟩
  case round =>
    obtain ⟨j, hj, rfl, hwr, hch⟩ := hrel
    by_cases hjl : j < N
    · have hjb : j < b.length := by have := HN.out; omega
      obtain ⟨hA, hc1, hf1⟩ := hwr.cell (i := j) (by rw [incK_len]; exact hjb)
      have hset := hwr.set (i := j) (by rw [incK_len]; exact hjb) (b[j] + 1)
      rw [incK_get j b hjb] at hc1
      rw [← incK_succ j b hjb] at hset
      simp only [List.length_nil, Nat.zero_add] at hA hc1 hf1 hset
      have hinc := inc_u8 b[j]
      obtain ⟨x, hx⟩ : ∃ x, x = b[j] := ⟨_, rfl⟩
      rw [← hx] at hc1 hset hinc
      obtain ⟨y, hy⟩ : ∃ y, y = x + 1 := ⟨_, rfl⟩
      rw [← hy] at hset hinc
      have Hset := hide hset
      have Hch := hide hch
      subst hA
      have hxl : (x.toNat : Int) < 256 := by have := x.toNat_lt; omega
      clear hset hch hx hy hwr
      go_wp2_with fail
      exact ⟨⟨j + 1, by omega, by rw [Int.natCast_succ], Hset.out, Hch.out.trans (Ch.set wr ⟨g2, j, none⟩ (.int .u8 (y.toNat : Int))) fun b hb => .inl hb⟩, by simp only [intOf]; omega⟩
    · obtain rfl : j = N := by omega
      have hjb := HN.out
      have Hwr := hide hwr
      have Hch := hide hch
      clear hwr hch
      go_wp2_with fail
      have hbel := Hch.out.below Hb2.out Hb2.out.size fun q hq => by have := Hg2.out; omega
      subst hjb
      have hw := Hwr.out
      rw [incK_all] at hw
      refine hR.out _ _ ⟨A2, c2, rfl, fun hp => (hw.rd.mono (S' := newB w wr) fun k hk => ?_) hp, hbel⟩
      subst hk
      have h0 : 0 < b.length := by simpa [incL] using hp
      exact ⟨Hg2.out.1, Nat.lt_of_lt_of_le (Hg2.out.2 h0) Hch.out.size⟩
end Go.Proofs.Ytehkdionodnhjaa
