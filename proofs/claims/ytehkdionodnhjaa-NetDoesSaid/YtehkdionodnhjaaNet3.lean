/- What a net does to a frame, walked kind by kind. -/
import Derived.Test.YtehkdionodnhjaaNet2
import Derived.Deep.Cut
import Derived.Deep.CutRange
set_option linter.unusedVariables false
set_option linter.unusedSimpArgs false
namespace Go.Proofs.Ytehkdionodnhjaa
open Go.RowKit

/-- What is held, and what comes. -/
def doL (hs : List (List UInt8)) (kind pt : Int) (m : UInt32) (bs fr : List UInt8) : List (List UInt8) × List (List UInt8) :=
  if kind = 1 then (hs, []) else if kind = 2 then (hs, [fr, fr]) else if kind = 3 then (hs ++ [fr], []) else if kind = 4 then ([], fr :: hs.reverse)
  else if kind = 5 then (hs, [fr.take (plN pt fr.length)]) else if kind = 6 then (hs, [flipL fr pt m]) else if kind = 7 then (hs, [bs, fr]) else (hs, [fr])
theorem own_lit {b n c k : Nat} (h : (Value.slice (some ⟨b, 0, none⟩) n c).ownBlock = some k) : k = b := by
  have e : some b = some k := h
  injection e with e; exact e.symm
def newB (w w' : World) (k : Nat) : Prop := w.heap.size ≤ k ∧ k < w'.heap.size
section
variable {w w1 w' : World} {S : Nat → Prop} {g : Nat} {hs xs : List (List UInt8)} {r : Value} {us : List Value}
theorem came_new (h : NS w S g hs) (hb : Below w.heap.size w w') (hr : OR Kd.ow (newB w w') w' 57 r us xs) (ho : ∀ k, r.ownBlock = some k → w.heap.size ≤ k) : Came w w' S S (newB w w') g hs r us xs := by
  have hlt := h.lt
  refine ⟨hr, h.below hb, Ch.of_below hb, fun k hk => .inl hk, fun k hk => ?_⟩
  rcases hk with hk | hk
  · exact ⟨fun hs => by have := hlt k hs; have := hk.1; omega, .inr hk.1, hk.2⟩
  · have := ho k hk
    exact ⟨fun hs => by have := hlt k hs; omega, .inr this, hr.row.lt hk⟩
theorem ow_grow {w0 wa wb : World} {b : List UInt8} {u : Value} (hw : wa.heap.size ≤ wb.heap.size) (h : Kd.ow.R (newB w0 wa) wa b [u]) (hb : Below wa.heap.size wa wb) : Kd.ow.R (newB w0 wb) wb b [u] :=
  Kd.ow.mono (fun k hk => ⟨hk.1, Nat.lt_of_lt_of_le hk.2 hw⟩) (Kd.ow.keep (fun k hk => hb.block k hk.2) h)
theorem ow_from {w0 wa wb : World} {b : List UInt8} {u : Value} (hw : w0.heap.size ≤ wa.heap.size) (h : Kd.ow.R (newB wa wb) wb b [u]) : Kd.ow.R (newB w0 wb) wb b [u] :=
  Kd.ow.mono (fun k hk => ⟨Nat.le_trans hw hk.1, hk.2⟩) h
/-- One frame alone, in a new row. -/
theorem row1 {wb : World} {A : Option Addr} {c : Nat} {b : List UInt8} (hw : w.heap.size ≤ wb.heap.size) (h : Kd.ow.R (newB w wb) wb b [.slice A b.length c]) :
    OR Kd.ow (newB w (wb.alloc (.cells #[.slice A b.length c] 57))) (wb.alloc (.cells #[.slice A b.length c] 57)) 57 (.slice (some ⟨wb.heap.size, 0, none⟩) 1 1) [.slice A b.length c] [b] := by
  refine OR.lit (us := [.slice A b.length c]) (xs := [b]) rfl (by unfold maxLen; simp) fun i u x hu hx => ?_
  cases i with
  | zero =>
    simp at hu hx; subst hu; subst hx
    exact ow_grow (by simp) h (balloc wb _)
  | succ i => simp at hu
theorem row2 {wb : World} {A A' : Option Addr} {c c' : Nat} {b b' : List UInt8} (hw : w.heap.size ≤ wb.heap.size) (h : Kd.ow.R (newB w wb) wb b [.slice A b.length c]) (h' : Kd.ow.R (newB w wb) wb b' [.slice A' b'.length c']) :
    OR Kd.ow (newB w (wb.alloc (.cells #[.slice A b.length c, .slice A' b'.length c'] 57))) (wb.alloc (.cells #[.slice A b.length c, .slice A' b'.length c'] 57)) 57 (.slice (some ⟨wb.heap.size, 0, none⟩) 2 2) [.slice A b.length c, .slice A' b'.length c'] [b, b'] := by
  refine OR.lit (us := [.slice A b.length c, .slice A' b'.length c']) (xs := [b, b']) rfl (by unfold maxLen; simp) fun i u x hu hx => ?_
  match i, hu, hx with
  | 0, hu, hx =>
    simp at hu hx; subst hu; subst hx
    exact ow_grow (by simp) h (balloc wb _)
  | 1, hu, hx =>
    simp at hu hx; subst hu; subst hx
    exact ow_grow (by simp) h' (balloc wb _)
  | i + 2, hu, _ => simp at hu
abbrev opV (kind pt : Int) (m : UInt32) (B : Option Addr) (n d : Nat) : Value := .agg #[.int .i64 kind, .int .i64 pt, .int .u32 (m.toNat : Int), .slice B n d]
abbrev opO (kind pt : Int) (m : UInt32) (B : Option Addr) (n d : Nat) : Obj := .cells #[.int .i64 kind, .int .i64 pt, .int .u32 (m.toNat : Int), .slice B n d] 59
def DoPost (w : World) (S : Nat → Prop) (g : Nat) (hs' xs : List (List UInt8)) (e : Ending) (w' : World) : Prop := ∃ A c us S' T, e = .returned (.slice A xs.length c) ∧ Came w w' S S' T g hs' (.slice A xs.length c) us xs
set_option maxHeartbeats 1000000 in
theorem do1 (pt : Int) (m : UInt32) (B : Option Addr) (bs : List UInt8) (d : Nat) (A : Option Addr) (fr : List UInt8) (c : Nat) (SF : Nat → Prop) (w : World) (h : NS w S g hs) (hl : fr.length ≤ 1000) (hhl : hs.length ≤ 1000) (hp : (Lit.int .i64 pt).wf = true) (hd : bs.length ≤ d) (hdm : d ≤ maxLen) (hc : fr.length ≤ c) (hcm : c ≤ maxLen) (hSF : ∀ k, SF k → k < w.heap.size) (hf : RdL Kd.byte SF w A fr) (hB : RdL Kd.byte SF w B bs) :
    Calls Try.prog 29 #[.pointer (some ⟨g, 0, none⟩), opV 1 pt m B bs.length d, .slice A fr.length c] w (DoPost w S g hs []) := by
  refine cps fun R hR => ?_
  have hb1 := hide (balloc w (opO 1 pt m B bs.length d))
  have hrf := hide (hf.keep (w' := w.alloc (opO 1 pt m B bs.length d)) fun k hk => hb1.out.block k (hSF k hk))
  have hsf := hide (show ∀ k, SF k → k < (w.alloc (opO 1 pt m B bs.length d)).heap.size from fun k hk => by have := hSF k hk; simp; omega)
  have Hns := hide h
  clear h hf hSF
  go_enter Try.func29, Try.ntmps29
  go_wp2_with fail
  exact hR.out _ _ ⟨none, 0, [], S, _, rfl, came_new Hns.out hb1.out OR.nil fun k hk => by cases hk⟩
theorem below_trN {a : Nat} {w w1 w2 : World} (h : Below a w w1) (ha : a ≤ w1.heap.size) (h2 : Below w1.heap.size w1 w2) : Below a w w2 := h.trans (h2.mono ha)
set_option maxHeartbeats 1000000 in
theorem do0 (kind : Int) (hk : kind < 1 ∨ 7 < kind) (pt : Int) (m : UInt32) (B : Option Addr) (bs : List UInt8) (d : Nat) (A : Option Addr) (fr : List UInt8) (c : Nat) (SF : Nat → Prop) (w : World) (h : NS w S g hs) (hl : fr.length ≤ 1000) (hhl : hs.length ≤ 1000) (hp : (Lit.int .i64 pt).wf = true) (hd : bs.length ≤ d) (hdm : d ≤ maxLen) (hc : fr.length ≤ c) (hcm : c ≤ maxLen) (hSF : ∀ k, SF k → k < w.heap.size) (hf : RdL Kd.byte SF w A fr) (hB : RdL Kd.byte SF w B bs) :
    Calls Try.prog 29 #[.pointer (some ⟨g, 0, none⟩), opV kind pt m B bs.length d, .slice A fr.length c] w (DoPost w S g hs [fr]) := by
  refine cps fun R hR => ?_
  have hb1 := hide (balloc w (opO kind pt m B bs.length d))
  have hrf := hide (hf.keep (w' := w.alloc (opO kind pt m B bs.length d)) fun k hk => hb1.out.block k (hSF k hk))
  have hsf := hide (show ∀ k, SF k → k < (w.alloc (opO kind pt m B bs.length d)).heap.size from fun k hk => by have := hSF k hk; simp; omega)
  have Hns := hide h
  clear h hf hSF
  have t1 : (kind == 1) = false := by simp; omega
  have t2 : (kind == 2) = false := by simp; omega
  have t3 : (kind == 3) = false := by simp; omega
  have t4 : (kind == 4) = false := by simp; omega
  have t5 : (kind == 5) = false := by simp; omega
  have t6 : (kind == 6) = false := by simp; omega
  have t7 : (kind == 7) = false := by simp; omega
  have hcl := hide (clone_calls A fr c SF _ (by omega) hsf.out hrf.out)
  go_enter Try.func29, Try.ntmps29
  go_wp2_with fail
  refine hcl.out.mono ?_
  rintro _ w2 ⟨A2, c2, rfl, hk2, hb2⟩
  have Hk2 := hide hk2
  have Hb2 := hide hb2
  clear hk2 hb2 hcl
  go_wp2_with fail
  have hsz : w.heap.size ≤ (w.alloc (opO kind pt m B bs.length d)).heap.size := by simp
  have hB2 : Below w.heap.size w w2 := below_trN hb1.out hsz Hb2.out
  have hs2 := hB2.size
  have hrow := row1 (w := w) (wb := w2) hs2 (ow_from hsz Hk2.out)
  exact hR.out _ _ ⟨_, _, _, S, _, rfl, came_new Hns.out (hB2.alloc hs2 _) hrow fun k hk => by have e := own_lit hk; omega⟩
set_option maxHeartbeats 1000000 in
theorem do2 (pt : Int) (m : UInt32) (B : Option Addr) (bs : List UInt8) (d : Nat) (A : Option Addr) (fr : List UInt8) (c : Nat) (SF : Nat → Prop) (w : World) (h : NS w S g hs) (hl : fr.length ≤ 1000) (hhl : hs.length ≤ 1000) (hp : (Lit.int .i64 pt).wf = true) (hd : bs.length ≤ d) (hdm : d ≤ maxLen) (hc : fr.length ≤ c) (hcm : c ≤ maxLen) (hSF : ∀ k, SF k → k < w.heap.size) (hf : RdL Kd.byte SF w A fr) (hB : RdL Kd.byte SF w B bs) :
    Calls Try.prog 29 #[.pointer (some ⟨g, 0, none⟩), opV 2 pt m B bs.length d, .slice A fr.length c] w (DoPost w S g hs [fr, fr]) := by
  refine cps fun R hR => ?_
  have hb1 := hide (balloc w (opO 2 pt m B bs.length d))
  have hrf := hide (hf.keep (w' := w.alloc (opO 2 pt m B bs.length d)) fun k hk => hb1.out.block k (hSF k hk))
  have hsf := hide (show ∀ k, SF k → k < (w.alloc (opO 2 pt m B bs.length d)).heap.size from fun k hk => by have := hSF k hk; simp; omega)
  have Hns := hide h
  clear h hf hSF
  have hcl := hide (clone_calls A fr c SF _ (by omega) hsf.out hrf.out)
  go_enter Try.func29, Try.ntmps29
  go_wp2_with fail
  refine hcl.out.mono ?_
  rintro _ w2 ⟨A2, c2, rfl, hk2, hb2⟩
  have hcl2 := hide (clone_calls A fr c SF w2 (by omega) (fun k hk => by have := hsf.out k hk; have := hb2.size; omega) (hrf.out.keep fun k hk => hb2.block k (hsf.out k hk)))
  have Hk2 := hide hk2
  have Hb2 := hide hb2
  clear hk2 hb2 hcl
  go_wp2_with fail
  refine hcl2.out.mono ?_
  rintro _ w3 ⟨A3, c3, rfl, hk3, hb3⟩
  have Hk3 := hide hk3
  have Hb3 := hide hb3
  clear hk3 hb3 hcl2
  go_wp2_with fail
  have hsz : w.heap.size ≤ (w.alloc (opO 2 pt m B bs.length d)).heap.size := by simp
  have hB2 : Below w.heap.size w w2 := below_trN hb1.out hsz Hb2.out
  have hs2 := hB2.size
  have hB3 := below_trN hB2 hs2 Hb3.out
  have hs3 := hB3.size
  have hrow := row2 (w := w) (wb := w3) hs3 (ow_grow Hb3.out.size (ow_from hsz Hk2.out) Hb3.out) (ow_from hs2 Hk3.out)
  exact hR.out _ _ ⟨_, _, _, S, _, rfl, came_new Hns.out (hB3.alloc hs3 _) hrow fun k hk => by have e := own_lit hk; omega⟩
set_option maxHeartbeats 1000000 in
theorem do7 (pt : Int) (m : UInt32) (B : Option Addr) (bs : List UInt8) (d : Nat) (A : Option Addr) (fr : List UInt8) (c : Nat) (SF : Nat → Prop) (w : World) (h : NS w S g hs) (hl : fr.length ≤ 1000) (hhl : hs.length ≤ 1000) (hbl : bs.length ≤ 1000) (hp : (Lit.int .i64 pt).wf = true) (hd : bs.length ≤ d) (hdm : d ≤ maxLen) (hc : fr.length ≤ c) (hcm : c ≤ maxLen) (hSF : ∀ k, SF k → k < w.heap.size) (hf : RdL Kd.byte SF w A fr) (hB : RdL Kd.byte SF w B bs) :
    Calls Try.prog 29 #[.pointer (some ⟨g, 0, none⟩), opV 7 pt m B bs.length d, .slice A fr.length c] w (DoPost w S g hs [bs, fr]) := by
  refine cps fun R hR => ?_
  have hb1 := hide (balloc w (opO 7 pt m B bs.length d))
  have hrf := hide (hf.keep (w' := w.alloc (opO 7 pt m B bs.length d)) fun k hk => hb1.out.block k (hSF k hk))
  have hsf := hide (show ∀ k, SF k → k < (w.alloc (opO 7 pt m B bs.length d)).heap.size from fun k hk => by have := hSF k hk; simp; omega)
  have Hns := hide h
  have hrb := hide (hB.keep (w' := w.alloc (opO 7 pt m B bs.length d)) fun k hk => hb1.out.block k (hSF k hk))
  clear h hf hSF
  have hcl := hide (clone_calls B bs d SF _ (by omega) hsf.out hrb.out)
  go_enter Try.func29, Try.ntmps29
  go_wp2_with fail
  refine hcl.out.mono ?_
  rintro _ w2 ⟨A2, c2, rfl, hk2, hb2⟩
  have hcl2 := hide (clone_calls A fr c SF w2 (by omega) (fun k hk => by have := hsf.out k hk; have := hb2.size; omega) (hrf.out.keep fun k hk => hb2.block k (hsf.out k hk)))
  have Hk2 := hide hk2
  have Hb2 := hide hb2
  clear hk2 hb2 hcl
  go_wp2_with fail
  refine hcl2.out.mono ?_
  rintro _ w3 ⟨A3, c3, rfl, hk3, hb3⟩
  have Hk3 := hide hk3
  have Hb3 := hide hb3
  clear hk3 hb3 hcl2
  go_wp2_with fail
  have hsz : w.heap.size ≤ (w.alloc (opO 7 pt m B bs.length d)).heap.size := by simp
  have hB2 : Below w.heap.size w w2 := below_trN hb1.out hsz Hb2.out
  have hs2 := hB2.size
  have hB3 := below_trN hB2 hs2 Hb3.out
  have hs3 := hB3.size
  have hrow := row2 (w := w) (wb := w3) hs3 (ow_grow Hb3.out.size (ow_from hsz Hk2.out) Hb3.out) (ow_from hs2 Hk3.out)
  exact hR.out _ _ ⟨_, _, _, S, _, rfl, came_new Hns.out (hB3.alloc hs3 _) hrow fun k hk => by have e := own_lit hk; omega⟩
set_option maxHeartbeats 1000000 in
theorem do5 (pt : Int) (m : UInt32) (B : Option Addr) (bs : List UInt8) (d : Nat) (A : Option Addr) (fr : List UInt8) (c : Nat) (SF : Nat → Prop) (w : World) (h : NS w S g hs) (hl : fr.length ≤ 1000) (hhl : hs.length ≤ 1000) (hp : (Lit.int .i64 pt).wf = true) (hd : bs.length ≤ d) (hdm : d ≤ maxLen) (hc : fr.length ≤ c) (hcm : c ≤ maxLen) (hSF : ∀ k, SF k → k < w.heap.size) (hf : RdL Kd.byte SF w A fr) (hB : RdL Kd.byte SF w B bs) :
    Calls Try.prog 29 #[.pointer (some ⟨g, 0, none⟩), opV 5 pt m B bs.length d, .slice A fr.length c] w (DoPost w S g hs [fr.take (plN pt fr.length)]) := by
  refine cps fun R hR => ?_
  have hb1 := hide (balloc w (opO 5 pt m B bs.length d))
  have hrf := hide (hf.keep (w' := w.alloc (opO 5 pt m B bs.length d)) fun k hk => hb1.out.block k (hSF k hk))
  have hsf := hide (show ∀ k, SF k → k < (w.alloc (opO 5 pt m B bs.length d)).heap.size from fun k hk => by have := hSF k hk; simp; omega)
  have Hns := hide h
  clear h hf hSF
  have hpl := hide (place_calls pt fr.length (w.alloc (opO 5 pt m B bs.length d)) (by omega) hp)
  have hle := plN_le pt fr.length
  obtain ⟨q, hq⟩ : ∃ q, q = plN pt fr.length := ⟨_, rfl⟩
  rw [← hq] at hpl hle hR
  clear hq
  have htl : (fr.take q).length = q := by rw [List.length_take]; omega
  have hcl : Hid (Calls Try.prog 38 #[.slice A q c] (w.alloc (opO 5 pt m B bs.length d)) fun e w' => ∃ A' c', e = .returned (.slice A' q c') ∧ Kd.ow.R (newB (w.alloc (opO 5 pt m B bs.length d)) w') w' (fr.take q) [.slice A' q c'] ∧ Below (w.alloc (opO 5 pt m B bs.length d)).heap.size (w.alloc (opO 5 pt m B bs.length d)) w') := hide (by
    have := clone_calls A (fr.take q) c SF _ (by omega) hsf.out (hrf.out.take q)
    rw [htl] at this
    exact this)
  have Htl := hide htl
  unfold maxLen at hcm
  obtain ⟨N, hN⟩ : ∃ N, N = fr.length := ⟨_, rfl⟩
  rw [← hN] at hpl hl hc hle ⊢
  have i0 : (0 : Int) ≤ (q : Int) := by omega
  have i1 : (q : Int) ≤ (N : Int) := by omega
  have i2 : (q : Int) ≤ (c : Int) := by omega
  clear hN htl
  go_enter Try.func29, Try.ntmps29
  go_wp2_with fail
  refine hpl.out.mono ?_
  rintro _ w1 ⟨rfl, rfl⟩
  go_wp2_with fail
  refine hcl.out.mono ?_
  rintro _ w2 ⟨A2, c2, rfl, hk2, hb2⟩
  have Hk2 := hide hk2
  have Hb2 := hide hb2
  clear hk2 hb2 hcl
  go_wp2_with fail
  have hsz : w.heap.size ≤ (w.alloc (opO 5 pt m B bs.length d)).heap.size := by simp
  have hB2 : Below w.heap.size w w2 := below_trN hb1.out hsz Hb2.out
  have hs2 := hB2.size
  have hk3 : Kd.ow.R (newB w w2) w2 (fr.take q) [.slice A2 (fr.take q).length c2] := by rw [Htl.out]; exact ow_from hsz Hk2.out
  have hrow := row1 (w := w) (wb := w2) hs2 hk3
  rw [Htl.out] at hrow
  exact hR.out _ _ ⟨_, _, _, S, _, rfl, came_new Hns.out (hB2.alloc hs2 _) hrow fun k hk => by have e := own_lit hk; omega⟩
set_option maxHeartbeats 1000000 in
theorem do6 (pt : Int) (m : UInt32) (B : Option Addr) (bs : List UInt8) (d : Nat) (A : Option Addr) (fr : List UInt8) (c : Nat) (SF : Nat → Prop) (w : World) (h : NS w S g hs) (hl : fr.length ≤ 1000) (hhl : hs.length ≤ 1000) (hp : (Lit.int .i64 pt).wf = true) (hd : bs.length ≤ d) (hdm : d ≤ maxLen) (hc : fr.length ≤ c) (hcm : c ≤ maxLen) (hSF : ∀ k, SF k → k < w.heap.size) (hf : RdL Kd.byte SF w A fr) (hB : RdL Kd.byte SF w B bs) :
    Calls Try.prog 29 #[.pointer (some ⟨g, 0, none⟩), opV 6 pt m B bs.length d, .slice A fr.length c] w (DoPost w S g hs [flipL fr pt m]) := by
  refine cps fun R hR => ?_
  have hb1 := hide (balloc w (opO 6 pt m B bs.length d))
  have hrf := hide (hf.keep (w' := w.alloc (opO 6 pt m B bs.length d)) fun k hk => hb1.out.block k (hSF k hk))
  have hsf := hide (show ∀ k, SF k → k < (w.alloc (opO 6 pt m B bs.length d)).heap.size from fun k hk => by have := hSF k hk; simp; omega)
  have Hns := hide h
  clear h hf hSF
  have hcl := hide (flip_calls A fr c pt m SF _ (by omega) hp hsf.out hrf.out)
  have hfl := hide (flipL_len fr pt m)
  go_enter Try.func29, Try.ntmps29
  go_wp2_with fail
  refine hcl.out.mono ?_
  rintro _ w2 ⟨A2, c2, rfl, hk2, hb2⟩
  have Hk2 := hide hk2
  have Hb2 := hide hb2
  clear hk2 hb2 hcl
  go_wp2_with fail
  have hsz : w.heap.size ≤ (w.alloc (opO 6 pt m B bs.length d)).heap.size := by simp
  have hB2 : Below w.heap.size w w2 := below_trN hb1.out hsz Hb2.out
  have hs2 := hB2.size
  have hk3 : Kd.ow.R (newB w w2) w2 (flipL fr pt m) [.slice A2 (flipL fr pt m).length c2] := by rw [hfl.out]; exact ow_from hsz Hk2.out
  have hrow := row1 (w := w) (wb := w2) hs2 hk3
  rw [hfl.out] at hrow
  exact hR.out _ _ ⟨_, _, _, S, _, rfl, came_new Hns.out (hB2.alloc hs2 _) hrow fun k hk => by have e := own_lit hk; omega⟩
end
end Go.Proofs.Ytehkdionodnhjaa
