/- Each act of the arena's law: what the program's call and the reference's leave. -/
import Derived.Test.YthcbjhmckbfkmaaArenaAM
set_option linter.unusedVariables false
set_option linter.unusedSimpArgs false
namespace Go.Proofs.Ythcbjhmckbfkmaa
open Go.RowKit

/-- Between two acts. -/
structure AD (w1 w : World) (n room : Nat) (vl ve : Value) (S Sl : Nat → Prop) (bl : List (List UInt8)) (us : List Bool) (fr : List Nat) (live peak : Nat) (l : LBlk) (E : List Int) : Prop where
  al : AL w1 w S w1.heap.size n room bl us fr live peak
  am : AM w1 w S Sl vl l ve E
  li : LI l bl us
  fi : FI us fr live room peak
  ll : l.length = live
def putB (l : LBlk) (i : Int) (x : List UInt8) : Bool := decide (0 ≤ findB l i) && decide ((l.getD (findB l i).toNat (0, [])).2.length = x.length)
def putL (l : LBlk) (i : Int) (x : List UInt8) : LBlk := if putB l i x then l.set (findB l i).toNat (i, xorL (l.getD (findB l i).toNat (0, [])).2 x) else l
theorem putL_len (l : LBlk) (i : Int) (x : List UInt8) : (putL l i x).length = l.length := by
  unfold putL; split <;> simp
theorem put_none {l : LBlk} {i : Int} (x : List UInt8) (h : findB l i = -1) : putB l i x = false ∧ putL l i x = l := by
  have : putB l i x = false := by simp [putB, h]
  exact ⟨this, by simp [putL, this]⟩
theorem put_at {l : LBlk} {i : Int} (x : List UInt8) {f : Nat} (hf : f < l.length) (h : findB l i = (f : Int)) : putB l i x = decide (l[f].2.length = x.length) ∧ (l[f].2.length = x.length → putL l i x = l.set f (i, xorL l[f].2 x)) ∧ (l[f].2.length ≠ x.length → putL l i x = l) := by
  have h1 : putB l i x = decide (l[f].2.length = x.length) := by
    rw [putB, h, Int.toNat_natCast, List.getD, List.getElem?_eq_getElem hf]; simp
  refine ⟨h1, fun h2 => ?_, fun h2 => ?_⟩
  · rw [putL, h1, decide_eq_true h2, if_pos rfl, h, Int.toNat_natCast, List.getD, List.getElem?_eq_getElem hf]; rfl
  · rw [putL, h1, decide_eq_false h2]; simp
section
variable {w1 w : World} {n room : Nat} {vl ve : Value} {S Sl : Nat → Prop} {bl : List (List UInt8)} {us : List Bool} {fr : List Nat} {live peak : Nat} {l : LBlk} {E : List Int}
theorem AD.below (h : AD w1 w n room vl ve S Sl bl us fr live peak l E) {w' : World} (hb : Below w.heap.size w w') : AD w1 w' n room vl ve S Sl bl us fr live peak l E :=
  ⟨h.al.below hb, h.am.below hb, h.li, h.fi, h.ll⟩
theorem AD.caps (h : AD w1 w n room vl ve S Sl bl us fr live peak l E) : bl.length ≤ room ∧ us.length = bl.length ∧ live ≤ room ∧ fr.length ≤ room ∧ l.length ≤ room := by
  have h1 := h.al.ar.ul
  have h2 := h.fi.cnt
  have h3 := h.fi.rm
  have h4 := h.ll
  exact ⟨by omega, h1, by omega, by omega, by omega⟩
theorem AD.lens (h : AD w1 w n room vl ve S Sl bl us fr live peak l E) {f : Nat} (hf : f < l.length) : l[f].2.length = n := by
  obtain ⟨k, -, -, hb⟩ := h.li.el l[f] (List.getElem_mem hf)
  exact h.al.ar.len _ (List.mem_of_getElem? hb)
theorem alloc_do (h : AD w1 w n room vl ve S Sl bl us fr live peak l E) (hn : n ≤ 1000) (hr : room ≤ 1000) (hp : peak ≤ 1000) :
    Calls Try.prog 23 #[.pointer (some ⟨w1.heap.size, 0, none⟩)] w fun e w' =>
      (∃ (j : Nat) (S' : Nat → Prop) (bl' : List (List UInt8)) (us' : List Bool) (fr' : List Nat), e = .returned (.tuple #[.int .i64 (j : Int), .bool true]) ∧ j < room ∧ live < room ∧ findB l (j : Int) = -1 ∧ AL w1 w' S' w1.heap.size n room bl' us' fr' (live + 1) (max peak (live + 1)) ∧ Step S S' w w' ∧ LI (l ++ [((j : Int), zs n)]) bl' us' ∧ FI us' fr' (live + 1) room (max peak (live + 1))) ∨
      (e = .returned (.tuple #[.int .i64 0, .bool false]) ∧ room ≤ live ∧ w = w') := by
  obtain ⟨h1, h2, h3, h4, h5⟩ := h.caps
  have hcnt := h.fi.cnt
  have hal := h.al
  have hfi := h.fi
  have none_of : ∀ j : Nat, us[j]? ≠ some true → findB l (j : Int) = -1 := fun j hj => by
    rcases h.li.find (j : Int) with ⟨h6, -⟩ | ⟨f, hf, k, -, hk, -, h7, -⟩
    · exact h6
    · exact absurd (hasB_true.1 h7) hj
  rcases List.eq_nil_or_concat fr with e | ⟨fr', i, e⟩
  · subst e
    by_cases hroom : bl.length < room
    · refine (al_fresh hal rfl hroom (by omega) (by omega) (by omega) (by omega)).mono ?_
      rintro e w' ⟨rfl, S', h6, h7⟩
      exact .inl ⟨bl.length, S', _, _, _, rfl, hroom, by simp at hcnt; omega, none_of _ (by rw [List.getElem?_eq_none (by omega)]; simp), h6, h7, h.li.fresh h2 _, hfi.fresh (by omega)⟩
    · refine (as_full hal.ar rfl (by omega)).mono ?_
      rintro e w' ⟨rfl, rfl⟩
      exact .inr ⟨rfl, by simp at hcnt; omega, rfl⟩
  · rw [List.concat_eq_append] at e
    subst e
    obtain ⟨hu, hfi'⟩ := hfi.old
    have hil := (List.getElem?_eq_some_iff.1 hu).1
    refine (al_old hal rfl (by omega) (by simp at h4; omega) (by omega) (by omega)).mono ?_
    rintro e w' ⟨rfl, S', h6, h7⟩
    exact .inl ⟨i, S', _, _, _, rfl, by omega, by simp at hcnt; omega, none_of _ (by rw [hu]; simp), h6, h7, h.li.old h2 hu _, hfi'⟩
theorem free_do (h : AD w1 w n room vl ve S Sl bl us fr live peak l E) (i : Int) (hr : room ≤ 1000) :
    Calls Try.prog 26 #[.pointer (some ⟨w1.heap.size, 0, none⟩), .int .i64 i] w fun e w' =>
      ∃ (S' : Nat → Prop) (us' : List Bool) (fr' : List Nat) (live' : Nat), e = .returned (.bool (decide (0 ≤ findB l i))) ∧ AL w1 w' S' w1.heap.size n room bl us' fr' live' peak ∧ Step S S' w w' ∧ LI (dropB l i) bl us' ∧ FI us' fr' live' room peak ∧ (dropB l i).length = live' := by
  obtain ⟨h1, h2, h3, h4, h5⟩ := h.caps
  rcases h.li.find i with ⟨h6, h7, -⟩ | ⟨f, hf, k, h6, rfl, h8, h9, -⟩
  · refine (as_free_no i h.al.ar h7).mono ?_
    rintro e w' ⟨rfl, rfl⟩
    rw [dropB_none (by
      rcases findB_cases l i with ⟨-, h8⟩ | ⟨f, hf, h8, -⟩
      · exact h8
      · rw [h6] at h8; omega), h6]
    exact ⟨S, us, fr, live, rfl, h.al, Step.refl S w, h.li, h.fi, h.ll⟩
  · have hlen := dropB_length (n := (k : Int)) h.li.nd ⟨_, List.getElem_mem hf, h8⟩
    obtain ⟨lv, rfl⟩ : ∃ lv, live = lv + 1 := ⟨live - 1, by have := h.ll; omega⟩
    refine (al_free k h.al h9 (by omega) (by omega)).mono ?_
    rintro e w' ⟨rfl, S', ha, hs⟩
    rw [h6]
    exact ⟨S', _, _, lv, by simp, ha, hs, h.li.free k, h.fi.free (hasB_true.1 h9), by have := h.ll; omega⟩
theorem lit_rdl {T : Nat → Prop} {A : Option Addr} {x : List UInt8} {ln c : Nat} (hx : RdL Kd.byte T w A x) (hln : ln = x.length) (hc : ln ≤ c) (hcm : c ≤ maxLen) (hT : ∀ k, T k → k < w.heap.size) :
    RdL (Kd.sl Kd.byte) (fun k => T k ∨ k = w.heap.size) (w.alloc (.cells #[.slice A ln c] 22)) (some ⟨w.heap.size, 0, none⟩) [x] :=
  RdL.lit1 (by rw [← hln]; exact hc) hcm hx hT (by rw [hln])
theorem refput_do (h : AD w1 w n room vl ve S Sl bl us fr live peak l E) (i : Int) {T : Nat → Prop} {A : Option Addr} {x : List UInt8} {ln c : Nat} (hx : RdL Kd.byte T w A x) (hln : ln = x.length) (hc : ln ≤ c) (hcm : c ≤ maxLen) (hT : ∀ k, T k → k < w.heap.size) (hxl : ln ≤ 1000) (hr : room ≤ 1000) (hn : n ≤ 1000) :
    Calls Try.prog 32 #[vl, .int .i64 i, .slice (some ⟨w.heap.size, 0, none⟩) 1 1] (w.alloc (.cells #[.slice A ln c] 22)) fun e w' =>
      ∃ v Sl', e = .returned (.tuple #[v, .bool (putB l i x)]) ∧ AM w1 w' S Sl' v (putL l i x) ve E ∧ Below w.heap.size w w' := by
  obtain ⟨h1, h2, h3, h4, h5⟩ := h.caps
  have hb := balloc w (.cells #[.slice A ln c] 22)
  have hlit := lit_rdl hx hln hc hcm hT
  have hw : (w.alloc (.cells #[.slice A ln c] 22)).heap.size = w.heap.size + 1 := by simp
  have h7 := h.below hb
  obtain ⟨Bl, d, rfl, hd1, hd2⟩ := h7.am.row.shape
  have hTl : ∀ k, (T k ∨ k = w.heap.size) → k < (w.alloc (.cells #[.slice A ln c] 22)).heap.size := fun k hk => by
    rcases hk with hk | hk
    · have := hT k hk; omega
    · omega
  have hSl : ∀ k, Sl k → k < (w.alloc (.cells #[.slice A ln c] 22)).heap.size := fun k hk => (h7.am.sl k hk).2.2
  have keep : (putB l i x = false ∧ putL l i x = l) → ∀ w', (w.alloc (.cells #[.slice A ln c] 22)) = w' → ∃ v Sl', Ending.returned (.tuple #[.slice Bl l.length d, .bool false]) = .returned (.tuple #[v, .bool (putB l i x)]) ∧ AM w1 w' S Sl' v (putL l i x) ve E ∧ Below w.heap.size w w' := by
    rintro ⟨e1, e2⟩ w' rfl
    rw [e1, e2]
    exact ⟨_, Sl, rfl, h7.am, hb⟩
  rcases findB_cases l i with ⟨h6, -⟩ | ⟨f, hf, h6, h8⟩
  · refine (bput_no (b := x) hd2 hd1 h7.am.row.rd hlit (fun f hf h8 => by rw [h6] at h8; omega)).mono ?_
    rintro e w' ⟨rfl, he⟩
    exact keep (put_none x h6) w' he
  · obtain ⟨p1, p2, p3⟩ := put_at x hf h6
    by_cases hlen : l[f].2.length = x.length
    · obtain ⟨k, hk, -⟩ := h.li.el l[f] (List.getElem_mem hf)
      have hkr : k < room := by
        obtain ⟨k', hk', hu, -⟩ := h.li.el l[f] (List.getElem_mem hf)
        have := (List.getElem?_eq_some_iff.1 hu).1
        omega
      refine (bput_yes (n := i) hf h7.am.row hSl hlit hTl (by omega) (by omega) (by rw [← h8, hk]; simp [Lit.wf, IntKind.min, IntKind.max, IntKind.signed, IntKind.bits]; omega) h6 rfl hlen).mono ?_
      rintro e w' ⟨v, z, rfl, hz, h9, h10, h11⟩
      rw [p1, decide_eq_true hlen, p2 hlen]
      exact ⟨v, _, rfl, h7.am.put (by have := h7.al.bel.size; omega) h7.al.ar.lt hz h9 h10 h11, hb.trans (h11.mono (by omega))⟩
    · refine (bput_no (b := x) hd2 hd1 h7.am.row.rd hlit (fun f' hf' h9 => by
        rw [h6] at h9
        obtain rfl : f = f' := by omega
        exact hlen)).mono ?_
      rintro e w' ⟨rfl, he⟩
      exact keep ⟨by rw [p1, decide_eq_false hlen], p3 hlen⟩ w' he
theorem aput_do (h : AL w1 w S w1.heap.size n room bl us fr live peak) (hli : LI l bl us) (i : Int) {T : Nat → Prop} {A : Option Addr} {x : List UInt8} {ln c : Nat} (hx : RdL Kd.byte T w A x) (hln : ln = x.length) (hc : ln ≤ c) (hcm : c ≤ maxLen) (hT : ∀ k, T k → k < w.heap.size ∧ ¬ S k) (hn : n ≤ 1000) :
    Calls Try.prog 28 #[.pointer (some ⟨w1.heap.size, 0, none⟩), .int .i64 i, .slice (some ⟨w.heap.size, 0, none⟩) 1 1] (w.alloc (.cells #[.slice A ln c] 22)) fun e w' =>
      ∃ bl', e = .returned (.bool (putB l i x)) ∧ AL w1 w' S w1.heap.size n room bl' us fr live peak ∧ Step S S w w' ∧ LI (putL l i x) bl' us := by
  have hb := balloc w (.cells #[.slice A ln c] 22)
  have hlit := lit_rdl hx hln hc hcm (fun k hk => (hT k hk).1)
  have hst := (Step.refl S w).below hb
  have h7 := h.below hb
  rcases hli.find i with ⟨h6, h8, -⟩ | ⟨f, hf, k, h6, rfl, h8, h9, h10, h11⟩
  · refine (as_put_not i _ h7.ar h8).mono ?_
    rintro e w' ⟨rfl, rfl⟩
    rw [(put_none x h6).1, (put_none x h6).2]
    exact ⟨bl, rfl, h7, hst, hli⟩
  · obtain ⟨p1, p2, p3⟩ := put_at x hf h6
    have hlf : l[f].2.length = n := h.ar.len _ (List.mem_of_getElem? h10)
    have hTl : ∀ j, (T j ∨ j = w.heap.size) → j < (w.alloc (.cells #[.slice A ln c] 22)).heap.size ∧ ¬ S j := fun j hj => by
      rcases hj with hj | rfl
      · have := hT j hj; simp; exact ⟨by omega, this.2⟩
      · exact ⟨by simp, fun hs => by have := h.ar.lt _ hs; omega⟩
    by_cases hlen : l[f].2.length = x.length
    · refine (al_put k (some ⟨w.heap.size, 0, none⟩) [x] 1 _ h7 h9 (by omega) (by unfold maxLen; omega) (by simp) hlit hTl (fun b hb => by simp at hb; rw [hb]; omega)).mono ?_
      rintro e w' ⟨rfl, h12, h13⟩
      rw [p1, decide_eq_true hlen, p2 hlen]
      refine ⟨_, rfl, h12, hst.trans h13, ?_⟩
      rw [h11]
      exact hli.put hf h8 _
    · refine (as_put_no k (some ⟨w.heap.size, 0, none⟩) [x] 1 _ h7.ar h9 (by omega) (by unfold maxLen; omega) (by simp) hlit (fun hall => hlen (by have := hall x (by simp); omega))).mono ?_
      rintro e w' ⟨rfl, rfl⟩
      rw [p1, decide_eq_false hlen, p3 hlen]
      exact ⟨bl, rfl, h7, hst, hli⟩
/-- Onto, by the reference: where both are given out, and not one. -/
theorem onto_do (h : AL w1 w S w1.heap.size n room bl us fr live peak) (hli : LI l bl us) (i k : Int) (hn : n ≤ 1000) :
    Calls Try.prog 33 #[.pointer (some ⟨w1.heap.size, 0, none⟩), .int .i64 i, .int .i64 k] w fun e w' =>
      ∃ bl', e = .returned (.bool (decide (i ≠ k) && (decide (0 ≤ findB l k) && decide (0 ≤ findB l i)))) ∧ AL w1 w' S w1.heap.size n room bl' us fr live peak ∧ Step S S w w' ∧
        (i ≠ k → ∀ f (hf : f < l.length), findB l k = (f : Int) → LI (putL l i l[f].2) bl' us ∧ putB l i l[f].2 = decide (0 ≤ findB l i)) ∧ (¬ (i ≠ k ∧ 0 ≤ findB l k) → LI l bl' us) := by
  refine (al_onto i k h (by omega)).mono ?_
  rintro e w' ⟨rfl, h1, h2⟩
  have hiff : ∀ j, hasB us j = decide (0 ≤ findB l j) := fun j => by
    rcases hli.find j with ⟨h6, h8, -⟩ | ⟨f, hf, k, h6, -, -, h9, -⟩
    · rw [h8, h6]; rfl
    · rw [h9, h6]; simp
  refine ⟨_, by rw [ontoB, hiff, hiff], h1, h2, fun hik f hf hfk => ?_, fun hno => ?_⟩
  · have hk : decide (0 ≤ findB l k) = true := by rw [hfk]; simp
    have hgk : got bl us k = l[f].2 := by
      rcases hli.find k with ⟨h6, h8, -⟩ | ⟨f', hf', q, h6, -, -, h9, -, h11⟩
      · rw [hfk] at h6; omega
      · rw [hfk] at h6
        obtain rfl : f = f' := by omega
        exact h11
    have hlf : l[f].2.length = n := by
      obtain ⟨q, -, -, hb⟩ := hli.el l[f] (List.getElem_mem hf)
      exact h.ar.len _ (List.mem_of_getElem? hb)
    rcases hli.find i with ⟨h6, h8, -⟩ | ⟨f', hf', q, h6, rfl, h8, h9, h10, h11⟩
    · have e : ontoL bl us i k = bl := by simp [ontoL, ontoB, h8]
      rw [(put_none _ h6).1, (put_none _ h6).2, e, h6]
      exact ⟨hli, rfl⟩
    · obtain ⟨p1, p2, p3⟩ := put_at l[f].2 hf' h6
      have hlf' : l[f'].2.length = n := h.ar.len _ (List.mem_of_getElem? h10)
      have e : ontoL bl us (q : Int) k = bl.set q (xorL l[f'].2 l[f].2) := by
        rw [ontoL, ontoB, hiff, hiff, hk, h6, decide_eq_true hik]
        simp [h11, hgk]
      rw [p1, p2 (by omega), e, h6]
      exact ⟨hli.put hf' h8 _, by simp; omega⟩
  · have e : ontoL bl us i k = bl := by
      rw [ontoL, ontoB, hiff]
      by_cases hik : i ≠ k
      · have : ¬ 0 ≤ findB l k := fun h => hno ⟨hik, h⟩
        simp [this]
      · simp [hik]
    rw [e]; exact hli
end
end Go.Proofs.Ythcbjhmckbfkmaa
