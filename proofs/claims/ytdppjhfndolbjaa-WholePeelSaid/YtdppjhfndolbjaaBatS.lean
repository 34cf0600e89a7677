/- The reference's small functions of layer 16: Fits, Put, rest. -/
import Derived.Test.YtdppjhfndolbjaaBatR
set_option linter.unusedVariables false
set_option linter.unusedSimpArgs false
namespace Go.Proofs.Ytdppjhfndolbjaa
open Go.RowKit

theorem drewN0 {B : Nat} {w w' : World} (h : Below B w w') (q : Nat) : Below B w (w'.drewN q) := ⟨h.os, h.tape, h.output, h.size, h.block⟩
set_option maxHeartbeats 2000000 in
theorem rfits_calls (A : Option Addr) (of : List Int) (c : Nat) (all : Int) (S : Nat → Prop) (w : World) (hm : c ≤ maxLen) (hc : of.length ≤ c) (h : RdL kInt S w A of) (hS : ∀ k, S k → k < w.heap.size) :
    Calls Try.prog 16 #[.int .i64 all, .slice A of.length c] w fun e w' => e = .returned (.bool (fitsI all of)) ∧ Below w.heap.size w w' := by
  refine cps fun R hR => ?_
  unfold maxLen at hm
  have H := hide h
  have HS := hide hS
  clear h hS
  obtain ⟨L, hL⟩ : ∃ L, L = of.length := ⟨_, rfl⟩
  rw [← hL] at hc ⊢
  have HL := hide hL
  clear hL
  go_enter Try.func16, Try.ntmps16
  go_wp2_with fail
  go_loopw [5] (fun i wr => ∃ k : Nat, k ≤ L ∧ i = .int .i64 (k : Int) ∧ Below w.heap.size w wr ∧ ∀ j : Nat, j < k → okAt all of j = true) (fun i _ => L - (intOf i).toNat)
  case atStart => exact ⟨0, Nat.zero_le _, rfl, Below.refl _ _, fun j h => absurd h (by omega)⟩
  case round =>
    obtain ⟨k, hk, rfl, hbw, hall⟩ := hrel
    have Hbw := hide hbw
    have Hall := hide hall
    clear hall hbw
    by_cases hlt : k < L
    · have hkl : k < of.length := by rw [← HL.out]; exact hlt
      obtain ⟨b, off, u, rfl, -, hu, hcx⟩ := (H.out.keep (w' := wr) fun z hz => Hbw.out.block z (HS.out z hz)).at1 rfl hkl
      obtain rfl := (Kd.int_cell hu).1
      have hok := okAt_eq (all := all) hkl
      obtain ⟨x, hx⟩ : ∃ x, x = of[k] := ⟨_, rfl⟩
      rw [← hx] at hcx hok
      have Hok := hide hok
      clear hu hok
      by_cases h1 : x < 0
      · have e1 : decide (x < 0) = true := by simp [h1]
        have hno := hide (fitsI_no (all := all) hkl (by rw [Hok.out]; simp; omega))
        clear h1 hx
        go_wp2_with fail
        go_quiet (fail)
        go_wp2_with fail
        exact hR.out _ _ ⟨by rw [hno.out]; rfl, drewN0 Hbw.out nq⟩
      have e1 : decide (x < 0) = false := by simp; omega
      by_cases h2 : all ≤ x
      · have e2 : decide (all ≤ x) = true := by simp [h2]
        have hno := hide (fitsI_no (all := all) hkl (by rw [Hok.out]; simp; omega))
        clear h1 h2 hx
        go_wp2_with fail
        go_quiet (fail)
        go_wp2_with fail
        exact hR.out _ _ ⟨by rw [hno.out]; rfl, drewN0 Hbw.out nq⟩
      have e2 : decide (all ≤ x) = false := by simp; omega
      by_cases h0 : k = 0
      · have i2 : decide ((0 : Int) < (k : Int)) = false := by simp; omega
        have i3 : decide (0 < k) = false := by simp; omega
        have i4 : ¬ 0 < k := by omega
        have hyes := hide (show ∀ j : Nat, j < k + 1 → okAt all of j = true from fun j hj => by
          obtain rfl : j = k := by omega
          rw [Hok.out, decide_eq_true h0]; simp; omega)
        clear h0 h1 h2 hx
        go_wp2_with fail
        go_quiet (fail)
        go_wp2_with fail
        go_roundw
        case rel => exact ⟨k + 1, by omega, by go_num, drewN0 Hbw.out nq, hyes.out⟩
        case measure => simp [intOf]; omega
      · obtain ⟨b', off', u', e', -, hu', hcy⟩ := (H.out.keep (w' := wr) fun z hz => Hbw.out.block z (HS.out z hz)).at1 rfl (show k - 1 < of.length by omega)
        injection e' with e'; injection e' with e1' e2'
        subst e1'; subst e2'
        obtain rfl := (Kd.int_cell hu').1
        rw [decide_eq_false h0, Bool.false_or] at Hok
        obtain ⟨y, hy⟩ : ∃ y, y = of[k - 1]'(by omega) := ⟨_, rfl⟩
        rw [← hy] at hcy Hok
        have Hok2 := hide Hok.out
        have i2 : decide ((0 : Int) < (k : Int)) = true := by simp; omega
        obtain ⟨km, hkm⟩ : ∃ km : Nat, km = k - 1 := ⟨_, rfl⟩
        rw [← hkm] at hcy
        have wk : IntKind.i64.wrap ((k : Int) - 1) = (km : Int) := by rw [IntKind.wrap_i64]; omega
        have i3 : (km : Int) < (L : Int) := by omega
        have i4 : (0 : Int) ≤ (km : Int) := by omega
        have i5 : decide (0 < k) = true := by simp; omega
        have i6 : 0 < k := by omega
        clear hkm
        clear hu' Hok hx hy h0
        by_cases h3 : x ≤ y
        · have e3 : decide (x ≤ y) = true := by simp [h3]
          have hno := hide (fitsI_no (all := all) hkl (by rw [Hok2.out]; simp; omega))
          clear h1 h2 h3
          go_wp2_with fail
          go_quiet (fail)
          go_wp2_with fail
          exact hR.out _ _ ⟨by rw [hno.out]; rfl, drewN0 Hbw.out nq⟩
        · have e3 : decide (x ≤ y) = false := by simp; omega
          have hyes := hide (show ∀ j : Nat, j < k + 1 → okAt all of j = true from fun j hj => by
            by_cases e : j = k
            · subst e; rw [Hok2.out]; simp; omega
            · exact Hall.out j (by omega))
          clear h1 h2 h3
          go_wp2_with fail
          go_quiet (fail)
          go_wp2_with fail
          go_roundw
          case rel => exact ⟨k + 1, by omega, by go_num, drewN0 Hbw.out nq, hyes.out⟩
          case measure => simp [intOf]; omega
    · obtain rfl : k = L := by omega
      have hyes := hide (fitsI_yes (all := all) (of := of) fun j hj => Hall.out j (by have := HL.out; omega))
      go_wp2_with fail
      exact hR.out _ _ ⟨by rw [hyes.out]; rfl, Hbw.out⟩
/-! ### Values in a row of the call's own -/
/-- The values vs in the own row v; their bytes lie in S. -/
structure VO (S : Nat → Prop) (w : World) (v : Value) (vs : Vals) : Prop where
  ex : ∃ us, Row w 38 v us ∧ us.length = vs.length ∧ ∀ (i : Nat) (u : Value) (x : Option (List UInt8)), us[i]? = some u → vs[i]? = some x → kOb.R S w x [u]
section
variable {S S' : Nat → Prop} {w w' : World} {v : Value} {vs : Vals}
theorem VO.lt (h : VO S w v vs) {k : Nat} (hk : v.ownBlock = some k) : k < w.heap.size := by
  obtain ⟨us, h1, -⟩ := h.ex
  exact h1.lt hk
theorem VO.shape (h : VO S w v vs) : ∃ A c, v = .slice A vs.length c ∧ vs.length ≤ c ∧ c ≤ maxLen := by
  obtain ⟨us, h1, h2, -⟩ := h.ex
  rw [← h2]; exact h1.shape
theorem VO.keep (h : VO S w v vs) (hk : ∀ k, S k ∨ v.ownBlock = some k → w'.heap[k]? = w.heap[k]?) : VO S w' v vs := by
  obtain ⟨us, h1, h2, h3⟩ := h.ex
  exact ⟨us, h1.keep fun k hk' => hk k (.inr hk'), h2, fun i u x hu hx => kOb.keep (fun k hs => hk k (.inl hs)) (h3 i u x hu hx)⟩
theorem VO.mono (h : VO S w v vs) (hs : ∀ k, S k → S' k) : VO S' w v vs := by
  obtain ⟨us, h1, h2, h3⟩ := h.ex
  exact ⟨us, h1, h2, fun i u x hu hx => kOb.mono hs (h3 i u x hu hx)⟩
theorem VO.at {A : Option Addr} {n c : Nat} (h : VO S w (.slice A n c) vs) {i : Nat} (hi : i < vs.length) : ∃ q u, A = some ⟨q, 0, none⟩ ∧ w.cell? ⟨q, i, none⟩ = some u ∧ kOb.R S w vs[i] [u] := by
  obtain ⟨us, h1, h2, h3⟩ := h.ex
  have hi' : i < us.length := by omega
  obtain ⟨q, c', e, hc, -⟩ := h1.set hi' (.bool true)
  injection e with e1
  exact ⟨q, us[i], e1, hc, h3 i _ _ (List.getElem?_eq_getElem hi') (List.getElem?_eq_getElem hi)⟩
theorem VO.set {A : Option Addr} {n c : Nat} (h : VO S w (.slice A n c) vs) {k : Nat} (hk : k < vs.length) (u : Value) :
    ∃ q, A = some ⟨q, 0, none⟩ ∧ (∃ u0, w.cell? ⟨q, k, none⟩ = some u0) ∧ w.frozen? ⟨q, k, none⟩ = false ∧ ∀ (S' : Nat → Prop) (b : List UInt8), (∀ k, S k → S' k) → (∀ k, S' k → k ≠ q) → kOb.R S' w (some b) [u] → VO S' (w.setCell ⟨q, k, none⟩ u) (.slice A n c) (vs.set k (some b)) := by
  obtain ⟨us, h1, h2, h3⟩ := h.ex
  have hk' : k < us.length := by omega
  obtain ⟨q, c', e, hc, hf, -, hr⟩ := h1.set hk' u
  injection e with e1
  subst e1
  refine ⟨q, rfl, ⟨_, hc⟩, hf, fun S' b hS hne hb => ⟨us.set k u, hr, by rw [List.length_set, List.length_set]; exact h2, fun i u' x hu hx => ?_⟩⟩
  have hkeep : ∀ j, S' j → (w.setCell ⟨q, k, none⟩ u).heap[j]? = w.heap[j]? := fun j hj => Below.heap_setCell _ _ _ _ (hne j hj)
  rw [List.getElem?_set] at hu hx
  by_cases e : k = i
  · subst e
    simp only [if_true] at hu hx
    rw [if_pos hk'] at hu
    rw [if_pos hk] at hx
    injection hu with hu; injection hx with hx
    subst hu; subst hx
    exact kOb.keep hkeep hb
  · rw [if_neg e] at hu hx
    exact kOb.keep hkeep (kOb.mono hS (h3 i u' x hu hx))
end
theorem VR.vo {S : Nat → Prop} {w : World} {gv n : Nat} {vs : Vals} (h : VR S w gv n vs) : VO S w (.slice (some ⟨gv, 0, none⟩) n n) vs := by
  obtain ⟨us, h1, h2, h3⟩ := h.ex
  exact ⟨us, h1, by rw [h2, h.len], h3⟩
theorem kOb_one {S : Nat → Prop} {w : World} {x : Option (List UInt8)} {u : Value} (h : kOb.R S w x [u]) : u.oneCell' = true := by
  cases x with
  | none =>
    have h' : [u] = [.slice none 0 0] := h
    injection h' with h1
    rw [h1]; rfl
  | some b =>
    obtain ⟨a, c, e, -⟩ := h
    injection e with h1
    rw [h1]; rfl
set_option maxHeartbeats 2000000 in
/-- Put: a copy of the values, with one more. -/
theorem rput_calls {A C : Option Addr} {n c cb : Nat} {b : List UInt8} {vs : Vals} {k : Nat} {S T : Nat → Prop} {w : World} (h : VO S w (.slice A n c) vs) (hn : n = vs.length) (hn1 : n ≤ 100000) (hk : k < n) (hS : ∀ z, S z → z < w.heap.size) (hb : RdL Kd.byte T w C b) (hT : ∀ z, T z → z < w.heap.size) (hC : ∃ a, C = some a) (hbc : b.length ≤ cb) (hbm : cb ≤ maxLen) :
    Calls Try.prog 28 #[.slice A n c, .int .i64 (k : Int), .slice C b.length cb] w fun e w' => ∃ v, e = .returned v ∧ VO (fun z => S z ∨ T z) w' v (vs.set k (some b)) ∧ (∀ z, v.ownBlock = some z → w.heap.size ≤ z) ∧ Below w.heap.size w w' := by
  refine cps fun R hR => ?_
  obtain ⟨us, h1, h2, h3⟩ := h.ex
  have H := hide h
  have Hb := hide hb
  have HS := hide hS
  have HT := hide hT
  have Hn := hide hn
  obtain ⟨lb, hlb⟩ : ∃ lb, lb = b.length := ⟨_, rfl⟩
  rw [← hlb] at hbc ⊢
  have Hlb := hide hlb
  have hy := hide (show (us.length = n) from by omega)
  have hr0 := hide (Row.lit (w := w) (e := 38) [] (by simp))
  have hsrc : Src (w.alloc (.cells #[] 38)) A us := by
    have := h1.src
    exact this.below (balloc w _)
  have Hsrc := hide hsrc
  have hone := hide (show ∀ u ∈ us, u.oneCell' = true from fun u hu => by
    obtain ⟨i, hi, rfl⟩ := List.getElem_of_mem hu
    exact kOb_one (h3 i _ _ (List.getElem?_eq_getElem hi) (List.getElem?_eq_getElem (by omega))))
  have hby := hide (show (([] : List Value).length + us.length) * 24 ≤ 140737488355328 ∧ ([] : List Value).length + us.length ≤ maxLen from ⟨by have := hy.out; simp; omega, by have := hy.out; unfold maxLen; simp; omega⟩)
  have H3 := hide h3
  clear h hb hS hT hn hlb h1 h2 h3 hsrc
  go_enter Try.func28, Try.ntmps28
  rw [← hy.out]
  go_wp2_with (at_builtin; with_reducible refine wp_app 10 rfl rfl (.tmp 8) (.tmp 9) 23 rfl Try.underlying23 infoSB ?_ (us := []) ?_ hr0.out (A := A) (c := c) (news := us) ?_ Hsrc.out hone.out hby.out.1 hby.out.2 ?_)
  all_goals first | rfl | skip
  intro v5 w5 hr5 g5 o5
  rw [List.nil_append] at hr5
  have hb5 : Below w.heap.size w w5 := (Ch.of_grown g5).below (balloc w _) (by simp) fun z hz => by have hz' : some w.heap.size = some z := hz; injection hz' with hz'; omega
  have hv5 : ∀ z, v5.ownBlock = some z → w.heap.size ≤ z := fun z hz => by
    rcases o5 with e | e
    · rw [e] at hz; have hz' : some w.heap.size = some z := hz; injection hz' with hz'; omega
    · rw [e] at hz; injection hz with hz; simp at hz; omega
  have hvo : VO S w5 v5 vs := ⟨us, hr5, by rw [hy.out, Hn.out], fun i u x hu hx => kOb.keep (fun z hz => hb5.block z (HS.out z hz)) (H3.out i u x hu hx)⟩
  obtain ⟨A5, c5, rfl, h51, h52⟩ := hvo.shape
  rw [← Hn.out] at hvo h51 hv5 ⊢
  obtain ⟨a, rfl⟩ := hC
  obtain ⟨q, rfl, ⟨u0, f1⟩, f2, f3⟩ := hvo.set (k := k) (by rw [← Hn.out]; exact hk) (.slice (some a) lb cb)
  have hqw := hv5 q rfl
  have hfin := f3 (fun z => S z ∨ T z) b (fun z hz => .inl hz) (fun z hz => by
    rcases hz with hz | hz
    · have := HS.out z hz; omega
    · have := HT.out z hz; omega) ⟨a, cb, by rw [Hlb.out], by rw [← Hlb.out]; exact hbc, hbm, (Hb.out.keep fun z hz => hb5.block z (HT.out z hz)).mono fun z hz => .inr hz⟩
  have Hfin := hide hfin
  have Hb5 := hide hb5
  have Hv5 := hide hv5
  have Hq := hide hqw
  have i1 : (0 : Int) ≤ (k : Int) := by omega
  have i2 : (k : Int) < (n : Int) := by omega
  clear hfin f3 hvo hv5 hb5 hr5 g5 o5 hqw hr0 Hsrc hone hby
  go_wp2_with fail
  exact hR.out _ _ ⟨_, rfl, Hfin.out, Hv5.out, Hb5.out.setCell (by show w.heap.size ≤ q; exact Hq.out) _⟩
end Go.Proofs.Ytdppjhfndolbjaa
