/- closure.Closed of one block: is it among an equation's? -/
import Derived.Test.YtdppjhfndolbjaaBatI
import Derived.Test.YtdppjhfndolbjaaPeel0
set_option linter.unusedVariables false
set_option linter.unusedSimpArgs false
namespace Go.Proofs.Ytdppjhfndolbjaa
open Go.RowKit

theorem cnan_calls (x : Int) (w : World) : Calls Try.prog 39 #[.int .i64 x] w fun e w' => e = .returned (.bool false) ∧ w = w' := by
  refine cps fun R hR => ?_
  have t : (x != x) = false := by simp
  go_enter Try.func39, Try.ntmps39
  go_wp2_with fail
  exact hR.out _ _ ⟨rfl, rfl⟩
theorem snan_calls (x : Int) (w : World) : Calls Try.prog 37 #[.int .i64 x] w fun e w' => e = .returned (.bool false) ∧ w = w' := by
  refine cps fun R hR => ?_
  have t : (x != x) = false := by simp
  go_enter Try.func37, Try.ntmps37
  go_wp2_with fail
  exact hR.out _ _ ⟨rfl, rfl⟩
theorem less_calls (x y : Int) (w : World) : Calls Try.prog 36 #[.int .i64 x, .int .i64 y] w fun e w' => e = .returned (.bool (decide (x < y))) ∧ w = w' := by
  refine cps fun R hR => ?_
  obtain ⟨b, hb⟩ : ∃ b : Bool, b = decide (x < y) := ⟨_, rfl⟩
  rw [← hb] at hR
  have t : decide (x < y) = b := hb.symm
  clear hb
  go_enter Try.func36, Try.ntmps36
  go_wp2_with fail
  refine (cnan_calls x w).mono ?_
  rintro _ w1 ⟨rfl, rfl⟩
  go_wp2_with fail
  exact hR.out _ _ ⟨rfl, rfl⟩
theorem srt_at {l : List Int} (h : l.Pairwise (· < ·)) {a b : Nat} (hb : b < l.length) (hab : a ≤ b) : l[a]'(by omega) ≤ l[b] := by
  rcases Nat.lt_or_eq_of_le hab with h1 | rfl
  · exact Int.le_of_lt (List.pairwise_iff_getElem.1 h a b (by omega) hb h1)
  · exact Int.le_refl _
set_option maxHeartbeats 4000000 in
theorem bsearch_calls (A : Option Addr) (l : List Int) (c : Nat) (t : Int) (S : Nat → Prop) (w : World) (hm : c ≤ maxLen) (hc : l.length ≤ c) (hl : l.length ≤ 1000000) (h : RdL kInt S w A l) (hs : l.Pairwise (· < ·)) :
    Calls Try.prog 34 #[.slice A l.length c, .int .i64 t] w fun e w' => ∃ i : Nat, e = .returned (.tuple #[.int .i64 (i : Int), .bool (decide (t ∈ l))]) ∧ w = w' := by
  refine cps fun R hR => ?_
  unfold maxLen at hm
  have H := hide h
  have HS := hide hs
  obtain ⟨L, hL⟩ : ∃ L, L = l.length := ⟨_, rfl⟩
  rw [← hL] at hc hl ⊢
  have HL := hide hL
  clear h hs hL
  go_enter Try.func34, Try.ntmps34
  go_wp2_with fail
  go_loopg [7, 8] L (fun g s7 s8 wr => ∃ lo hi : Nat, s7 = .int .i64 (lo : Int) ∧ s8 = .int .i64 (hi : Int) ∧ lo ≤ hi ∧ hi ≤ L ∧ hi - lo ≤ g ∧ w = wr ∧ (∀ j (hj : j < l.length), j < lo → l[j] < t) ∧ (∀ j (hj : j < l.length), hi ≤ j → t ≤ l[j]))
  case atStart => exact ⟨0, L, rfl, rfl, Nat.zero_le _, Nat.le_refl _, by omega, rfl, fun j hj h => absurd h (by omega), fun j hj h => absurd h (by have := HL.out; omega)⟩
  case round =>
    obtain ⟨lo, hi, rfl, rfl, hlh, hin, hg, rfl, h1, h2⟩ := hrel
    have H1 := hide h1
    have H2 := hide h2
    clear h1 h2
    by_cases hlt : lo < hi
    · obtain ⟨md, hmd⟩ : ∃ md, md = (lo + hi) / 2 := ⟨_, rfl⟩
      have hml : lo ≤ md ∧ md < hi := by omega
      have hkl : md < l.length := by rw [← HL.out]; omega
      obtain ⟨b, off, u, rfl, -, hu, hcx⟩ := H.out.at1 rfl hkl
      obtain rfl := (Kd.int_cell hu).1
      obtain ⟨x, hx⟩ : ∃ x, x = l[md] := ⟨_, rfl⟩
      rw [← hx] at hcx
      have hsr := hide (show ∀ j (hj : j < l.length), (j ≤ md → l[j] ≤ x) ∧ (md ≤ j → x ≤ l[j]) from fun j hj => ⟨fun h => by rw [hx]; exact srt_at HS.out hkl h, fun h => by rw [hx]; exact srt_at HS.out hj h⟩)
      have em : ((lo : Int) + (hi : Int)) / 2 = (md : Int) := by rw [hmd]; omega
      have Hless := hide (less_calls x t w)
      have i1 : (0 : Int) ≤ (md : Int) := by omega
      have i2 : (md : Int) < (L : Int) := by omega
      have hi63 : ((lo : Int) + (hi : Int)) ≤ 2000000 := by omega
      clear hu hx hmd
      go_wp2_with fail
      refine Hless.out.mono ?_
      rintro _ w1 ⟨rfl, rfl⟩
      by_cases hxt : x < t
      · have e1 : decide (x < t) = true := decide_eq_true hxt
        have Hxt := hide hxt
        clear hxt
        go_wp2_with fail
        go_roundg (hi - (md + 1))
        case measure => omega
        case rel => exact ⟨md + 1, hi, by rw [Int.natCast_succ], rfl, by omega, hin, by omega, rfl, fun j hj hjm => by
          have := (hsr.out j hj).1 (by omega); have := Hxt.out; omega, H2.out⟩
      · have e1 : decide (x < t) = false := decide_eq_false hxt
        have Hxt := hide hxt
        clear hxt
        go_wp2_with fail
        go_roundg (md - lo)
        case measure => omega
        case rel => exact ⟨lo, md, rfl, rfl, by omega, by omega, by omega, rfl, H1.out, fun j hj hjm => by
          have := (hsr.out j hj).2 (by omega); have := Hxt.out; omega⟩
    · obtain rfl : hi = lo := by omega
      by_cases hlL : hi < L
      · have hkl : hi < l.length := by rw [← HL.out]; exact hlL
        obtain ⟨b, off, u, rfl, -, hu, hcx⟩ := H.out.at1 rfl hkl
        obtain rfl := (Kd.int_cell hu).1
        have hge := H2.out hi hkl (Nat.le_refl _)
        have hmem : l[hi] ≠ t → t ∉ l := fun hne hm => by
          obtain ⟨j, hj, e⟩ := List.getElem_of_mem hm
          rcases Nat.lt_trichotomy j hi with h3 | h3 | h3
          · have := H1.out j hj h3; omega
          · subst h3; exact hne e
          · have h4 := List.pairwise_iff_getElem.1 HS.out hi j hkl hj h3
            omega
        have hmy : l[hi] = t → t ∈ l := fun e => e ▸ List.getElem_mem hkl
        obtain ⟨x, hx⟩ : ∃ x, x = l[hi] := ⟨_, rfl⟩
        rw [← hx] at hcx hmem hmy
        have Hnan := hide (snan_calls x w)
        have i1 : (0 : Int) ≤ (hi : Int) := by omega
        have i2 : (hi : Int) < (L : Int) := by omega
        have i3 : decide ((hi : Int) < (L : Int)) = true := decide_eq_true i2
        clear hu hx hge
        by_cases hxt : x = t
        · have e1 : (x == t) = true := by simp [hxt]
          have hin2 := hide (show decide (t ∈ l) = true from decide_eq_true (hmy hxt))
          clear hxt hmem hmy
          go_wp2_with fail
          exact hR.out _ _ ⟨hi, by rw [hin2.out]; rfl, rfl⟩
        · have e1 : (x == t) = false := by simp [hxt]
          have hin2 := hide (show decide (t ∈ l) = false from decide_eq_false (hmem hxt))
          clear hxt hmem hmy
          go_wp2_with fail
          refine Hnan.out.mono ?_
          rintro _ w1 ⟨rfl, rfl⟩
          go_wp2_with fail
          exact hR.out _ _ ⟨hi, by rw [hin2.out]; rfl, rfl⟩
      · have hin2 := hide (show decide (t ∈ l) = false from decide_eq_false fun hm => by
          obtain ⟨j, hj, e⟩ := List.getElem_of_mem hm
          have := H1.out j hj (by have := HL.out; omega)
          omega)
        have i3 : decide ((hi : Int) < (L : Int)) = false := by simp; omega
        go_wp2_with fail
        exact hR.out _ _ ⟨hi, by rw [hin2.out]; rfl, rfl⟩
set_option maxHeartbeats 4000000 in
/-- Closed: is the one block among those of an equation? -/
theorem closed1_calls (A : Option Addr) (l : List Int) (c g : Nat) (t : Int) (S : Nat → Prop) (w : World) (hm : c ≤ maxLen) (hc : l.length ≤ c) (hl : l.length ≤ 1000000) (h : RdL kInt S w A l) (hs : l.Pairwise (· < ·)) (hg : w.cell? ⟨g, 0, none⟩ = some (.int .i64 t)) :
    Calls Try.prog 19 #[.slice A l.length c, .slice (some ⟨g, 0, none⟩) 1 1] w fun e w' => e = .returned (.bool (decide (t ∈ l))) ∧ w = w' := by
  refine cps fun R hR => ?_
  have Hb := hide (bsearch_calls A l c t S w hm hc hl h hs)
  obtain ⟨b, hb⟩ : ∃ b : Bool, b = decide (t ∈ l) := ⟨_, rfl⟩
  rw [← hb] at hR Hb
  obtain ⟨L, hL⟩ : ∃ L, L = l.length := ⟨_, rfl⟩
  rw [← hL] at hc hl Hb ⊢
  clear h hs hb hL hm
  go_enter Try.func19, Try.ntmps19
  go_wp2_with fail
  go_loop [11] (fun i => ∃ k : Nat, k ≤ 1 ∧ i = .int .i64 (k : Int) ∧ (k = 1 → b = true)) (fun i => 1 - (intOf i).toNat)
  case atStart => exact ⟨0, by omega, rfl, fun h => by omega⟩
  case round =>
    obtain ⟨k, hk, rfl, hall⟩ := hrel
    by_cases hlt : k = 0
    · subst hlt
      clear hall
      go_wp2_with fail
      refine Hb.out.mono ?_
      rintro _ w1 ⟨i, rfl, rfl⟩
      cases b
      · go_wp2_with fail
        exact hR.out _ _ ⟨rfl, rfl⟩
      · go_wp2_with fail
        go_round
        case rel => exact ⟨1, by omega, rfl, by simp⟩
        case measure => simp [intOf]
    · obtain rfl : k = 1 := by omega
      obtain rfl := hall rfl
      clear hall
      go_wp2_with fail
      exact hR.out _ _ ⟨rfl, rfl⟩
end Go.Proofs.Ytdppjhfndolbjaa
