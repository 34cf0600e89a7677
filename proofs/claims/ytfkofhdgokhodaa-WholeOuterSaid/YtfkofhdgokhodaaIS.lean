/- Rows of ints: the law's Same, slices.BinarySearch, sample.Has. -/
import Derived.Test.YtfkofhdgokhodaaCat
import Derived.Test.YtfkofhdgokhodaaOwn
import Derived.Test.YtfkofhdgokhodaaCh
import Derived.Deep.Cut
import Derived.Deep.CutRange
set_option linter.unusedVariables false
set_option linter.unusedSimpArgs false
namespace Go.Proofs.Ytfkofhdgokhodaa
open Go.RowKit

abbrev kInt : Kd Int := Kd.int .i64
/-- One place of an own row is written. -/
theorem Row.set {w : World} {e : TypeId} {v : Value} {us : List Value} (h : Row w e v us) {i : Nat} (hi : i < us.length) (u : Value) :
    ∃ q c, v = .slice (some ⟨q, 0, none⟩) us.length c ∧ w.cell? ⟨q, i, none⟩ = some us[i] ∧ w.frozen? ⟨q, i, none⟩ = false ∧ q < w.heap.size ∧ Row (w.setCell ⟨q, i, none⟩ u) e v (us.set i u) := by
  rcases h.2 with ⟨_, hn⟩ | ⟨g, cap, cur, rfl, hg, hh, h1, h2, h3, h4⟩
  · omega
  rw [Nat.mul_one] at h3 h4
  have hlt := (Array.getElem?_eq_some_iff.1 hh).1
  have hci : cur[i]? = some us[i] := by
    have e1 : (List.take us.length cur.toList)[i]? = us[i]? := by rw [h4]
    rw [List.getElem?_take_of_lt hi, Array.getElem?_toList, List.getElem?_eq_getElem hi] at e1
    exact e1
  refine ⟨g, cap, rfl, by rw [cell_of_row w g _ cur e (0, 0) hh]; exact hci, by simp [World.frozen?, hh], hlt, ?_⟩
  refine ⟨(Nat.mul_one _).symm, .inr ⟨g, cap, cur.setIfInBounds i u, by rw [List.length_set], hg, ?_, by rw [List.length_set]; exact h1, h2, by rw [Array.size_setIfInBounds, h3, Nat.mul_one], ?_⟩⟩
  · simp [World.setCell, Array.getElem?_modify, hh]
  · rw [Nat.mul_one, Array.toList_setIfInBounds, List.length_set, List.take_set, h4]
theorem sl_at {α : Type} {d : Kd α} {S : Nat → Prop} {w : World} {B : Option Addr} {l : List (List α)} (h : RdL (Kd.sl d) S w B l) {i : Nat} (hi : i < l.length) : ∃ b off A c, B = some ⟨b, off, none⟩ ∧ S b ∧ w.cell? ⟨b, off + i, none⟩ = some (.slice A l[i].length c) ∧ l[i].length ≤ c ∧ c ≤ maxLen ∧ RdL d S w A l[i] := by
  obtain ⟨b, off, u, e, hs, hu, hc⟩ := h.at1 rfl hi
  obtain ⟨A, c, rfl, h1, h2, h3⟩ := Kd.sl_cell hu
  exact ⟨b, off, A, c, e, hs, hc, h1, h2, h3⟩
theorem row_ints {T : Nat → Prop} {w : World} {e : TypeId} {A : Option Addr} {n c : Nat} {l : List Int} (h : Row w e (.slice A n c) (l.map encI)) (hw : ∀ x ∈ l, (Lit.int .i64 x).wf = true) (hT : ∀ k, (Value.slice A n c).ownBlock = some k → T k) : RdL kInt T w A l := by
  intro hp
  obtain ⟨q, c', e', hcell, -⟩ := h.set (i := 0) (by simpa using hp) (.bool true)
  injection e' with e1
  subst e1
  refine ⟨q, 0, rfl, hT q rfl, fun i x hx => ⟨[encI x], ⟨_, rfl, rfl, hw x (List.mem_of_getElem? hx)⟩, fun j u hu => ?_⟩⟩
  cases j with
  | zero =>
    simp at hu; subst hu
    have hi : i < (l.map encI).length := by have := (List.getElem?_eq_some_iff.1 hx).1; simpa using this
    obtain ⟨q', c'', e'', hc', -⟩ := h.set (i := i) hi (.bool true)
    injection e'' with e2
    injection e2 with e2; injection e2 with e2
    subst e2
    obtain ⟨h1, h2⟩ := List.getElem?_eq_some_iff.1 hx
    rw [List.getElem_map, h2] at hc'
    rw [show (0 : Nat) + (i * kInt.sz + 0) = i by simp [kInt, Kd.int, Kd.one]]
    exact hc'
  | succ j => simp at hu
theorem cnan_calls (x : Int) (w : World) : Calls Try.prog 94 #[.int .i64 x] w fun e w' => e = .returned (.bool false) ∧ w = w' := by
  refine cps fun R hR => ?_
  have t : (x != x) = false := by simp
  go_enter Try.func94, Try.ntmps94
  go_wp2_with fail
  exact hR.out _ _ ⟨rfl, rfl⟩
theorem snan_calls (x : Int) (w : World) : Calls Try.prog 65 #[.int .i64 x] w fun e w' => e = .returned (.bool false) ∧ w = w' := by
  refine cps fun R hR => ?_
  have t : (x != x) = false := by simp
  go_enter Try.func65, Try.ntmps65
  go_wp2_with fail
  exact hR.out _ _ ⟨rfl, rfl⟩
theorem less_calls (x y : Int) (w : World) : Calls Try.prog 64 #[.int .i64 x, .int .i64 y] w fun e w' => e = .returned (.bool (decide (x < y))) ∧ w = w' := by
  refine cps fun R hR => ?_
  obtain ⟨b, hb⟩ : ∃ b : Bool, b = decide (x < y) := ⟨_, rfl⟩
  rw [← hb] at hR
  have t : decide (x < y) = b := hb.symm
  clear hb
  go_enter Try.func64, Try.ntmps64
  go_wp2_with fail
  refine (cnan_calls x w).mono ?_
  rintro _ w1 ⟨rfl, rfl⟩
  go_wp2_with fail
  exact hR.out _ _ ⟨rfl, rfl⟩
theorem srt_at {l : List Int} (h : l.Pairwise (· < ·)) {a b : Nat} (hb : b < l.length) (hab : a ≤ b) : l[a]'(by omega) ≤ l[b] := by
  rcases Nat.lt_or_eq_of_le hab with h1 | rfl
  · exact Int.le_of_lt (List.pairwise_iff_getElem.1 h a b (by omega) hb h1)
  · exact Int.le_refl _
set_option maxHeartbeats 4000000 in
theorem bsearch_calls (A : Option Addr) (l : List Int) (c : Nat) (t : Int) (S : Nat → Prop) (w : World) (hm : c ≤ maxLen) (hc : l.length ≤ c) (hl : l.length ≤ 1000000) (h : RdL kInt S w A l) (hs : l.Pairwise (· < ·)) :
    Calls Try.prog 41 #[.slice A l.length c, .int .i64 t] w fun e w' => ∃ i : Nat, e = .returned (.tuple #[.int .i64 (i : Int), .bool (decide (t ∈ l))]) ∧ w = w' := by
  refine cps fun R hR => ?_
  unfold maxLen at hm
  have H := hide h
  have HS := hide hs
  obtain ⟨L, hL⟩ : ∃ L, L = l.length := ⟨_, rfl⟩
  rw [← hL] at hc hl ⊢
  have HL := hide hL
  clear h hs hL
  go_enter Try.func41, Try.ntmps41
  go_wp2_with fail
  go_loopg [7, 8] L (fun g s7 s8 wr => ∃ lo hi : Nat, s7 = .int .i64 (lo : Int) ∧ s8 = .int .i64 (hi : Int) ∧ lo ≤ hi ∧ hi ≤ L ∧ hi - lo ≤ g ∧ w = wr ∧ (∀ j (hj : j < l.length), j < lo → l[j] < t) ∧ (∀ j (hj : j < l.length), hi ≤ j → t ≤ l[j]))
  case atStart => exact ⟨0, L, rfl, rfl, Nat.zero_le _, Nat.le_refl _, by omega, rfl, fun j hj h => absurd h (by omega), fun j hj h => absurd h (by have := HL.out; omega)⟩
  case round =>
    obtain ⟨lo, hi, rfl, rfl, hlh, hin, hg, rfl, h1, h2⟩ := hrel
    have H1 := hide h1
    have H2 := hide h2
    clear h1 h2
    by_cases hlt : lo < hi
    · obtain ⟨md, hmd⟩ : ∃ md, md = (lo + hi) / 2 := ⟨_, rfl⟩
      have hml : lo ≤ md ∧ md < hi := by omega
      have hkl : md < l.length := by rw [← HL.out]; omega
      obtain ⟨b, off, u, rfl, -, hu, hcx⟩ := H.out.at1 rfl hkl
      obtain rfl := (Kd.int_cell hu).1
      obtain ⟨x, hx⟩ : ∃ x, x = l[md] := ⟨_, rfl⟩
      rw [← hx] at hcx
      have hsr := hide (show ∀ j (hj : j < l.length), (j ≤ md → l[j] ≤ x) ∧ (md ≤ j → x ≤ l[j]) from fun j hj => ⟨fun h => by rw [hx]; exact srt_at HS.out hkl h, fun h => by rw [hx]; exact srt_at HS.out hj h⟩)
      have em : ((lo : Int) + (hi : Int)) / 2 = (md : Int) := by rw [hmd]; omega
      have Hless := hide (less_calls x t w)
      have i1 : (0 : Int) ≤ (md : Int) := by omega
      have i2 : (md : Int) < (L : Int) := by omega
      have hi63 : ((lo : Int) + (hi : Int)) ≤ 2000000 := by omega
      clear hu hx hmd
      go_wp2_with fail
      refine Hless.out.mono ?_
      rintro _ w1 ⟨rfl, rfl⟩
      by_cases hxt : x < t
      · have e1 : decide (x < t) = true := decide_eq_true hxt
        have Hxt := hide hxt
        clear hxt
        go_wp2_with fail
        go_roundg (hi - (md + 1))
        case measure => omega
        case rel => exact ⟨md + 1, hi, by rw [Int.natCast_succ], rfl, by omega, hin, by omega, rfl, fun j hj hjm => by
          have := (hsr.out j hj).1 (by omega); have := Hxt.out; omega, H2.out⟩
      · have e1 : decide (x < t) = false := decide_eq_false hxt
        have Hxt := hide hxt
        clear hxt
        go_wp2_with fail
        go_roundg (md - lo)
        case measure => omega
        case rel => exact ⟨lo, md, rfl, rfl, by omega, by omega, by omega, rfl, H1.out, fun j hj hjm => by
          have := (hsr.out j hj).2 (by omega); have := Hxt.out; omega⟩
    · obtain rfl : hi = lo := by omega
      by_cases hlL : hi < L
      · have hkl : hi < l.length := by rw [← HL.out]; exact hlL
        obtain ⟨b, off, u, rfl, -, hu, hcx⟩ := H.out.at1 rfl hkl
        obtain rfl := (Kd.int_cell hu).1
        have hge := H2.out hi hkl (Nat.le_refl _)
        have hmem : l[hi] ≠ t → t ∉ l := fun hne hm => by
          obtain ⟨j, hj, e⟩ := List.getElem_of_mem hm
          rcases Nat.lt_trichotomy j hi with h3 | h3 | h3
          · have := H1.out j hj h3; omega
          · subst h3; exact hne e
          · have h4 := List.pairwise_iff_getElem.1 HS.out hi j hkl hj h3
            omega
        have hmy : l[hi] = t → t ∈ l := fun e => e ▸ List.getElem_mem hkl
        obtain ⟨x, hx⟩ : ∃ x, x = l[hi] := ⟨_, rfl⟩
        rw [← hx] at hcx hmem hmy
        have Hnan := hide (snan_calls x w)
        have i1 : (0 : Int) ≤ (hi : Int) := by omega
        have i2 : (hi : Int) < (L : Int) := by omega
        have i3 : decide ((hi : Int) < (L : Int)) = true := decide_eq_true i2
        clear hu hx hge
        by_cases hxt : x = t
        · have e1 : (x == t) = true := by simp [hxt]
          have hin2 := hide (show decide (t ∈ l) = true from decide_eq_true (hmy hxt))
          clear hxt hmem hmy
          go_wp2_with fail
          exact hR.out _ _ ⟨hi, by rw [hin2.out]; rfl, rfl⟩
        · have e1 : (x == t) = false := by simp [hxt]
          have hin2 := hide (show decide (t ∈ l) = false from decide_eq_false (hmem hxt))
          clear hxt hmem hmy
          go_wp2_with fail
          refine Hnan.out.mono ?_
          rintro _ w1 ⟨rfl, rfl⟩
          go_wp2_with fail
          exact hR.out _ _ ⟨hi, by rw [hin2.out]; rfl, rfl⟩
      · have hin2 := hide (show decide (t ∈ l) = false from decide_eq_false fun hm => by
          obtain ⟨j, hj, e⟩ := List.getElem_of_mem hm
          have := H1.out j hj (by have := HL.out; omega)
          omega)
        have i3 : decide ((hi : Int) < (L : Int)) = false := by simp; omega
        go_wp2_with fail
        exact hR.out _ _ ⟨hi, by rw [hin2.out]; rfl, rfl⟩
def sameN (a b : List Int) : Int := if a = b then 1 else 0
theorem sameN_no {a b : List Int} (h : a ≠ b) : sameN a b = 0 := by simp [sameN, h]
theorem sameN_yes (a : List Int) : sameN a a = 1 := by simp [sameN]
set_option maxHeartbeats 2000000 in
theorem same_calls (A : Option Addr) (a : List Int) (ca : Nat) (B : Option Addr) (b : List Int) (cb : Nat) (S : Nat → Prop) (w : World) (h1 : ca ≤ maxLen) (h2 : a.length ≤ ca) (ha : RdL kInt S w A a) (h3 : cb ≤ maxLen) (h4 : b.length ≤ cb) (hb : RdL kInt S w B b) (hS : ∀ k, S k → k < w.heap.size) :
    Calls Try.prog 13 #[.slice A a.length ca, .slice B b.length cb] w fun e w' => e = .returned (.int .i64 (sameN a b)) ∧ Below w.heap.size w w' := by
  refine cps fun R hR => ?_
  unfold maxLen at h1 h3
  have Ha := hide ha
  have Hb := hide hb
  have HS := hide hS
  clear ha hb hS
  obtain ⟨L, hL⟩ : ∃ L, L = a.length := ⟨_, rfl⟩
  obtain ⟨M, hM⟩ : ∃ M, M = b.length := ⟨_, rfl⟩
  rw [← hL] at h2 ⊢
  rw [← hM] at h4 ⊢
  have HL := hide hL
  have HM := hide hM
  clear hL hM
  by_cases hLM : L = M
  · have e1 : ((L : Int) != (M : Int)) = false := by simp; omega
    have HLM := hide hLM
    clear hLM
    go_enter Try.func13, Try.ntmps13
    go_wp2_with fail
    go_loopw [13] (fun i wr => ∃ k : Nat, k ≤ L ∧ i = .int .i64 (k : Int) ∧ Below w.heap.size w wr ∧ a.take k = b.take k) (fun i _ => L - (intOf i).toNat)
    case atStart => exact ⟨0, Nat.zero_le _, rfl, Below.refl _ _, by simp⟩
    case round =>
      obtain ⟨k, hk, rfl, hbw, htk⟩ := hrel
      by_cases hlt : k < L
      · have hka : k < a.length := by rw [← HL.out]; exact hlt
        have hkb : k < b.length := by rw [← HM.out, ← HLM.out]; exact hlt
        obtain ⟨b1, o1, u1, rfl, -, q1, c1⟩ := (Ha.out.keep (w' := wr) fun z hz => hbw.block z (HS.out z hz)).at1 rfl hka
        obtain ⟨b2, o2, u2, rfl, -, q2, c2⟩ := (Hb.out.keep (w' := wr) fun z hz => hbw.block z (HS.out z hz)).at1 rfl hkb
        obtain rfl := (Kd.int_cell q1).1
        obtain rfl := (Kd.int_cell q2).1
        have hnext := List.take_succ_eq_append_getElem hka
        have hnextb := List.take_succ_eq_append_getElem hkb
        obtain ⟨x, hx⟩ : ∃ x, x = a[k] := ⟨_, rfl⟩
        obtain ⟨y, hy⟩ : ∃ y, y = b[k] := ⟨_, rfl⟩
        have i1 : (0 : Int) ≤ (k : Int) := by omega
        have i2 : (k : Int) < (L : Int) := by omega
        have i3 : (k : Int) < (M : Int) := by have := HLM.out; omega
        rw [← hx] at c1 hnext
        rw [← hy] at c2 hnextb
        by_cases hxy : x = y
        · have e2 : (x != y) = false := by simp [hxy]
          have Hn := hide (show a.take (k + 1) = b.take (k + 1) by rw [hnext, hnextb, htk, hxy])
          have Hbw := hide hbw
          clear hxy hx hy hnext hnextb htk hbw q1 q2
          go_wp2_with fail
          go_quiet (fail)
          go_wp2_with fail
          exact ⟨⟨k + 1, by omega, by rw [Int.natCast_succ], ⟨Hbw.out.os, Hbw.out.tape, Hbw.out.output, Hbw.out.size, Hbw.out.block⟩, Hn.out⟩, by simp only [intOf]; omega⟩
        · have e2 : (x != y) = true := by simp [hxy]
          have Hno := hide (sameN_no (show a ≠ b from fun e => hxy (by rw [hx, hy]; simp only [e])))
          have Hbw := hide hbw
          clear hxy hx hy hnext hnextb htk hbw q1 q2
          go_wp2_with fail
          go_quiet (fail)
          go_wp2_with fail
          exact hR.out _ _ ⟨by rw [Hno.out]; rfl, ⟨Hbw.out.os, Hbw.out.tape, Hbw.out.output, Hbw.out.size, Hbw.out.block⟩⟩
      · obtain rfl : k = L := by omega
        have hab : a = b := by
          rwa [List.take_of_length_le (by rw [← HL.out]; exact Nat.le_refl _), List.take_of_length_le (by rw [← HM.out, ← HLM.out]; exact Nat.le_refl _)] at htk
        have Hy := hide (show sameN a b = 1 by rw [hab]; exact sameN_yes b)
        have Hbw := hide hbw
        clear hab htk hbw
        go_wp2_with fail
        exact hR.out _ _ ⟨by rw [Hy.out]; rfl, Hbw.out⟩
  · have e1 : ((L : Int) != (M : Int)) = true := by simp; omega
    have Hno := hide (sameN_no (show a ≠ b from fun e => hLM (by rw [HL.out, HM.out, e])))
    clear hLM
    go_enter Try.func13, Try.ntmps13
    go_wp2_with fail
    exact hR.out _ _ ⟨by rw [Hno.out]; rfl, Below.refl _ _⟩
theorem shas_calls (A : Option Addr) (l : List Int) (c : Nat) (t : Int) (S : Nat → Prop) (w : World) (hm : c ≤ maxLen) (hc : l.length ≤ c) (hl : l.length ≤ 1000000) (h : RdL kInt S w A l) (hs : l.Pairwise (· < ·)) :
    Calls Try.prog 15 #[.slice A l.length c, .int .i64 t] w fun e w' => e = .returned (.bool (decide (t ∈ l))) ∧ w = w' := by
  refine cps fun R hR => ?_
  have hb := hide (bsearch_calls A l c t S w hm hc hl h hs)
  obtain ⟨L, hL⟩ : ∃ L, L = l.length := ⟨_, rfl⟩
  obtain ⟨b, hB⟩ : ∃ b, b = decide (t ∈ l) := ⟨_, rfl⟩
  rw [← hL, ← hB] at hb
  rw [← hL]
  rw [← hB] at hR
  clear hL hB h hs hl hc hm
  go_enter Try.func15, Try.ntmps15
  go_wp2_with fail
  refine hb.out.mono ?_
  rintro _ w1 ⟨i, rfl, rfl⟩
  go_wp2_with fail
  exact hR.out _ _ ⟨rfl, rfl⟩
end Go.Proofs.Ytfkofhdgokhodaa
