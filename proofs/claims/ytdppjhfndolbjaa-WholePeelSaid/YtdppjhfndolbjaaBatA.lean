/- The small functions of layers 16, 17: which numbers fit, which are known, which are left. -/
import Derived.Test.YtdppjhfndolbjaaBatPure2
import Derived.Test.YtdppjhfndolbjaaAppS
import Derived.Deep.QuietTactic
import Derived.BigQuiet
import Derived.Laws.Cover3
import Derived.Deep.Cut
import Derived.Deep.CutRange
set_option linter.unusedVariables false
set_option linter.unusedSimpArgs false
namespace Go.Proofs.Ytdppjhfndolbjaa
open Go.RowKit

abbrev kInt : Kd Int := Kd.int .i64
abbrev kEq : Kd EqB := Kd.seq (Kd.sl kInt) (Kd.sl Kd.byte)
/-- A block that may be missing: nil. -/
def kOb : Kd (Option (List UInt8)) where
  sz := 1
  R := fun S w x cs => match x with
    | none => cs = [.slice none 0 0]
    | some b => ∃ a c, cs = [.slice (some a) b.length c] ∧ b.length ≤ c ∧ c ≤ maxLen ∧ RdL Kd.byte S w (some a) b
  pos := by omega
  len := fun {S w x cs} h => by
    cases x with
    | none => rw [h]; rfl
    | some b => obtain ⟨a, c, e, _⟩ := h; rw [e]; rfl
  keep := fun {S w w' x cs} hk h => by
    cases x with
    | none => exact h
    | some b => obtain ⟨a, c, e, h1, h2, h3⟩ := h; exact ⟨a, c, e, h1, h2, h3.keep hk⟩
  mono := fun {S S' w x cs} hs h => by
    cases x with
    | none => exact h
    | some b => obtain ⟨a, c, e, h1, h2, h3⟩ := h; exact ⟨a, c, e, h1, h2, h3.mono hs⟩
theorem fitsI_no {all : Int} {of : List Int} {k : Nat} (hk : k < of.length) (h : okAt all of k = false) : fitsI all of = false := by
  unfold fitsI
  rw [List.all_eq_false]
  exact ⟨k, List.mem_range.2 hk, by simp [h]⟩
theorem fitsI_yes {all : Int} {of : List Int} (h : ∀ j, j < of.length → okAt all of j = true) : fitsI all of = true :=
  List.all_eq_true.2 fun j hj => h j (List.mem_range.1 hj)
theorem okAt_eq {all : Int} {of : List Int} {k : Nat} (hk : k < of.length) : okAt all of k = (decide (0 ≤ of[k]) && (decide (of[k] < all) && (decide (k = 0) || decide (of[k - 1]'(by omega) < of[k])))) := by
  rw [okAt, List.getD_eq_getElem?_getD, List.getElem?_eq_getElem hk, List.getD_eq_getElem?_getD, List.getElem?_eq_getElem (show k - 1 < of.length by omega)]; rfl
set_option maxHeartbeats 2000000 in
theorem cfits_calls (A : Option Addr) (of : List Int) (c : Nat) (all : Int) (S : Nat → Prop) (w : World) (hm : c ≤ maxLen) (hc : of.length ≤ c) (h : RdL kInt S w A of) :
    Calls Try.prog 23 #[.int .i64 all, .slice A of.length c] w fun e w' => e = .returned (.bool (fitsI all of)) ∧ w = w' := by
  refine cps fun R hR => ?_
  unfold maxLen at hm
  have H := hide h
  clear h
  obtain ⟨L, hL⟩ : ∃ L, L = of.length := ⟨_, rfl⟩
  rw [← hL] at hc ⊢
  have HL := hide hL
  clear hL
  go_enter Try.func23, Try.ntmps23
  go_wp2_with fail
  go_loop [9] (fun i => ∃ k : Nat, k ≤ L ∧ i = .int .i64 (k : Int) ∧ ∀ j : Nat, j < k → okAt all of j = true) (fun i => L - (intOf i).toNat)
  case atStart => exact ⟨0, Nat.zero_le _, rfl, fun j h => absurd h (by omega)⟩
  case round =>
    obtain ⟨k, hk, rfl, hall⟩ := hrel
    have Hall := hide hall
    clear hall
    by_cases hlt : k < L
    · have hkl : k < of.length := by rw [← HL.out]; exact hlt
      obtain ⟨b, off, u, rfl, -, hu, hcx⟩ := H.out.at1 rfl hkl
      obtain rfl := (Kd.int_cell hu).1
      have hok := okAt_eq (all := all) hkl
      obtain ⟨x, hx⟩ : ∃ x, x = of[k] := ⟨_, rfl⟩
      rw [← hx] at hcx hok
      have Hok := hide hok
      clear hu hok
      by_cases h1 : x < 0
      · have e1 : decide (x < 0) = true := by simp [h1]
        have hno := hide (fitsI_no (all := all) hkl (by rw [Hok.out]; simp; omega))
        clear h1 hx
        go_wp2_with fail
        exact hR.out _ _ ⟨by rw [hno.out], rfl⟩
      have e1 : decide (x < 0) = false := by simp; omega
      by_cases h2 : all ≤ x
      · have e2 : decide (all ≤ x) = true := by simp [h2]
        have hno := hide (fitsI_no (all := all) hkl (by rw [Hok.out]; simp; omega))
        clear h1 h2 hx
        go_wp2_with fail
        exact hR.out _ _ ⟨by rw [hno.out], rfl⟩
      have e2 : decide (all ≤ x) = false := by simp; omega
      by_cases h0 : k = 0
      · have i2 : decide ((0 : Int) < (k : Int)) = false := by simp; omega
        have i3 : decide (0 < k) = false := by simp; omega
        have i4 : ¬ 0 < k := by omega
        have hyes := hide (show ∀ j : Nat, j < k + 1 → okAt all of j = true from fun j hj => by
          obtain rfl : j = k := by omega
          rw [Hok.out, decide_eq_true h0]; simp; omega)
        clear h0 h1 h2 hx
        go_wp2_with fail
        go_round
        case rel => exact ⟨k + 1, by omega, by go_num, hyes.out⟩
        case measure => simp [intOf]; omega
      · obtain ⟨b', off', u', e', -, hu', hcy⟩ := H.out.at1 rfl (show k - 1 < of.length by omega)
        injection e' with e'; injection e' with e1' e2'
        subst e1'; subst e2'
        obtain rfl := (Kd.int_cell hu').1
        rw [decide_eq_false h0, Bool.false_or] at Hok
        obtain ⟨y, hy⟩ : ∃ y, y = of[k - 1]'(by omega) := ⟨_, rfl⟩
        rw [← hy] at hcy Hok
        have Hok2 := hide Hok.out
        have i2 : decide ((0 : Int) < (k : Int)) = true := by simp; omega
        have i3 : (k : Int) - 1 < (L : Int) := by omega
        have i4 : (0 : Int) ≤ (k : Int) - 1 := by omega
        clear hu' Hok hx hy h0
        by_cases h3 : x ≤ y
        · have e3 : decide (x ≤ y) = true := by simp [h3]
          have hno := hide (fitsI_no (all := all) hkl (by rw [Hok2.out]; simp; omega))
          clear h1 h2 h3
          go_wp2_with fail
          exact hR.out _ _ ⟨by rw [hno.out], rfl⟩
        · have e3 : decide (x ≤ y) = false := by simp; omega
          have hyes := hide (show ∀ j : Nat, j < k + 1 → okAt all of j = true from fun j hj => by
            by_cases e : j = k
            · subst e; rw [Hok2.out]; simp; omega
            · exact Hall.out j (by omega))
          clear h1 h2 h3
          go_wp2_with fail
          go_round
          case rel => exact ⟨k + 1, by omega, by go_num, hyes.out⟩
          case measure => simp [intOf]; omega
    · obtain rfl : k = L := by omega
      have hyes := hide (fitsI_yes (all := all) (of := of) fun j hj => Hall.out j (by have := HL.out; omega))
      go_wp2_with fail
      exact hR.out _ _ ⟨by rw [hyes.out], rfl⟩
/-- Solve's own test: is a block known? -/
theorem known_calls {B : Option Addr} {vs : Vals} {c : Nat} {S : Nat → Prop} {w : World} {p : Addr} (hp : w.cell? p = some (.slice B vs.length c)) (hc : vs.length ≤ c) (hm : c ≤ maxLen) (h : RdL kOb S w B vs) (i : Int) :
    Calls Try.prog 21 #[.int .i64 i, .pointer (some p)] w fun e w' => e = .returned (.bool (knB vs i)) ∧ w = w' := by
  refine cps fun R hR => ?_
  unfold maxLen at hm
  have hnil := fun a l c => run_neq_slice_nil (P := Try.prog) (w := w) 38 5 a l c Try.underlying38
  obtain ⟨L, hL⟩ : ∃ L, L = vs.length := ⟨_, rfl⟩
  have HL := hide hL
  rw [← hL] at hp hc
  clear hL
  by_cases h1 : 0 ≤ i
  · obtain ⟨k, rfl⟩ := Int.eq_ofNat_of_zero_le h1
    have i1 : decide ((0 : Int) ≤ (k : Int)) = true := by simp
    by_cases h2 : k < L
    · have i2 : decide ((k : Int) < (L : Int)) = true := by simp; omega
      have i3 : (k : Int) < (L : Int) := by omega
      have i4 : (0 : Int) ≤ (k : Int) := by omega
      obtain ⟨b, off, u, rfl, -, hu, hcx⟩ := h.at1 rfl (show k < vs.length by rw [← HL.out]; exact h2)
      have hk := knB_nat (vs := vs) (k := k)
      rw [List.getD_eq_getElem?_getD, List.getElem?_eq_getElem (show k < vs.length by rw [← HL.out]; exact h2), Option.getD_some] at hk
      have H := hide h
      clear h h1
      cases hx : vs[k]'(by rw [← HL.out]; exact h2) with
      | none =>
        rw [hx] at hu hk
        have hu' : [u] = [.slice none 0 0] := hu
        injection hu' with hu'
        subst hu'
        have Hk := hide hk
        clear hk hx
        go_enter Try.func21, Try.ntmps21
        go_wp2_with fail
        exact hR.out _ _ ⟨by rw [Hk.out]; rfl, rfl⟩
      | some y =>
        rw [hx] at hu hk
        obtain ⟨a, c', hu', -⟩ := hu
        injection hu' with hu'
        subst hu'
        have Hk := hide hk
        clear hk hx
        generalize y.length = ly at hcx
        go_enter Try.func21, Try.ntmps21
        go_wp2_with fail
        exact hR.out _ _ ⟨by rw [Hk.out]; rfl, rfl⟩
    · have i2 : decide ((k : Int) < (L : Int)) = false := by simp; omega
      have i3 : decide (k < L) = false := by simp; omega
      have Hk := hide (show knB vs (k : Int) = false by rw [knB_nat, List.getD_eq_getElem?_getD, List.getElem?_eq_none (by rw [← HL.out]; omega)]; rfl)
      clear h h1
      go_enter Try.func21, Try.ntmps21
      go_wp2_with fail
      exact hR.out _ _ ⟨by rw [Hk.out]; rfl, rfl⟩
  · have i1 : decide (0 ≤ i) = false := by simp; omega
    have Hk := hide (show knB vs i = false by rw [knB, i1]; rfl)
    clear h h1
    go_enter Try.func21, Try.ntmps21
    go_wp2_with fail
    exact hR.out _ _ ⟨by rw [Hk.out]; rfl, rfl⟩
/-- Solve's other test: does an equation fit, its value being as long? -/
theorem fits2_calls {A B : Option Addr} {of : List Int} {v : List UInt8} {c d : Nat} {all size : Int} {S : Nat → Prop} {w : World} {p q : Addr} (hp : w.cell? p = some (.int .i64 all)) (hq : w.cell? q = some (.int .i64 size)) (hc : of.length ≤ c) (hm : c ≤ maxLen) (h : RdL kInt S w A of) (hS : ∀ k, S k → k < w.heap.size) :
    Calls Try.prog 22 #[.agg #[.slice A of.length c, .slice B v.length d], .pointer (some p), .pointer (some q)] w fun e w' => e = .returned (.bool (okE all size (of, v))) ∧ Below w.heap.size w w' := by
  refine cps fun R hR => ?_
  have hok := hide (show okE all size (of, v) = (fitsI all of && decide ((v.length : Int) = size)) from rfl)
  obtain ⟨w1, hw1⟩ : ∃ w1, w1 = w.alloc (.cells #[.slice A of.length c, .slice B v.length d] 43) := ⟨_, rfl⟩
  have hb1 : Below w.heap.size w w1 := by rw [hw1]; exact balloc w _
  have hf := hide (cfits_calls A of c all S w1 hm hc (h.keep fun k hk => hb1.block k (hS k hk)))
  have p1 : w1.cell? p = some (.int .i64 all) := (hb1.cell (World.block_lt_of_cell? _ _ hp)).trans hp
  have q1 : w1.cell? q = some (.int .i64 size) := (hb1.cell (World.block_lt_of_cell? _ _ hq)).trans hq
  have hh : w1.heap[w.heap.size]? = some (.cells #[.slice A of.length c, .slice B v.length d] 43 (0, 0)) := by rw [hw1]; exact heap_alloc_new w _
  have c0 : w1.cell? ⟨w.heap.size, 0, none⟩ = some (.slice A of.length c) := by rw [cell_of_row _ _ 0 _ _ _ hh]; rfl
  have c1 : w1.cell? ⟨w.heap.size, 1, none⟩ = some (.slice B v.length d) := by rw [cell_of_row _ _ 1 _ _ _ hh]; rfl
  obtain ⟨ft, hft⟩ : ∃ b, b = fitsI all of := ⟨_, rfl⟩
  rw [← hft] at hf hok
  obtain ⟨es, hes⟩ : ∃ b, b = decide ((v.length : Int) = size) := ⟨_, rfl⟩
  rw [← hes] at hok
  have e1 : ((v.length : Int) == size) = es := by rw [hes]; rfl
  have Hw1 := hide hw1
  have Hb1 := hide hb1
  clear hp hq hb1 hw1 hh h hft hes hS
  generalize of.length = lo at *
  generalize v.length = lv at *
  go_enter Try.func22, Try.ntmps22
  go_upto_region 1 with fail
  rw [← Hw1.out]
  clear Hw1
  go_wp2_with fail
  refine hf.out.mono ?_
  rintro _ w2 ⟨rfl, rfl⟩
  cases ft
  · go_wp2_with fail
    exact hR.out _ _ ⟨by rw [hok.out]; rfl, Hb1.out⟩
  · cases es
    all_goals
      go_wp2_with fail
      exact hR.out _ _ ⟨by rw [hok.out]; rfl, Hb1.out⟩
end Go.Proofs.Ytdppjhfndolbjaa
