/- A degree drawn: the table's own search. -/
import Derived.Test.YtfkofhdgokhodaaDeg3
set_option linter.unusedVariables false
set_option linter.unusedSimpArgs false
namespace Go.Proofs.Ytfkofhdgokhodaa
open Go.RowKit

section
variable {F E : Nat} (m : May F E)
/-- The test at an index. -/
theorem test_calls (g B b1 b2 u k : Nat) (xs : List UInt64) (w : World) (h : Tab w B g xs) (hk : k < xs.length) (hl : xs.length ≤ 1000000)
    (d1 : w.cell? ⟨b1, 0, none⟩ = some (.int .u64 (u : Int))) (d2 : w.cell? ⟨b2, 0, none⟩ = some (.pointer (some ⟨g, 0, none⟩))) :
    Calls Try.prog 68 #[.int .i64 (k : Int), .pointer (some ⟨b1, 0, none⟩), .pointer (some ⟨b2, 0, none⟩)] w fun e w' => e = .returned (.bool (decide (u < xs[k].toNat))) ∧ Below w.heap.size w w' := by
  refine cps fun R hR => ?_
  obtain ⟨A, c, hc, -, hr⟩ := h.open
  obtain ⟨b, off, v, rfl, -, hu, hcell⟩ := hr.at1 rfl hk
  rw [Kd.u64_cell hu] at hcell
  clear hu hr h
  generalize xs[k].toNat = x at *
  generalize xs.length = n at *
  have hk2 : ((k : Int) < 0) = False := by simp
  go_enter Try.func68, Try.ntmps68
  go_upto_region 1 with fail
  go_quiet (fail)
  go_wp2_with fail
  exact hR.out _ _ ⟨rfl, ⟨rfl, rfl, rfl, Nat.le_refl _, fun _ _ => rfl⟩⟩
theorem search_calls (n : Nat) (p q : Addr) (P : Nat → Bool) (w : World) (hn : n ≤ 1000000)
    (hf : ∀ k, k < n → ∀ x, Below w.heap.size w x → Calls Try.prog 68 #[.int .i64 (k : Int), .pointer (some p), .pointer (some q)] x fun e w' => e = .returned (.bool (P k)) ∧ Below x.heap.size x w')
    (hm : ∀ i j, i ≤ j → j < n → P i = true → P j = true) :
    Calls Try.prog 67 #[.int .i64 (n : Int), .func (.func 68) #[] #[.pointer (some p), .pointer (some q)]] w fun e w' => ∃ d : Nat, e = .returned (.int .i64 (d : Int)) ∧ (d ≤ n ∧ (∀ i, i < d → P i = false) ∧ (d < n → P d = true)) ∧ Below w.heap.size w w' := by
  refine cps fun R hR => ?_
  have Hf := hide hf
  have Hm := hide hm
  have Hn := hide hn
  clear hf hm hn
  go_enter Try.func67, Try.ntmps67
  go_wp2_with fail
  go_loopw [5, 6] (fun i j wr => ∃ a b : Nat, a ≤ b ∧ b ≤ n ∧ i = .int .i64 (a : Int) ∧ j = .int .i64 (b : Int) ∧ (∀ i, i < a → P i = false) ∧ (b < n → P b = true) ∧ Below w.heap.size w wr) (fun i j _ => (intOf j - intOf i).toNat)
  case atStart => exact ⟨0, n, by omega, by omega, rfl, rfl, fun i hi => by omega, fun hi => by omega, Below.refl _ _⟩
  case round =>
    obtain ⟨a, b, h1, h2, rfl, rfl, hlo, hhi, hB⟩ := hrel
    by_cases hlt : a < b
    · obtain ⟨h, hh⟩ : ∃ h, h = (a + b) / 2 := ⟨_, rfl⟩
      have hmid := hide (show wrap64 (IntKind.u64.wrap (wrap64 ((a : Int) + (b : Int))) / 2) = (h : Int) by
        have := Hn.out
        have e1 : IntKind.u64.wrap ((a : Int) + (b : Int)) = ((a + b : Nat) : Int) := w64_nat (by push_cast; rfl) (by omega)
        rw [IntWalk.wrap64_in ((a : Int) + (b : Int)) ⟨by omega, by omega⟩, e1, show ((a + b : Nat) : Int) / 2 = (h : Int) by omega, IntWalk.wrap64_in _ ⟨by omega, by omega⟩])
      have hh1 : Hid (wrap64 ((h : Int) + 1) = ((h + 1 : Nat) : Int)) := hide (by
        have := Hn.out
        rw [IntWalk.wrap64_in _ ⟨by omega, by omega⟩]; omega)
      have hc := hide (Hf.out h (by omega) wr hB)
      have Hh := hide (show a ≤ h ∧ h < b ∧ b ≤ n by omega)
      have Hlo := hide hlo
      have Hhi := hide hhi
      have HB := hide hB
      have t1 : decide (a < b) = true := by simp; omega
      clear hlo hhi hB h1 h2 hlt hh
      by_cases hp : P h = true
      · rw [hp] at hc
        have Hp := hide hp
        clear hp
        go_wp2_with fail
        rw [hmid.out]
        refine hc.out.mono ?_
        rintro e w1 ⟨rfl, hb1⟩
        clear t1
        go_wp2_with fail
        have hx := Hh.out
        refine ⟨⟨a, h, by omega, by omega, rfl, rfl, Hlo.out, fun _ => Hp.out, below_step HB.out HB.out.size hb1⟩, ?_⟩
        simp only [intOf]; omega
      · have hp : P h = false := by simpa using hp
        rw [hp] at hc
        have Hp := hide hp
        clear hp
        go_wp2_with fail
        rw [hmid.out]
        refine hc.out.mono ?_
        rintro e w1 ⟨rfl, hb1⟩
        clear t1
        go_wp2_with fail
        rw [hh1.out]
        have hx := Hh.out
        refine ⟨⟨h + 1, b, by omega, by omega, rfl, rfl, fun i hi => ?_, Hhi.out, below_step HB.out HB.out.size hb1⟩, ?_⟩
        · by_cases hi2 : P i = true
          · have := Hm.out i h (by omega) (by omega) hi2
            rw [Hp.out] at this; exact absurd this (by decide)
          · simpa using hi2
        · simp only [intOf]; omega
    · obtain rfl : a = b := by omega
      have t1 : decide (a < a) = false := by simp
      have Hlo := hide hlo
      have Hhi := hide hhi
      have H2 := hide h2
      clear hlo hhi h1 h2 hlt
      go_wp2_with fail
      exact hR.out _ _ ⟨a, rfl, ⟨H2.out, Hlo.out, Hhi.out⟩, hB⟩
include m
theorem of_calls (g B u : Nat) (w : World) (h : Tab w B g (belL F E (F - 1))) :
    Calls Try.prog 43 #[.pointer (some ⟨g, 0, none⟩), .int .u64 (u : Int)] w fun e w' => ∃ d : Nat, e = .returned (.int .i64 (d : Int)) ∧ IsOf F E u d ∧ Below w.heap.size w w' := by
  refine cps fun R hR => ?_
  obtain ⟨W, hW⟩ : ∃ W, W = (w.alloc (.cells #[.pointer (some ⟨g, 0, none⟩)] 94)).alloc (.cells #[.int .u64 (u : Int)] 24) := ⟨_, rfl⟩
  have HW := hide hW
  have HbW : Hid (Below w.heap.size w W) := hide (by rw [hW]; exact (balloc w _).alloc (balloc w _).size _)
  have T := h.below HbW.out
  obtain ⟨A, c, hc, -, hr⟩ := T.open
  rw [belL_len] at hc
  have d2 : W.cell? ⟨w.heap.size, 0, none⟩ = some (.pointer (some ⟨g, 0, none⟩)) := by rw [hW]; simp
  have d1 : W.cell? ⟨w.heap.size + 1, 0, none⟩ = some (.int .u64 (u : Int)) := by rw [hW]; simp
  clear hW
  go_enter Try.func43, Try.ntmps43
  go_upto_region 1 with fail
  rw [← HW.out]
  have hF := m.f4
  have hs1 : w.heap.size + 1 < W.heap.size := World.block_lt_of_cell? W _ d1
  have hd1' : ∀ x, Below W.heap.size W x → x.cell? ⟨w.heap.size + 1, 0, none⟩ = some (.int .u64 (u : Int)) := fun x hx => (hx.cell hs1).trans d1
  have hd2' : ∀ x, Below W.heap.size W x → x.cell? ⟨w.heap.size, 0, none⟩ = some (.pointer (some ⟨g, 0, none⟩)) := fun x hx => (hx.cell (World.block_lt_of_cell? W _ d2)).trans d2
  have hS := hide (search_calls (F - 1) ⟨w.heap.size + 1, 0, none⟩ ⟨w.heap.size, 0, none⟩ (fun k => decide (u < bel F E (k + 1))) W (by omega)
    (fun k hk x hx => (test_calls g B (w.heap.size + 1) w.heap.size u k (belL F E (F - 1)) x (T.below hx) (by rw [belL_len]; exact hk) (by rw [belL_len]; omega) (hd1' x hx) (hd2' x hx)).mono
      fun e w' he => ⟨by rw [he.1, belL_get m (by omega)], he.2⟩)
    (fun i j hij hj hp => by
      simp only [decide_eq_true_eq] at hp ⊢
      exact Nat.lt_of_lt_of_le hp (bel_mono m (by omega) (by omega) (by omega))))
  have M := hide m
  clear hF hs1 T hr d1 h hd1' hd2'
  go_wp2_with fail
  refine hS.out.mono ?_
  rintro e w1 ⟨d, rfl, hd, hb1⟩
  have Hd := hide hd
  have hd1 : Hid (wrap64 (1 + (d : Int)) = ((d + 1 : Nat) : Int)) := hide (by
    have := M.out.f4
    have := hd.1
    rw [IntWalk.wrap64_in _ ⟨by omega, by omega⟩]; omega)
  clear hd
  go_wp2_with fail
  rw [hd1.out]
  have hd := Hd.out
  have h2 := M.out.f2
  refine hR.out _ _ ⟨d + 1, rfl, ⟨by omega, by omega, fun i h1 h3 => ?_, fun h3 => ?_⟩, below_step HbW.out HbW.out.size hb1⟩
  · have := hd.2.1 (i - 1) (by omega)
    simp only [decide_eq_false_iff_not] at this
    rw [show i - 1 + 1 = i by omega] at this
    omega
  · have := hd.2.2 (by omega)
    simpa using this
end
end Go.Proofs.Ytfkofhdgokhodaa
