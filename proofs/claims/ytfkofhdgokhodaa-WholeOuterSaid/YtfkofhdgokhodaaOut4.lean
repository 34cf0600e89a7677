/- The outer code's answers: get, Of, Has, Auxiliary, Equation. -/
import Derived.Test.YtfkofhdgokhodaaOut2
import Derived.Deep.RegionLaw
set_option linter.unusedVariables false
set_option linter.unusedSimpArgs false
namespace Go.Proofs.Ytfkofhdgokhodaa
open Go.RowKit Go.Maps

set_option maxHeartbeats 1000000 in
theorem get_calls {w : World} {n c lu cu i : Nat} {A Au : Option Addr} {us : List Value} {l : List Int} (hr : Row w 29 (.slice A n c) us) (hn : us.length = n) (hi : us[i]? = some (.slice Au lu cu)) (hl : Row w 3 (.slice Au lu cu) (l.map encI)) (hlu : l.length = lu) (hl9 : lu ≤ 1000) (hn9 : n ≤ 1000000) :
    Calls Try.prog 40 #[.slice A n c, .int .i64 (i : Int)] w fun e w' => ∃ v, e = .returned v ∧ Row w' 3 v (l.map encI) ∧ (∀ z, v.ownBlock = some z → w.heap.size ≤ z) ∧ Below w.heap.size w w' := by
  refine cps fun R hR => ?_
  have hil : i < us.length := (List.getElem?_eq_some_iff.1 hi).1
  obtain ⟨zo, co', ev, cc, -, -, -⟩ := hr.set hil (.bool true)
  injection ev with ev ev2 ev3
  subst ev
  rw [(List.getElem?_eq_some_iff.1 hi).2] at cc
  have i1 : (0 : Int) ≤ (i : Int) := by omega
  have i2 : (i : Int) < (n : Int) := by omega
  have hin : i < n := by omega
  have t1 : decide ((i : Int) < 0) = false := by simp
  have t2 : decide ((n : Int) ≤ (i : Int)) = false := by simp; omega
  have hsrc := hide hl.src
  have hone := hide (encI_one l)
  have Hll := hide (show (l.map encI).length = lu by rw [List.length_map, hlu])
  clear ev2 ev3 hr hn hi hl hlu hil
  go_enter Try.func40, Try.ntmps40
  go_wp2_with (at_builtin; with_reducible refine wp_app 17 rfl rfl (.const (.slice none 0 0)) (.tmp 16) 29 rfl Try.underlying29 infoIq ?_ (v := .slice none 0 0) (us := []) ?_ Row.nil (A := Au) (c := cu) (news := l.map encI) ?_ hsrc.out hone.out ?_ ?_ ?_)
  · rfl
  · rfl
  · rw [Hll.out]; rfl
  · rw [Hll.out]; simp; omega
  · rw [Hll.out]; unfold maxLen; simp; omega
  intro v5 w5 hr5 g5 o5
  rw [List.nil_append] at hr5
  have hfin := hide (show Row w5 3 v5 (l.map encI) ∧ (∀ z, v5.ownBlock = some z → w.heap.size ≤ z) ∧ Below w.heap.size w w5 from ⟨hr5, fun z hz => by
    rcases o5 with e | e
    · rw [e] at hz; cases hz
    · rw [e] at hz; injection hz with hz; omega, (Ch.of_grown g5).below (Below.refl _ _) (Nat.le_refl _) fun z hz => by cases hz⟩)
  clear hr5 g5 o5
  go_wp2_with fail
  exact hR.out _ _ ⟨_, rfl, hfin.out⟩
section
variable {b0 g : Nat} {c : Nat → Nat} {w : World} {vo vh u : Value} {uo uh : List Value} {of has : List (List Int)} {l : List Int} {i : Nat}
set_option maxHeartbeats 1000000 in
theorem of_calls (h : OG b0 c w g vo vh uo uh of has) (hi : of[i]? = some l) (hl9 : l.length ≤ 1000) (hn9 : of.length ≤ 1000000) :
    Calls Try.prog 14 #[.pointer (some ⟨g, 0, none⟩), .int .i64 (i : Int)] w fun e w' => ∃ v, e = .returned v ∧ Row w' 3 v (l.map encI) ∧ (∀ z, v.ownBlock = some z → w.heap.size ≤ z) ∧ Below w.heap.size w w' := by
  refine cps fun R hR => ?_
  have hil := (List.getElem?_eq_some_iff.1 hi).1
  obtain ⟨u, hu⟩ : ∃ u, uo[i]? = some u := ⟨uo[i]'(by rw [h.lo]; exact hil), List.getElem?_eq_getElem _⟩
  have hru := (h.eo i u l hu hi).1
  obtain ⟨Au, cu, rfl, -, -⟩ := hru.shape
  obtain ⟨A, co, rfl, -, -⟩ := h.ro.shape
  obtain ⟨e0, -, -⟩ := h.cells
  have hg := hide (get_calls h.ro rfl hu hru (by rw [List.length_map]) (by rw [List.length_map]; exact hl9) (by rw [h.lo]; exact hn9))
  obtain ⟨n, hn⟩ : ∃ n, n = uo.length := ⟨_, rfl⟩
  rw [← hn] at e0 hg
  clear hn h hi hu hru hil
  go_enter Try.func14, Try.ntmps14
  go_wp2_with fail
  refine hg.out.mono ?_
  rintro _ w5 ⟨v, rfl, h5⟩
  have H5 := hide h5
  clear h5
  go_wp2_with fail
  exact hR.out _ _ ⟨_, rfl, H5.out⟩
set_option maxHeartbeats 1000000 in
theorem has_calls (h : OG b0 c w g vo vh uo uh of has) (hi : has[i]? = some l) (hl9 : l.length ≤ 1000) (hn9 : has.length ≤ 1000000) :
    Calls Try.prog 36 #[.pointer (some ⟨g, 0, none⟩), .int .i64 (i : Int)] w fun e w' => ∃ v, e = .returned v ∧ Row w' 3 v (l.map encI) ∧ (∀ z, v.ownBlock = some z → w.heap.size ≤ z) ∧ Below w.heap.size w w' := by
  refine cps fun R hR => ?_
  have hil := (List.getElem?_eq_some_iff.1 hi).1
  obtain ⟨u, hu⟩ : ∃ u, uh[i]? = some u := ⟨uh[i]'(by rw [h.lh]; exact hil), List.getElem?_eq_getElem _⟩
  have hru := (h.eh i u l hu hi).1
  obtain ⟨Au, cu, rfl, -, -⟩ := hru.shape
  obtain ⟨A, co, rfl, -, -⟩ := h.rh.shape
  obtain ⟨-, e0, -⟩ := h.cells
  have hg := hide (get_calls h.rh rfl hu hru (by rw [List.length_map]) (by rw [List.length_map]; exact hl9) (by rw [h.lh]; exact hn9))
  obtain ⟨n, hn⟩ : ∃ n, n = uh.length := ⟨_, rfl⟩
  rw [← hn] at e0 hg
  clear hn h hi hu hru hil
  go_enter Try.func36, Try.ntmps36
  go_wp2_with fail
  refine hg.out.mono ?_
  rintro _ w5 ⟨v, rfl, h5⟩
  have H5 := hide h5
  clear h5
  go_wp2_with fail
  exact hR.out _ _ ⟨_, rfl, H5.out⟩
theorem oaux_calls (h : OG b0 c w g vo vh uo uh of has) : Calls Try.prog 12 #[.pointer (some ⟨g, 0, none⟩)] w fun e w' => e = .returned (.int .i64 (has.length : Int)) ∧ w = w' := by
  refine cps fun R hR => ?_
  obtain ⟨A, co, rfl, -, -⟩ := h.rh.shape
  obtain ⟨-, e0, -⟩ := h.cells
  rw [h.lh] at e0
  obtain ⟨n, hn⟩ : ∃ n, n = has.length := ⟨_, rfl⟩
  rw [← hn] at e0 hR
  clear hn h
  go_enter Try.func12, Try.ntmps12
  go_wp2_with fail
  exact hR.out _ _ ⟨rfl, rfl⟩
end
end Go.Proofs.Ytfkofhdgokhodaa
