/- An arena made, and a block's bytes, walked. -/
import Derived.Test.YthcbjhmckbfkmaaArena0
set_option linter.unusedVariables false
set_option linter.unusedSimpArgs false
namespace Go.Proofs.Ythcbjhmckbfkmaa
open Go.RowKit

theorem run_max0i (P : Program) (w : World) (ts : Array TypeId) (t : TypeId) (a : Int) : (Builtin.max_ ts t #[.int .i64 a, .int .i64 0]).run P w = .ok (.int .i64 (a.toNat : Int)) w := by
  simp [Builtin.max_, Builtin.max2]
  omega
theorem anew_calls (size most : Int) (w : World) : Calls Try.prog 22 #[.int .i64 size, .int .i64 most] w fun e w' =>
    e = .returned (.pointer (some ⟨w.heap.size, 0, none⟩)) ∧ Ar w' w.heap.size size.toNat most.toNat [] [] [] 0 0 (.slice none 0 0) (.slice none 0 0) (.slice none 0 0) [] ∧ Below w.heap.size w w' ∧ w'.heap.size = w.heap.size + 1 := by
  refine cps fun R hR => ?_
  have h1 := fun ts t => run_max0i Try.prog w ts t size
  have h2 := fun ts t => run_max0i Try.prog w ts t most
  go_enter Try.func22, Try.ntmps22
  go_wp2_with fail
  refine hR.out _ _ ⟨rfl, ⟨by rw [show ((size.toNat : Nat) : Int) = max size 0 by omega, show ((most.toNat : Nat) : Int) = max most 0 by omega]; exact heap_alloc_new w _, Row.nil, Row.nil, Row.nil, rfl, rfl, fun i q b h => by simp at h, by simp, fun k hk => by simp [Value.ownBlock] at hk, fun k hk => by simp [Value.ownBlock] at hk, fun k hk => by simp [Value.ownBlock] at hk, fun k hk => by simp [Value.ownBlock] at hk, fun k hk => by simp [Value.ownBlock] at hk, fun k hk => by simp [Value.ownBlock] at hk⟩, balloc w _, by simp⟩
section
variable {w : World} {g n room : Nat} {bl : List (List UInt8)} {us : List Bool} {fr : List Nat} {live peak : Nat} {vb vu vf : Value} {qs : List Nat}
/-- Where a block's bytes are. -/
theorem Ar.block (h : Ar w g n room bl us fr live peak vb vu vf qs) {i : Nat} (hi : i < bl.length) : ∃ q qb c, vb = .slice (some ⟨qb, 0, none⟩) bl.length c ∧ bl.length ≤ c ∧ w.cell? ⟨qb, i, none⟩ = some (.slice (some ⟨q, 0, none⟩) n n) ∧ qs[i]? = some q ∧ bl[i].length = n ∧ w.heap[q]? = some (.cells (bl[i].map encB).toArray 5 (0, 0)) := by
  have hq : i < qs.length := by rw [h.ql]; exact hi
  obtain ⟨qb, c, e, hc, -⟩ := h.rb.set (i := i) (by simpa using hq) (.bool true)
  obtain ⟨A, c2, e2, hc2, -⟩ := h.rb.shape
  obtain ⟨h1, h2⟩ := h.bk i qs[i] bl[i] (List.getElem?_eq_getElem hq) (List.getElem?_eq_getElem hi)
  rw [List.getElem_map] at hc
  rw [List.length_map, h.ql] at e e2 hc2
  have : c = c2 := by rw [e] at e2; injection e2
  exact ⟨qs[i], qb, c, e, by omega, hc, List.getElem?_eq_getElem hq, h1, h2⟩
theorem get_no (i : Int) (h : Ar w g n room bl us fr live peak vb vu vf qs) (hi : hasB us i = false) : Calls Try.prog 24 #[.pointer (some ⟨g, 0, none⟩), .int .i64 i] w fun e w' => e = .returned (.slice none 0 0) ∧ w = w' := by
  refine cps fun R hR => ?_
  have Hh := hide (has_calls i h)
  rw [hi] at Hh
  clear h
  go_enter Try.func24, Try.ntmps24
  go_wp2_with fail
  refine Hh.out.mono ?_
  rintro e w1 ⟨rfl, rfl⟩
  go_wp2_with fail
  exact hR.out _ _ ⟨rfl, rfl⟩
theorem get_yes (i : Nat) (h : Ar w g n room bl us fr live peak vb vu vf qs) (hl : i < bl.length) (hn : n ≤ 1000000) (hi : hasB us i = true) : Calls Try.prog 24 #[.pointer (some ⟨g, 0, none⟩), .int .i64 (i : Int)] w fun e w' =>
    ∃ v, e = .returned v ∧ NewV 5 (w.alloc (.cells #[] 5)) w' v (bl[i].map encB) := by
  refine cps fun R hR => ?_
  have Hh := hide (has_calls (i : Int) h)
  rw [hi] at Hh
  obtain ⟨q, qb, c, rfl, hcb, hcell, hq, hbl, hbh⟩ := h.block hl
  obtain ⟨-, -, c2, -, -, -, -⟩ := cells7 h.head
  have hql : q < w.heap.size := (Array.getElem?_eq_some_iff.1 hbh).1
  have hg1 := balloc w (.cells #[] 5)
  have hlt : qb < w.heap.size := h.rb.lt rfl
  have hgl := (Array.getElem?_eq_some_iff.1 h.head).1
  have Hsrc := hide (show Src (w.alloc (.cells #[] 5)) (some ⟨q, 0, none⟩) (bl[i].map encB) from fun hp => ⟨_, rfl, fun j u hu => by
    have : (⟨q, 0, none⟩ : Addr).add j = ⟨q, j, none⟩ := by unfold Addr.add; split <;> simp_all
    rw [this, cell_of_row _ q _ _ _ (0, 0) ((hg1.block q hql).trans hbh), List.getElem?_toArray]; exact hu⟩)
  have hml := hide (show (bl[i].map encB).length = n by rw [List.length_map, hbl])
  replace hcell := (hg1.cell (p := ⟨qb, i, none⟩) hlt).trans hcell
  replace c2 := (hg1.cell (p := ⟨g, 2, none⟩) hgl).trans c2
  have ho := hide (encB_one bl[i])
  generalize bl[i].map encB = bs at *
  clear h hbh hg1 hq hbl
  generalize bl.length = m at *
  go_enter Try.func24, Try.ntmps24
  go_wp2_with fail
  refine Hh.out.mono ?_
  rintro e w1 ⟨rfl, rfl⟩
  go_wp2_with (at_builtin; with_reducible refine wp_app_lit 17 rfl rfl (.tmp 9) (.tmp 16) 22 rfl Try.underlying22 infoB ?_ (news := bs) (g := w.heap.size) ?_ (A := some ⟨q, 0, none⟩) (c := n) ?_ ?_ ho.out ?_ ?_ ?_)
  case refine_1 => rfl
  case refine_2 => rfl
  case refine_3 => rw [hml.out]; rfl
  case refine_4 => exact Hsrc.out
  case refine_5 => rw [hml.out]; omega
  case refine_6 => rw [hml.out]; unfold maxLen; omega
  case refine_7 =>
  intro v2 w2 hn2
  go_wp2_with fail
  exact hR.out _ _ ⟨_, rfl, hn2⟩
theorem azero_no (i : Int) (h : Ar w g n room bl us fr live peak vb vu vf qs) (hi : hasB us i = false) : Calls Try.prog 36 #[.pointer (some ⟨g, 0, none⟩), .int .i64 i] w fun e w' => e = .returned (.bool false) ∧ w = w' := by
  refine cps fun R hR => ?_
  have Hh := hide (has_calls i h)
  rw [hi] at Hh
  clear h
  go_enter Try.func36, Try.ntmps36
  go_wp2_with fail
  refine Hh.out.mono ?_
  rintro e w1 ⟨rfl, rfl⟩
  go_wp2_with fail
  exact hR.out _ _ ⟨rfl, rfl⟩
theorem azero_yes (i : Nat) (h : Ar w g n room bl us fr live peak vb vu vf qs) (hl : i < bl.length) (hn : n ≤ 1000000) (hi : hasB us i = true) : Calls Try.prog 36 #[.pointer (some ⟨g, 0, none⟩), .int .i64 (i : Int)] w fun e w' =>
    e = .returned (.bool (zeroB bl[i])) ∧ w = w' := by
  refine cps fun R hR => ?_
  have Hh := hide (has_calls (i : Int) h)
  rw [hi] at Hh
  obtain ⟨q, qb, c, rfl, hcb, hcell, hq, hbl, hbh⟩ := h.block hl
  obtain ⟨-, -, c2, -, -, -, -⟩ := cells7 h.head
  have hz := zero_calls (some ⟨q, 0, none⟩) bl[i] n (· = q) w (by unfold maxLen; omega) (by omega) (RdL.block1 rfl hbh rfl fun j x hx => ⟨encB x, by rw [List.getElem?_toArray, List.getElem?_map, hx]; rfl, _, rfl, rfl⟩)
  rw [hbl] at hz
  have Hz := hide hz
  generalize zeroB bl[i] = z at *
  clear h hbh hq hbl hz
  generalize bl.length = m at *
  go_enter Try.func36, Try.ntmps36
  go_wp2_with fail
  refine Hh.out.mono ?_
  rintro e w1 ⟨rfl, rfl⟩
  go_wp2_with fail
  refine Hz.out.mono ?_
  rintro e w1 ⟨rfl, rfl⟩
  go_wp2_with fail
  exact hR.out _ _ ⟨rfl, rfl⟩
end
end Go.Proofs.Ythcbjhmckbfkmaa
