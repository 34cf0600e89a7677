/- The outer code's equations. -/
import Derived.Test.YtfkofhdgokhodaaOut3
import Derived.Test.YtfkofhdgokhodaaOut4
set_option linter.unusedVariables false
set_option linter.unusedSimpArgs false
namespace Go.Proofs.Ytfkofhdgokhodaa
open Go.RowKit Go.Maps

theorem src_below {w w' : World} {A : Option Addr} {us : List Value} (h : Src w A us) (hb : Below w.heap.size w w') : Src w' A us := fun hp => by
  obtain ⟨ad, e, hc⟩ := h hp
  exact ⟨ad, e, fun j u hu => (hb.cell (World.block_lt_of_cell? _ _ (hc j u hu))).trans (hc j u hu)⟩
section
variable {b0 g : Nat} {c : Nat → Nat} {w : World} {vo vh u : Value} {uo uh : List Value} {of has : List (List Int)} {l : List Int} {j : Nat}
theorem OG.below {w' : World} (h : OG b0 c w g vo vh uo uh of has) (hb : Below w.heap.size w w') : OG b0 c w' g vo vh uo uh of has := h.keep (fun z h1 _ => hb.block z h1) fun _ _ => rfl
set_option maxHeartbeats 4000000 in
theorem eqn_calls (h : OG b0 c w g vo vh uo uh of has) (hj : has[j]? = some l) (hl9 : l.length ≤ 1000) (hn9 : has.length ≤ 1000000) (ho9 : of.length ≤ 1000000) :
    Calls Try.prog 8 #[.pointer (some ⟨g, 0, none⟩), .int .i64 (j : Int)] w fun e w' => ∃ v, e = .returned v ∧ Row w' 3 v ((l ++ [((of.length + j : Nat) : Int)]).map encI) ∧ (∀ z, v.ownBlock = some z → w.heap.size ≤ z) ∧ Below w.heap.size w w' := by
  refine cps fun R hR => ?_
  have hjl := (List.getElem?_eq_some_iff.1 hj).1
  have hH := hide (show ∀ y, Below w.heap.size w y → Calls Try.prog 36 #[.pointer (some ⟨g, 0, none⟩), .int .i64 (j : Int)] y fun e w' => ∃ A' c', e = .returned (.slice A' l.length c') ∧ Row w' 3 (.slice A' l.length c') (l.map encI) ∧ (∀ z, (Value.slice A' l.length c').ownBlock = some z → w.heap.size ≤ z) ∧ Below y.heap.size y w' ∧ Below w.heap.size w w' from fun y hy =>
    (has_calls (h.below hy) hj hl9 hn9).mono fun e w' ⟨v, h1, h2, h3, h4⟩ => by
      obtain ⟨A', c', rfl, -, -⟩ := h2.shape
      rw [List.length_map] at h1 h2 h3
      exact ⟨A', c', h1, h2, fun z hz => Nat.le_trans hy.size (h3 z hz), h4, hy.trans (h4.mono hy.size)⟩)
  obtain ⟨A, co, rfl, -, -⟩ := h.ro.shape
  obtain ⟨A2, co2, rfl, -, -⟩ := h.rh.shape
  obtain ⟨e0, e1, -⟩ := h.cells
  rw [h.lo] at e0
  rw [h.lh] at e1
  have hgl := hide h.lt
  obtain ⟨n, hn⟩ : ∃ n, n = of.length := ⟨_, rfl⟩
  obtain ⟨a, ha⟩ : ∃ a, a = has.length := ⟨_, rfl⟩
  obtain ⟨lh, hlh⟩ : ∃ lh, lh = l.length := ⟨_, rfl⟩
  rw [← hn] at e0 ho9 hR
  rw [← ha] at e1 hjl hn9
  rw [← hlh] at hH hl9
  have Hlh := hide (show (l.map encI).length = lh by rw [List.length_map, hlh])
  obtain ⟨p, hp⟩ : ∃ p : Nat, p = n + j := ⟨_, rfl⟩
  have hone := hide (show ∀ u ∈ [Value.int .i64 (p : Int)], u.oneCell' = true from fun u hu => by simp at hu; subst hu; rfl)
  have hw : IntKind.i64.wrap ((n : Int) + (j : Int)) = (p : Int) := by rw [IntKind.wrap_i64, hp]; omega
  have hp9 : p ≤ 3000000 := by omega
  have Hp := hide (show ((n + j : Nat) : Int) = (p : Int) by rw [hp])
  clear hp
  have t1 : decide ((j : Int) < 0) = false := by simp
  have t2 : decide ((a : Int) ≤ (j : Int)) = false := by simp; omega
  clear hn ha hlh h hj
  go_enter Try.func8, Try.ntmps8
  go_upto_region 3 with fail
  have K0 := hide e0
  go_region_held_law (fun y => y.cell? ⟨g, 0, none⟩ = some (.slice A n co)) (first | assumption | exact held_cell9 K0 (by repeat (first | assumption | exact hide (Below.refl _ _) | refine held_alloc9 ?_ | refine held_drew9 ?_))) (first
    | ((
        rw [if_pos (by rfl)]
        with_reducible refine op_app 27 rfl (.tmp 18) (.tmp 26) 29 rfl Try.underlying29 infoIq ?_ (v := .slice A' lh c') (us := l.map encI) ?_ ?_ (A := some ⟨w5.heap.size, 0, none⟩) (c := 1) (news := [.int .i64 (p : Int)]) ?_ ?_ hone.out ?_ ?_ ?_
        · rfl
        · rfl
        · exact R5.out.keep fun z hz => (balloc w5 _).block z (R5.out.lt hz)
        · rfl
        · exact Src.lit1 w5 (.int .i64 (p : Int)) 3
        · rw [Hlh.out, List.length_singleton]; omega
        · rw [Hlh.out, List.length_singleton]; unfold maxLen; omega
        intro v6 w6 hr6 g6 o6
        have R6 := hide hr6
        have B6 := hide (show Below w.heap.size w w6 from (Ch.of_grown g6).below (Hid.out (by repeat (first | assumption | exact hide (Below.refl _ _) | refine held_alloc9 ?_ | refine held_drew9 ?_))) (by first | exact B5w.out.size | exact Nat.le_trans B5w.out.size (by simp)) F5.out)
        have O6 := hide (show ∀ z, v6.ownBlock = some z → w.heap.size ≤ z from fun z hz => by
          rcases o6 with e | e
          · rw [e] at hz; exact F5.out z hz
          · rw [e] at hz; injection hz with hz; have := B5w.out.size; first | omega | (simp at hz; omega))
        clear hr6 g6 o6))
    | ((
        rw [if_pos (by rfl)]
        with_reducible refine op_app 27 rfl (.tmp 18) (.tmp 26) 29 rfl Try.underlying29 infoIq ?_ (v := .slice A' lh c') (us := l.map encI) ?_ ?_ (A := some ⟨w.heap.size, 0, none⟩) (c := 1) (news := [.int .i64 (p : Int)]) ?_ ?_ hone.out ?_ ?_ ?_
        · rfl
        · rfl
        · exact R5.out
        · rfl
        · exact src_below (Src.lit1 w (.int .i64 (p : Int)) 3) ⟨B5.out.os, B5.out.tape, B5.out.output, B5.out.size, B5.out.block⟩
        · rw [Hlh.out, List.length_singleton]; omega
        · rw [Hlh.out, List.length_singleton]; unfold maxLen; omega
        intro v6 w6 hr6 g6 o6
        have R6 := hide hr6
        have B6 := hide (show Below w.heap.size w w6 from (Ch.of_grown g6).below (Hid.out (by repeat (first | assumption | exact hide (Below.refl _ _) | refine held_alloc9 ?_ | refine held_drew9 ?_))) (by first | exact B5w.out.size | exact Nat.le_trans B5w.out.size (by simp)) F5.out)
        have O6 := hide (show ∀ z, v6.ownBlock = some z → w.heap.size ≤ z from fun z hz => by
          rcases o6 with e | e
          · rw [e] at hz; exact F5.out z hz
          · rw [e] at hz; injection hz with hz; have := B5w.out.size; first | omega | (simp at hz; omega))
        clear hr6 g6 o6))
    | (go_at_call 36
       refine (hH.out _ (Hid.out (by repeat (first | assumption | exact hide (Below.refl _ _) | refine held_alloc9 ?_ | refine held_drew9 ?_)))).mono ?_
       rintro _ w5 ⟨A', c', rfl, r5, f5, b5, b5w⟩
       have R5 := hide r5
       have F5 := hide f5
       have B5 := hide b5
       have B5w := hide b5w
       clear r5 f5 b5 b5w))
  all_goals
    go_wp2_with fail
    exact hR.out _ _ ⟨_, rfl, by rw [List.map_append, Hp.out]; exact R6.out, O6.out, B6.out⟩
end
end Go.Proofs.Ytfkofhdgokhodaa
