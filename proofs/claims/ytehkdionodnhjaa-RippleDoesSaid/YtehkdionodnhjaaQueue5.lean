/- A queue that a law has made: its calls, and what they keep. -/
import Derived.Test.YtehkdionodnhjaaQueue4
set_option linter.unusedVariables false
set_option linter.unusedSimpArgs false
namespace Go.Proofs.Ytehkdionodnhjaa
open Go.RowKit Go.Maps

/-- A queue in blocks S, all made behind w0. -/
structure QL (w0 w : World) (S : Nat → Prop) (g : Nat) (E : List Int) (p : Nat) : Prop where
  qs : QS w S g E p
  ge : ∀ k, S k → w0.heap.size ≤ k
  bel : Below w0.heap.size w0 w
section
variable {w0 w w' : World} {S S' : Nat → Prop} {g : Nat} {E E' : List Int} {p p' : Nat}
theorem QL.lt (h : QL w0 w S g E p) : ∀ k, S k → k < w.heap.size := by
  obtain ⟨_, _, _, _, h⟩ := h.qs
  exact h.lt
theorem QL.pe (h : QL w0 w S g E p) : p ≤ E.length := by
  obtain ⟨_, _, _, _, h⟩ := h.qs
  exact h.pe
theorem QL.more (h : QL w0 w S g E p) (s : Step S S' w w') (q : QS w' S' g E' p') : QL w0 w' S' g E' p' :=
  ⟨q, fun k hk => (s.new k hk).elim (h.ge k) fun hk => Nat.le_trans h.bel.size hk, s.ch.below h.bel h.bel.size h.ge⟩
theorem QL.keep (h : QL w0 w S g E p) {T : Nat → Prop} (c : Ch T w w') (hT : ∀ k, T k → w0.heap.size ≤ k) (hd : ∀ k, S k → T k → False) : QL w0 w' S g E p :=
  ⟨h.qs.keep c hd, h.ge, c.below h.bel h.bel.size hT⟩
theorem QL.below (h : QL w0 w S g E p) (hb : Below w.heap.size w w') : QL w0 w' S g E p :=
  ⟨h.qs.keep (Ch.of_below (S := fun _ => False) hb) fun _ _ h => h, h.ge, h.bel.trans (hb.mono h.bel.size)⟩
theorem ql_new (w0 w : World) (hb : Below w0.heap.size w0 w) : QL w0 (w.alloc (.cells #[.slice none 0 0, .int .i64 0, .map none] 27)) (fun k => k = w.heap.size) w.heap.size [] 0 :=
  ⟨⟨.slice none 0 0, [], 0, none, heap_alloc_new w _, Row.nil, by simp, rfl, by simp, by simp, .inl ⟨rfl, rfl⟩, rfl, (fun k hk => by cases hk), (fun b hb => by cases hb), (fun k hk => by subst hk; simp), (fun x hx => by cases hx)⟩,
   fun k hk => by subst hk; exact hb.size, hb.alloc hb.size _⟩
theorem ql_push (A : Option Addr) (c : Nat) (xs : List Int) (T : Nat → Prop) (h : QL w0 w S g E p) (hm : E.length + xs.length ≤ 1000000) (hc : c ≤ maxLen) (hl : xs.length ≤ c) (hx : RdL (Kd.int .i64) T w A xs) (hT : ∀ k, T k → k < w.heap.size ∧ ¬ S k) :
    Calls Try.prog 12 #[.pointer (some ⟨g, 0, none⟩), .slice A xs.length c] w fun e w' =>
      e = .returned (.int .i64 (((pushL E xs).length - E.length : Nat) : Int)) ∧ ∃ S', QL w0 w' S' g (pushL E xs) p ∧ Step S S' w w' :=
  (push_calls A c xs T h.qs hm hc hl hx hT).mono fun e w' ⟨h1, S', h2, h3⟩ => ⟨h1, S', h.more h3 h2, h3⟩
theorem ql_pop (h : QL w0 w S g E p) (hp : p < E.length) (hE : E.length ≤ 1000000) : Calls Try.prog 13 #[.pointer (some ⟨g, 0, none⟩)] w fun e w' => e = .returned (.tuple #[.int .i64 E[p], .bool true]) ∧ ∃ S', QL w0 w' S' g E (p + 1) ∧ Step S S' w w' :=
  (pop_some h.qs hp hE).mono fun e w' ⟨h1, S', h2, h3⟩ => ⟨h1, S', h.more h3 h2, h3⟩
end
theorem ints_lit (w : World) (xs : List Int) (hw : ∀ x ∈ xs, (Lit.int .i64 x).wf = true) : RdL (Kd.int .i64) (fun k => k = w.heap.size) (w.alloc (.cells (xs.map encI).toArray 3)) (some ⟨w.heap.size, 0, none⟩) xs :=
  RdL.block1 rfl (heap_alloc_new w _) rfl fun i x hx => ⟨encI x, by rw [List.getElem?_toArray, List.getElem?_map, hx]; rfl, _, rfl, rfl, hw x (List.mem_of_getElem? hx)⟩
set_option maxHeartbeats 1000000 in
theorem qspeaks (w : World) : Calls Try.prog 10 #[] w fun e w' => e = .returned (.bool true) ∧ Below w.heap.size w w' := by
  refine cps fun R hR => ?_
  obtain ⟨w1, hw1⟩ : ∃ w1, w1 = w.alloc (.cells #[.slice none 0 0, .int .i64 0, .map none] 27) := ⟨_, rfl⟩
  have h1 : QL w w1 (fun k => k = w.heap.size) w.heap.size [] 0 := by rw [hw1]; exact ql_new w w (Below.refl _ _)
  obtain ⟨w2, hw2⟩ : ∃ w2, w2 = w1.alloc (.cells #[.int .i64 3, .int .i64 3, .int .i64 5] 3) := ⟨_, rfl⟩
  have hP : Calls Try.prog 12 #[.pointer (some ⟨w.heap.size, 0, none⟩), .slice (some ⟨w1.heap.size, 0, none⟩) 3 3] w2 fun e w' => e = .returned (.int .i64 2) ∧ ∃ S', QL w w' S' w.heap.size [3, 5] 0 ∧ Step (fun k => k = w.heap.size) S' w2 w' := by
    rw [hw2]
    refine ql_push (some ⟨w1.heap.size, 0, none⟩) 3 [3, 3, 5] (fun k => k = w1.heap.size) (h1.below (balloc w1 _)) (by decide) (by unfold maxLen; omega) (by decide) (ints_lit w1 [3, 3, 5] (by decide)) fun k hk => ?_
    subst hk
    exact ⟨by simp, fun e => by have := h1.lt _ rfl; omega⟩
  have HW1 := hide hw1
  have HW2 := hide hw2
  have HP := hide hP
  have hs1 : w1.heap.size = w.heap.size + 1 := by rw [hw1]; simp
  have HS1 := hide hs1
  clear hw1 hw2 hP h1 hs1
  go_enter Try.func10, Try.ntmps10
  go_upto_region 2 with fail
  rw [← HW1.out]
  clear HW1
  go_wp2_with fail
  rw [← HW2.out]
  refine HP.out.mono ?_
  clear HW2 HP
  rintro _ w3 ⟨rfl, S3, h3, -⟩
  go_wp2_with fail
  have hp3 : Calls Try.prog 13 #[.pointer (some ⟨w.heap.size, 0, none⟩)] w3 fun e w' => e = .returned (.tuple #[.int .i64 3, .bool true]) ∧ ∃ S', QL w w' S' w.heap.size [3, 5] 1 ∧ Step S3 S' w3 w' := ql_pop h3 (by decide) (by decide)
  refine hp3.mono ?_
  clear hp3 h3
  rintro _ w4 ⟨rfl, S4, h4, -⟩
  obtain ⟨w5, hw5⟩ : ∃ w5, w5 = w4.alloc (.cells #[.int .i64 3] 3) := ⟨_, rfl⟩
  have hP5 : Calls Try.prog 12 #[.pointer (some ⟨w.heap.size, 0, none⟩), .slice (some ⟨w4.heap.size, 0, none⟩) 1 1] w5 fun e w' => e = .returned (.int .i64 0) ∧ ∃ S', QL w w' S' w.heap.size [3, 5] 1 ∧ Step S4 S' w5 w' := by
    rw [hw5]
    refine ql_push (some ⟨w4.heap.size, 0, none⟩) 1 [3] (fun k => k = w4.heap.size) (h4.below (balloc w4 _)) (by decide) (by unfold maxLen; omega) (by decide) (ints_lit w4 [3] (by decide)) fun k hk => ?_
    subst hk
    exact ⟨by simp, fun e => by have := h4.lt _ e; omega⟩
  have HW5 := hide hw5
  have HP5 := hide hP5
  clear hw5 hP5 h4
  go_wp2_with fail
  rw [← HW5.out]
  refine HP5.out.mono ?_
  clear HW5 HP5
  rintro _ w6 ⟨rfl, S6, h6, -⟩
  go_wp2_with fail
  have hL : Calls Try.prog 14 #[.pointer (some ⟨w.heap.size, 0, none⟩)] w6 fun e w' => e = .returned (.int .i64 1) ∧ Below w6.heap.size w6 w' := len_calls h6.qs (by decide)
  refine hL.mono ?_
  rintro _ w7 ⟨rfl, hb7⟩
  have h7 := h6.below hb7
  clear hL hb7
  go_wp2_with fail
  have hE : Calls Try.prog 15 #[.pointer (some ⟨w.heap.size, 0, none⟩), .int .i64 5] w7 fun e w' => e = .returned (.bool true) ∧ Below w7.heap.size w7 w' := ever_calls 5 (by decide) h7.qs
  refine hE.mono ?_
  rintro _ w8 ⟨rfl, hb8⟩
  have h8 := h7.below hb8
  clear hE hb8
  go_wp2_with fail
  have hE : Calls Try.prog 15 #[.pointer (some ⟨w.heap.size, 0, none⟩), .int .i64 4] w8 fun e w' => e = .returned (.bool false) ∧ Below w8.heap.size w8 w' := ever_calls 4 (by decide) h8.qs
  refine hE.mono ?_
  rintro _ w9 ⟨rfl, hb9⟩
  have h9 := h8.below hb9
  have hb := h9.bel
  clear hE hb9 h6 h7 h8 h9
  go_wp2_with fail
  exact hR.out _ _ ⟨rfl, hb⟩
end Go.Proofs.Ytehkdionodnhjaa
