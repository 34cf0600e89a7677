/- A queue that a law has made: its calls, and what they keep. -/
import Derived.Test.YtdppjhfndolbjaaPQ3
set_option linter.unusedVariables false
set_option linter.unusedSimpArgs false
namespace Go.Proofs.Ytdppjhfndolbjaa
open Go.RowKit Go.Maps

/-- A queue in blocks S, all made behind w0. -/
structure QL (w0 w : World) (S : Nat → Prop) (g : Nat) (E : List Int) (p : Nat) : Prop where
  qs : QS w S g E p
  ge : ∀ k, S k → w0.heap.size ≤ k
  bel : Below w0.heap.size w0 w
section
variable {w0 w w' : World} {S S' : Nat → Prop} {g : Nat} {E E' : List Int} {p p' : Nat}
theorem QL.lt (h : QL w0 w S g E p) : ∀ k, S k → k < w.heap.size := by
  obtain ⟨_, _, _, _, h⟩ := h.qs
  exact h.lt
theorem QL.pe (h : QL w0 w S g E p) : p ≤ E.length := by
  obtain ⟨_, _, _, _, h⟩ := h.qs
  exact h.pe
theorem QL.more (h : QL w0 w S g E p) (s : Step S S' w w') (q : QS w' S' g E' p') : QL w0 w' S' g E' p' :=
  ⟨q, fun k hk => (s.new k hk).elim (h.ge k) fun hk => Nat.le_trans h.bel.size hk, s.ch.below h.bel h.bel.size h.ge⟩
theorem QL.keep (h : QL w0 w S g E p) {T : Nat → Prop} (c : Ch T w w') (hT : ∀ k, T k → w0.heap.size ≤ k) (hd : ∀ k, S k → T k → False) : QL w0 w' S g E p :=
  ⟨h.qs.keep c hd, h.ge, c.below h.bel h.bel.size hT⟩
theorem QL.below (h : QL w0 w S g E p) (hb : Below w.heap.size w w') : QL w0 w' S g E p :=
  ⟨h.qs.keep (Ch.of_below (S := fun _ => False) hb) fun _ _ h => h, h.ge, h.bel.trans (hb.mono h.bel.size)⟩
theorem ql_new (w0 w : World) (hb : Below w0.heap.size w0 w) : QL w0 (w.alloc (.cells #[.slice none 0 0, .int .i64 0, .map none] 50)) (fun k => k = w.heap.size) w.heap.size [] 0 :=
  ⟨⟨.slice none 0 0, [], 0, none, heap_alloc_new w _, Row.nil, by simp, rfl, by simp, by simp, .inl ⟨rfl, rfl⟩, rfl, (fun k hk => by cases hk), (fun b hb => by cases hb), (fun k hk => by subst hk; simp), (fun x hx => by cases hx)⟩,
   fun k hk => by subst hk; exact hb.size, hb.alloc hb.size _⟩
theorem ql_push (A : Option Addr) (c : Nat) (xs : List Int) (T : Nat → Prop) (h : QL w0 w S g E p) (hm : E.length + xs.length ≤ 1000000) (hc : c ≤ maxLen) (hl : xs.length ≤ c) (hx : RdL (Kd.int .i64) T w A xs) (hT : ∀ k, T k → k < w.heap.size ∧ ¬ S k) :
    Calls Try.prog 17 #[.pointer (some ⟨g, 0, none⟩), .slice A xs.length c] w fun e w' =>
      e = .returned (.int .i64 (((pushL E xs).length - E.length : Nat) : Int)) ∧ ∃ S', QL w0 w' S' g (pushL E xs) p ∧ Step S S' w w' :=
  (push_calls A c xs T h.qs hm hc hl hx hT).mono fun e w' ⟨h1, S', h2, h3⟩ => ⟨h1, S', h.more h3 h2, h3⟩
theorem ql_pop (h : QL w0 w S g E p) (hp : p < E.length) (hE : E.length ≤ 1000000) : Calls Try.prog 18 #[.pointer (some ⟨g, 0, none⟩)] w fun e w' => e = .returned (.tuple #[.int .i64 E[p], .bool true]) ∧ ∃ S', QL w0 w' S' g E (p + 1) ∧ Step S S' w w' :=
  (pop_some h.qs hp hE).mono fun e w' ⟨h1, S', h2, h3⟩ => ⟨h1, S', h.more h3 h2, h3⟩
end
end Go.Proofs.Ytdppjhfndolbjaa
