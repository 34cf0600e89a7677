/- While blocks are peeled off: the queue and the map of how many are left. -/
import Derived.Test.YtdppjhfndolbjaaPeel1
import Derived.Test.YtdppjhfndolbjaaPQ5
import Derived.Maps.Own
import Derived.Maps.OwnOps
import Derived.Maps.OwnSet
import Derived.Maps.Views
set_option linter.unusedVariables false
set_option linter.unusedSimpArgs false
namespace Go.Proofs.Ytdppjhfndolbjaa
open Go.RowKit Go.Maps

theorem zero3 (w : World) : (zeroValue 3).run Try.prog w = .ok (.int .i64 0) w := by kernel_rfl
/-- Block B is a map of numbers, of at most n entries; f tells what stands at each. -/
def MapL (w : World) (B n : Nat) (f : Nat → Int) : Prop :=
  ∃ D : DataW Unit, w.ownsMap Try.prog 3 (plainElem Try.prog 3) B n D ∧ Tidy D ∧ ∀ d : Nat, D.atKey (.int .i64 (d : Int)) (.lit (.int .i64 0)) = .lit (.int .i64 (f d))
theorem MapL.put {w' : World} {B n k : Nat} {f : Nat → Int} {v : Int} {D : DataW Unit} (hT : Tidy D) (ha : ∀ d : Nat, D.atKey (.int .i64 (d : Int)) (.lit (.int .i64 0)) = .lit (.int .i64 (f d)))
    (h : w'.ownsMap Try.prog 3 (plainElem Try.prog 3) B n (D.put (.int .i64 (k : Int)) (.lit (.int .i64 v)))) : MapL w' B n (fun d => if d = k then v else f d) := by
  refine ⟨_, h, hT.put (show WideAt.IsKeyLit (.int .i64 (k : Int)) from trivial) _, fun d => ?_⟩
  by_cases e : d = k
  · subst e
    rw [atKey_put_same hT.isMap (show WideAt.IsKeyLit (.int .i64 (d : Int)) from trivial)]
    simp
  · rw [atKey_put_other (fun h => e (by injection h with h1 h2; omega)), ha d]
    simp [e]
theorem MapL.keep {w w' : World} {B n : Nat} {f : Nat → Int} (h : MapL w B n f) (hk : w'.heap[B]? = w.heap[B]?) : MapL w' B n f := by
  obtain ⟨D, ⟨es, clock, h1, h2⟩, h3⟩ := h
  exact ⟨D, ⟨es, clock, hk.trans h1, h2⟩, h3⟩
theorem MapL.lt {w : World} {B n : Nat} {f : Nat → Int} (h : MapL w B n f) : B < w.heap.size := by
  obtain ⟨D, ⟨es, clock, h1, h2⟩, h3⟩ := h
  exact (Array.getElem?_eq_some_iff.1 h1).1
theorem MapL.made (w : World) : MapL (w.alloc (.map #[] 0)) w.heap.size 0 (fun _ => 0) :=
  ⟨_, World.ownsMap_made _ _ _ _, ⟨[], rfl, List.Pairwise.nil⟩, fun x => rfl⟩
/-- The queue and the map, all made behind w0. -/
structure PW (w0 w : World) (mb g : Nat) (S : Nat → Prop) (E : List Int) (p N : Nat) (lv : Nat → Int) : Prop where
  q : QL w0 w S g E p
  mp : MapL w mb N lv
  mb0 : w0.heap.size ≤ mb
  ms : ¬ S mb
section
variable {w0 w w' : World} {mb g : Nat} {S S' : Nat → Prop} {E E' : List Int} {p p' N : Nat} {lv : Nat → Int}
theorem PW.below (h : PW w0 w mb g S E p N lv) (hb : Below w.heap.size w w') : PW w0 w' mb g S E p N lv := ⟨h.q.below hb, h.mp.keep (hb.block mb h.mp.lt), h.mb0, h.ms⟩
theorem PW.more (h : PW w0 w mb g S E p N lv) (q : QL w0 w' S' g E' p') (s : Step S S' w w') : PW w0 w' mb g S' E' p' N lv :=
  ⟨q, h.mp.keep (s.ch.block mb h.mp.lt h.ms), h.mb0, fun hk => (s.new mb hk).elim h.ms fun h' => by have := h.mp.lt; omega⟩
theorem PW.set {lv' : Nat → Int} {N' : Nat} (h : PW w0 w mb g S E p N lv) (hm : MapL w' mb N' lv') (hg : w.grownBy w' (some mb)) : PW w0 w' mb g S E p N' lv' :=
  ⟨h.q.keep (Ch.of_grown hg) (fun k hk => by injection hk with hk; rw [← hk]; exact h.mb0) (fun k hs hk => by injection hk with hk; exact h.ms (hk ▸ hs)), hm, h.mb0, h.ms⟩
theorem PW.bel (h : PW w0 w mb g S E p N lv) : Below w0.heap.size w0 w := h.q.bel
end
theorem pw_pop {w0 w : World} {mb g : Nat} {S : Nat → Prop} {E : List Int} {p N : Nat} {lv : Nat → Int} (h : PW w0 w mb g S E p N lv) (hE : E.length ≤ 1000000) :
    Calls Try.prog 18 #[.pointer (some ⟨g, 0, none⟩)] w fun e w' => ∃ (b : Int) (ok : Bool) (S' : Nat → Prop), e = .returned (.tuple #[.int .i64 b, .bool ok]) ∧ ((ok = true ∧ (∃ hp : p < E.length, b = E[p]) ∧ PW w0 w' mb g S' E (p + 1) N lv) ∨ (ok = false ∧ p = E.length ∧ PW w0 w' mb g S' E p N lv)) := by
  by_cases hp : p < E.length
  · refine (ql_pop h.q hp hE).mono ?_
    rintro e w' ⟨rfl, S', hq, hs⟩
    exact ⟨_, true, S', rfl, .inl ⟨rfl, ⟨hp, rfl⟩, h.more hq hs⟩⟩
  · have hpe := h.q.pe
    refine (pop_none h.q.qs (by omega)).mono ?_
    rintro e w' ⟨rfl, hb⟩
    exact ⟨0, false, S, rfl, .inr ⟨rfl, by omega, h.below hb⟩⟩
theorem pushLE (E xs : List Int) : pushL E xs = pushE E xs := rfl
section
variable {m : Nat} {l : List (List Int)} {vs : Vals} {E : List Int} {lv : Nat → Int}
/-- One equation more, none of its blocks looked at. -/
theorem PI.add (h : PI m l vs E (fun _ => []) lv) {o : List Int} (hs : fitsI m o = true → (leftV vs o).length ≠ 1) :
    PI m (l ++ [o]) vs (if fitsI m o = true ∧ o.length = 1 then pushE E o else E) (fun _ => []) (fun k => if k = l.length then (if fitsI m o = true then (o.length : Int) else -1) else lv k) := by
  have hsubE : ∀ x ∈ E, x ∈ (if fitsI m o = true ∧ o.length = 1 then pushE E o else E) := fun x hx => by
    split
    · exact pushE_mem.2 (.inl hx)
    · exact hx
  refine ⟨?_, fun x hx => ?_, fun k x hx => (by cases hx), fun k hk => ?_, fun k hk hf hl x hx => ?_⟩
  · split
    · exact pushE_nodup h.nd
    · exact h.nd
  · split at hx
    · rename_i h1
      rcases pushE_mem.1 hx with hx | hx
      · exact h.kn x hx
      · have hne := hs h1.1
        have hle : (leftV vs o).length ≤ o.length := List.length_filter_le _ _
        have h0 : leftV vs o = [] := List.length_eq_zero_iff.1 (by omega)
        cases hkx : knB vs x with
        | true => rfl
        | false =>
          have : x ∈ leftV vs o := List.mem_filter.2 ⟨hx, by simp [hkx]⟩
          rw [h0] at this; cases this
    · exact h.kn x hx
  · by_cases e : k = l.length
    · subst e
      rw [if_pos rfl]
      simp only [List.getElem_concat_length, restP_nil]
    · have hkl : k < l.length := by rw [List.length_append, List.length_singleton] at hk; omega
      rw [if_neg e, List.getElem_append_left hkl]
      exact h.left k hkl
  · by_cases e : k = l.length
    · subst e
      simp only [List.getElem_concat_length, restP_nil] at hf hl hx
      by_cases h1 : o.length = 1
      · rw [if_pos ⟨hf, h1⟩]; exact pushE_mem.2 (.inr hx)
      · have : o = [] := List.length_eq_zero_iff.1 (by omega)
        rw [this] at hx; cases hx
    · have hkl : k < l.length := by rw [List.length_append, List.length_singleton] at hk; omega
      rw [List.getElem_append_left hkl] at hf hl hx
      exact hsubE x (h.full k hkl hf hl x hx)
theorem PI.lext {P : Nat → List Int} {lv' : Nat → Int} (h : PI m l vs E P lv) (e : ∀ k, lv' k = lv k) : PI m l vs E P lv' := by
  rw [show lv' = lv from funext e]; exact h
theorem PI.peq {P P' : Nat → List Int} (h : PI m l vs E P lv) (e : ∀ k, P' k = P k) : PI m l vs E P' lv := by
  rw [show P' = P from funext e]; exact h
theorem qstep (Q : List Int) (b : Int) (j k : Nat) : (if k < j + 1 then Q ++ [b] else Q) = (if k = j then (if j < j then Q ++ [b] else Q) ++ [b] else if k < j then Q ++ [b] else Q) := by
  by_cases e : k = j
  · subst e; simp
  · by_cases h : k < j
    · rw [if_pos (by omega), if_neg e, if_pos h]
    · rw [if_neg (by omega), if_neg e, if_neg h]
theorem PI.skipQ {Q : List Int} {b : Int} {j : Nat} (h : PI m l vs E (fun k => if k < j then Q ++ [b] else Q) lv) (hj : j < l.length) (hb : b ∈ E) (hs : fitsI m l[j] = false ∨ b ∉ l[j]) : PI m l vs E (fun k => if k < j + 1 then Q ++ [b] else Q) lv :=
  (h.skip hj hb hs).peq fun k => qstep Q b j k
theorem PI.turnQ {Q : List Int} {b : Int} {j : Nat} (h : PI m l vs E (fun k => if k < j then Q ++ [b] else Q) lv) (hp : Peel m l vs) (hj : j < l.length) (hb : b ∈ E) (hbQ : b ∉ Q) (hf : fitsI m l[j] = true) (hm : b ∈ l[j]) :
    ∃ y : Nat, lv j = ((y + 1 : Nat) : Int) ∧ PI m l vs (if y = 1 then pushE E l[j] else E) (fun k => if k < j + 1 then Q ++ [b] else Q) (fun k => if k = j then (y : Int) else lv k) := by
  obtain ⟨h1, h2⟩ := h.turn hp hj hb (by simpa using hbQ) hf hm
  refine ⟨(restP ((if j < j then Q ++ [b] else Q) ++ [b]) l[j]).length, by rw [Int.natCast_succ]; omega, ?_⟩
  have h3 := h2.peq fun k => qstep Q b j k
  rw [h1] at h3
  by_cases e : (restP ((if j < j then Q ++ [b] else Q) ++ [b]) l[j]).length = 1
  · rw [if_pos (by simpa using congrArg (fun n : Nat => (n : Int)) e)] at h3
    rw [if_pos e]
    exact h3
  · rw [if_neg (fun h => e (by exact_mod_cast h))] at h3
    rw [if_neg e]
    exact h3
theorem fits_sorted {m : Int} {of : List Int} (h : fitsI m of = true) : of.Pairwise (· < ·) :=
  List.pairwise_iff_getElem.2 fun i j hi hj hij => fitsI_lt h j i hj hij
theorem PI.none : PI m [] vs [] (fun _ => []) (fun _ => 0) := ⟨List.nodup_nil, fun x hx => (by cases hx), fun k x hx => (by cases hx), fun k hk => absurd hk (by simp), fun k hk => absurd hk (by simp)⟩
end
end Go.Proofs.Ytdppjhfndolbjaa
