/- An arena that a law has made: its calls, and what they keep. -/
import Derived.Test.YthcbjhmckbfkmaaArena6
set_option linter.unusedVariables false
set_option linter.unusedSimpArgs false
namespace Go.Proofs.Ythcbjhmckbfkmaa
open Go.RowKit

/-- An arena in blocks S, all made behind w0. -/
structure AL (w0 w : World) (S : Nat → Prop) (g n room : Nat) (bl : List (List UInt8)) (us : List Bool) (fr : List Nat) (live peak : Nat) : Prop where
  ar : AS S w g n room bl us fr live peak
  ge : ∀ k, S k → w0.heap.size ≤ k
  bel : Below w0.heap.size w0 w
/-- Only blocks of S change; S' is S, and new ones. -/
structure Step (S S' : Nat → Prop) (w w' : World) : Prop where
  ch : Ch S w w'
  new : ∀ k, S' k → S k ∨ w.heap.size ≤ k
  sub : ∀ k, S k → S' k
section
variable {w0 w w' : World} {S S' : Nat → Prop} {g n room : Nat} {bl bl' : List (List UInt8)} {us us' : List Bool} {fr fr' : List Nat} {live peak live' peak' : Nat}
theorem AL.more (h : AL w0 w S g n room bl us fr live peak) (c : Ch S w w') (a : AS (Go.Proofs.Ythcbjhmckbfkmaa.more S w w') w' g n room bl' us' fr' live' peak') : ∃ S', AL w0 w' S' g n room bl' us' fr' live' peak' ∧ Step S S' w w' :=
  ⟨_, ⟨a, fun k hk => hk.elim (h.ge k) (fun hk => Nat.le_trans h.bel.size hk.1), c.below h.bel h.bel.size h.ge⟩, c, fun k hk => hk.elim .inl (fun hk => .inr hk.1), fun k hk => .inl hk⟩
theorem AL.same (h : AL w0 w S g n room bl us fr live peak) (c : Ch S w w') (a : AS S w' g n room bl' us' fr' live' peak') : AL w0 w' S g n room bl' us' fr' live' peak' ∧ Step S S w w' :=
  ⟨⟨a, h.ge, c.below h.bel h.bel.size h.ge⟩, c, fun k hk => .inl hk, fun k hk => hk⟩
theorem AL.keep (h : AL w0 w S g n room bl us fr live peak) {T : Nat → Prop} (c : Ch T w w') (hT : ∀ k, T k → w0.heap.size ≤ k) (hd : ∀ k, S k → T k → False) : AL w0 w' S g n room bl us fr live peak :=
  ⟨h.ar.keep c hd, h.ge, c.below h.bel h.bel.size hT⟩
theorem AL.below (h : AL w0 w S g n room bl us fr live peak) (hb : Below w.heap.size w w') : AL w0 w' S g n room bl us fr live peak :=
  ⟨h.ar.below hb, h.ge, h.bel.trans (hb.mono h.bel.size)⟩
theorem Step.trans {S1 : Nat → Prop} {w1 : World} (h : Step S S1 w w1) (h' : Step S1 S' w1 w') : Step S S' w w' :=
  ⟨h.ch.trans h'.ch h.new, fun k hk => by
    rcases h'.new k hk with h1 | h1
    · exact h.new k h1
    · exact .inr (Nat.le_trans h.ch.size h1), fun k hk => h'.sub k (h.sub k hk)⟩
theorem Step.refl (S : Nat → Prop) (w : World) : Step S S w w := ⟨Ch.refl w, fun k hk => .inl hk, fun k hk => hk⟩
theorem Step.below (h : Step S S' w w') {w2 : World} (hb : Below w'.heap.size w' w2) : Step S S' w w2 := ⟨h.ch.trans (Ch.of_below (S := fun _ => False) hb) (fun _ h => h.elim), h.new, h.sub⟩
theorem al_new (size most : Int) (w : World) : Calls Try.prog 22 #[.int .i64 size, .int .i64 most] w fun e w' =>
    e = .returned (.pointer (some ⟨w.heap.size, 0, none⟩)) ∧ ∃ S, AL w w' S w.heap.size size.toNat most.toNat [] [] [] 0 0 :=
  (as_new size most w).mono fun e w' ⟨h1, h2, h3⟩ => ⟨h1, _, h2, fun k hk => by omega, h3⟩
theorem al_old (h : AL w0 w S g n room bl us fr live peak) {i : Nat} {fr' : List Nat} (hf : fr = fr' ++ [i]) (hl : i < bl.length) (hfl : fr'.length ≤ 1000000) (hlv : live ≤ 1000000) (hpk : peak ≤ 1000000) :
    Calls Try.prog 23 #[.pointer (some ⟨g, 0, none⟩)] w fun e w' => e = .returned (.tuple #[.int .i64 (i : Int), .bool true]) ∧
      ∃ S', AL w0 w' S' g n room (bl.set i (zs n)) (us.set i true) fr' (live + 1) (max peak (live + 1)) ∧ Step S S' w w' :=
  (as_old h.ar hf hl hfl hlv hpk).mono fun e w' ⟨h1, h2, h3⟩ => ⟨h1, h.more h3 h2⟩
theorem al_fresh (h : AL w0 w S g n room bl us fr live peak) (hf : fr = []) (hr : bl.length < room) (hn : n ≤ 1000000) (hm : bl.length ≤ 1000000) (hlv : live ≤ 1000000) (hpk : peak ≤ 1000000) :
    Calls Try.prog 23 #[.pointer (some ⟨g, 0, none⟩)] w fun e w' => e = .returned (.tuple #[.int .i64 (bl.length : Int), .bool true]) ∧
      ∃ S', AL w0 w' S' g n room (bl ++ [zs n]) (us ++ [true]) [] (live + 1) (max peak (live + 1)) ∧ Step S S' w w' :=
  (as_fresh h.ar hf hr hn hm hlv hpk).mono fun e w' ⟨h1, h2, h3⟩ => ⟨h1, h.more h3 h2⟩
theorem al_free (i : Nat) (h : AL w0 w S g n room bl us fr (live + 1) peak) (hi : hasB us (i : Int) = true) (hfl : fr.length ≤ 1000000) (hlv : live < 1000000) : Calls Try.prog 26 #[.pointer (some ⟨g, 0, none⟩), .int .i64 (i : Int)] w fun e w' =>
    e = .returned (.bool true) ∧ ∃ S', AL w0 w' S' g n room bl (us.set i false) (fr ++ [i]) live peak ∧ Step S S' w w' :=
  (as_free i h.ar hi hfl hlv).mono fun e w' ⟨h1, h2, h3⟩ => ⟨h1, h.more h3 h2⟩
theorem al_put (i : Nat) (B : Option Addr) (bss : List (List UInt8)) (d : Nat) (T : Nat → Prop) (h : AL w0 w S g n room bl us fr live peak) (hi : hasB us (i : Int) = true) (hn : n ≤ 1000000) (hd : d ≤ maxLen) (hdl : bss.length ≤ d) (hb : RdL (Kd.sl Kd.byte) T w B bss) (hT : ∀ k, T k → k < w.heap.size ∧ ¬ S k) (hf : ∀ b ∈ bss, b.length = n) :
    Calls Try.prog 28 #[.pointer (some ⟨g, 0, none⟩), .int .i64 (i : Int), .slice B bss.length d] w fun e w' => e = .returned (.bool true) ∧ AL w0 w' S g n room (bl.set i (sumL (got bl us i) bss)) us fr live peak ∧ Step S S w w' :=
  (as_put i B bss d T h.ar hi hn hd hdl hb hT hf).mono fun e w' ⟨h1, h2, h3⟩ => ⟨h1, h.same h3 h2⟩
/-- Onto: is it done? -/
def ontoB (us : List Bool) (i k : Int) : Bool := decide (i ≠ k) && (hasB us k && hasB us i)
def ontoL (bl : List (List UInt8)) (us : List Bool) (i k : Int) : List (List UInt8) := if ontoB us i k then bl.set i.toNat (xorL (got bl us i) (got bl us k)) else bl
theorem got_len (h : AL w0 w S g n room bl us fr live peak) {i : Int} (hi : hasB us i = true) : (got bl us i).length = n := by
  obtain ⟨k, rfl, hk, hu⟩ := hasB_nat hi
  have hkb : k < bl.length := by have := h.ar.ul; omega
  rw [show got bl us (k : Int) = bl[k] by simp [got, hi, hkb]]
  exact h.ar.len _ (List.getElem_mem hkb)
theorem al_onto (i k : Int) (h : AL w0 w S g n room bl us fr live peak) (hn : n ≤ 1000000) : Calls Try.prog 33 #[.pointer (some ⟨g, 0, none⟩), .int .i64 i, .int .i64 k] w fun e w' =>
    e = .returned (.bool (ontoB us i k)) ∧ AL w0 w' S g n room (ontoL bl us i k) us fr live peak ∧ Step S S w w' := by
  by_cases h1 : i = k ∨ hasB us k = false
  · have hb : ontoB us i k = false := by
      rcases h1 with h1 | h1 <;> simp [ontoB, h1]
    refine (as_onto_no i k h.ar h1).mono ?_
    rintro e w' ⟨rfl, rfl⟩
    rw [ontoL, hb]
    exact ⟨rfl, h, Step.refl S w⟩
  · have h2 : i ≠ k := fun e => h1 (.inl e)
    have h3 : hasB us k = true := by
      cases hk : hasB us k
      · exact absurd (.inr hk) h1
      · rfl
    have hb : ontoB us i k = hasB us i := by simp [ontoB, h2, h3]
    obtain ⟨k, rfl, hku, hu⟩ := hasB_nat h3
    refine as_onto_has i k h.ar hn h2 h3 fun w1 hb1 hs1 ⟨vb, vu, vf, qs, q, hA, hS, hq, hr⟩ => ?_
    rw [ontoL, hb]
    cases hi : hasB us i
    · refine (aput_not i _ hA hi).mono ?_
      rintro e w' ⟨rfl, rfl⟩
      exact ⟨false, rfl, rfl, h.below hb1, (Step.refl S w).below hb1⟩
    · obtain ⟨i, rfl, hiu, hui⟩ := hasB_nat hi
      have hib : i < bl.length := by have := hA.ul; omega
      rw [show got bl us (i : Int) = bl[i] by simp [got, hi, hib], if_pos rfl]
      have hbb := hb1.size
      refine (aput_yes i (some ⟨w.heap.size, 0, none⟩) [got bl us (k : Int)] 1 (fun x => x = q ∨ x = w.heap.size) hA hib hi hn (by unfold maxLen; omega) (by simp) hr (fun x hx => ?_) (fun b hb => ?_)).mono ?_
      · rcases hx with rfl | rfl
        · refine ⟨hA.qlt (List.mem_of_getElem? hq), fun e => ?_⟩
          obtain ⟨l1, e1⟩ := List.getElem?_eq_some_iff.1 hq
          obtain ⟨l2, e2⟩ := List.getElem?_eq_some_iff.1 e
          have hp := List.pairwise_iff_getElem.1 (List.nodup_cons.1 hA.nd).2
          have hne : i ≠ k := fun e => h2 (by rw [e])
          rcases Nat.lt_or_gt_of_ne hne with h | h
          · exact hp i k l2 l1 h (by rw [e1, e2])
          · exact hp k i l1 l2 h (by rw [e1, e2])
        · refine ⟨by omega, fun e => ?_⟩
          have := h.ar.lt _ (hS _ (.inl (List.mem_cons_of_mem _ (List.mem_of_getElem? e))))
          omega
      · simp at hb; subst hb; exact got_len h h3
      · rintro e w' ⟨rfl, h4, h5⟩
        have hc : Ch S w1 w' := h5.mono fun b _ hb => hS b (.inl (List.mem_cons_of_mem _ (List.mem_of_getElem? hb)))
        have ha : AS S w' g n room (bl.set i (sumL bl[i] [got bl us (k : Int)])) us fr live peak := ⟨⟨_, _, _, _, h4, hS⟩, fun x hx => by have := h.ar.lt x hx; have := h5.size; omega⟩
        obtain ⟨h6, h7⟩ := (h.below hb1).same hc ha
        exact ⟨true, rfl, rfl, h6, ((Step.refl S w).below hb1).trans h7⟩
end
end Go.Proofs.Ythcbjhmckbfkmaa
