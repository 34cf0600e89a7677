/- speaks of the arena's laws, walked. -/
import Derived.Test.YthcbjhmckbfkmaaArena7
set_option linter.unusedVariables false
set_option linter.unusedSimpArgs false
namespace Go.Proofs.Ythcbjhmckbfkmaa
open Go.RowKit

theorem Kd.ow_rd {S : Nat → Prop} {w : World} {xs : List UInt8} {A : Option Addr} {n c : Nat} (h : Kd.ow.R S w xs [.slice A n c]) : n = xs.length ∧ RdL Kd.byte S w A xs := by
  obtain ⟨A', c', e, h1, h2, h3⟩ := Kd.ow_sl h
  simp only [List.cons.injEq, Value.slice.injEq, and_true] at e
  obtain ⟨rfl, rfl, rfl⟩ := e
  exact ⟨rfl, h3⟩
/-- Two bytes put upon a block, out of a literal. -/
theorem put_lit {w0 w : World} {S : Nat → Prop} {g n room : Nat} {bl : List (List UInt8)} {us : List Bool} {fr : List Nat} {live peak : Nat} (h : AL w0 w S g n room bl us fr live peak) (i : Nat) (hi : hasB us (i : Int) = true) (hn : n ≤ 1000000) {A : Option Addr} {xs : List UInt8} {c : Nat} (hc : xs.length ≤ c) (hm : c ≤ maxLen) {T : Nat → Prop}
    (hr : RdL Kd.byte T w A xs) (hT : ∀ k, T k → k < w.heap.size ∧ ¬ S k) (hx : xs.length = n) :
    Calls Try.prog 28 #[.pointer (some ⟨g, 0, none⟩), .int .i64 (i : Int), .slice (some ⟨w.heap.size, 0, none⟩) 1 1] (w.alloc (.cells #[.slice A n c] 22)) fun e w' => e = .returned (.bool true) ∧ AL w0 w' S g n room (bl.set i (xorL (got bl us i) xs)) us fr live peak ∧ Step S S w w' := by
  have hal := balloc w (.cells #[.slice A n c] 22)
  have hr1 : RdL (Kd.sl Kd.byte) (fun k => T k ∨ k = w.heap.size) (w.alloc (.cells #[.slice A n c] 22)) (some ⟨w.heap.size, 0, none⟩) [xs] := RdL.lit1 hc hm hr (fun k hk => (hT k hk).1) (by rw [hx])
  refine (al_put i (some ⟨w.heap.size, 0, none⟩) [xs] 1 _ (h.below hal) hi hn (by unfold maxLen; omega) (by simp) hr1 (fun k hk => ?_) (fun b hb => by simp at hb; rw [hb]; exact hx)).mono fun e w' ⟨h1, h2, h3⟩ => ⟨h1, h2, ((Step.refl S w).below hal).trans h3⟩
  rcases hk with hk | rfl
  · have := hT k hk; simp; exact ⟨by omega, this.2⟩
  · refine ⟨by simp, fun hs => ?_⟩
    have := h.ar.lt _ hs; omega
set_option maxHeartbeats 1000000 in
theorem aspeaks (w : World) : Calls Try.prog 21 #[] w fun e w' => e = .returned (.bool true) ∧ Below w.heap.size w w' := by
  refine cps fun R hR => ?_
  go_enter Try.func21, Try.ntmps21
  go_wp2_with fail
  refine (al_new 2 1 w).mono ?_
  rintro e w1 ⟨rfl, S1, h1⟩
  go_wp2_with fail
  have hA : Calls Try.prog 23 #[.pointer (some ⟨w.heap.size, 0, none⟩)] w1 fun e w' => e = .returned (.tuple #[.int .i64 0, .bool true]) ∧ ∃ S', AL w w' S' w.heap.size 2 1 [[0, 0]] [true] [] 1 1 ∧ Step S1 S' w1 w' :=
    al_fresh h1 rfl (by decide) (by decide) (by decide) (by decide) (by decide)
  refine hA.mono ?_
  clear hA h1
  rintro e w2 ⟨rfl, S2, h2, -⟩
  go_wp2_with fail
  refine (as_full h2.ar rfl (by decide)).mono ?_
  rintro e w3 ⟨rfl, rfl⟩
  go_wp2_with fail
  have hW := hide (Wr.lit w2 5 [1, 2])
  have hb2 := hide (balloc w2 (.cells #[.int .u8 1, .int .u8 2] 5))
  have hP : Calls Try.prog 28 #[.pointer (some ⟨w.heap.size, 0, none⟩), .int .i64 0, .slice (some ⟨(w2.alloc (.cells #[.int .u8 1, .int .u8 2] 5)).heap.size, 0, none⟩) 1 1] ((w2.alloc (.cells #[.int .u8 1, .int .u8 2] 5)).alloc (.cells #[.slice (some ⟨w2.heap.size, 0, none⟩) 2 2] 22)) fun e w' => e = .returned (.bool true) ∧ AL w w' S2 w.heap.size 2 1 [[1, 2]] [true] [] 1 1 ∧ Step S2 S2 (w2.alloc (.cells #[.int .u8 1, .int .u8 2] 5)) w' :=
    put_lit (n := 2) (h2.below hb2.out) 0 rfl (by decide) (xs := [1, 2]) (c := 2) (by decide) (by unfold maxLen; omega) hW.out.rd (fun k hk => ⟨by subst hk; simp, fun hs => by have := h2.ar.lt k hs; omega⟩) rfl
  simp only [World.size_alloc] at hP
  refine hP.mono ?_
  clear hP hW hb2 h2
  rintro e w3 ⟨rfl, h3, -⟩
  go_wp2_with fail
  have hG : Calls Try.prog 24 #[.pointer (some ⟨w.heap.size, 0, none⟩), .int .i64 0] w3 fun e w' => ∃ A c, e = .returned (.slice A 2 c) ∧ Kd.ow.R (fun k => w3.heap.size ≤ k ∧ k < w'.heap.size) w' [1, 2] [.slice A 2 c] ∧ Below w3.heap.size w3 w' := as_get 0 h3.ar (by decide)
  refine hG.mono ?_
  clear hG
  rintro e w4 ⟨A4, c4, rfl, h4, hb4⟩
  have hlt3 := hide h3.ar.lt
  replace h3 := h3.below hb4
  go_wp2_with fail
  have hF : Calls Try.prog 26 #[.pointer (some ⟨w.heap.size, 0, none⟩), .int .i64 0] w4 fun e w' => e = .returned (.bool true) ∧ ∃ S', AL w w' S' w.heap.size 2 1 [[1, 2]] [false] [0] 0 1 ∧ Step S2 S' w4 w' := al_free 0 h3 rfl (by decide) (by decide)
  refine hF.mono ?_
  clear hF
  rintro e w5 ⟨rfl, S5, h5, hs5⟩
  go_wp2_with fail
  have hO : Calls Try.prog 23 #[.pointer (some ⟨w.heap.size, 0, none⟩)] w5 fun e w' => e = .returned (.tuple #[.int .i64 0, .bool true]) ∧ ∃ S', AL w w' S' w.heap.size 2 1 [[0, 0]] [true] [] 1 1 ∧ Step S5 S' w5 w' :=
    al_old (i := 0) h5 (fr' := []) rfl (by decide) (by decide) (by decide) (by decide)
  refine hO.mono ?_
  clear hO
  rintro e w6 ⟨rfl, S6, h6, hs6⟩
  have h46 : Kd.ow.R (fun k => w3.heap.size ≤ k ∧ k < w4.heap.size) w6 [1, 2] [.slice A4 2 c4] := Kd.ow.keep (fun k hk => (hs5.trans hs6).ch.block k hk.2 fun hs => by have := hlt3.out k hs; omega) h4
  have hstr : (convert 22 9 (.slice A4 2 c4)).run Try.prog w6 = .ok (.string (bstr [1, 2])) w6 := run_str Try.underlying22 Try.underlying5 Try.underlying9 (Kd.ow_rd h46).2.srcB c4
  have heq : (bstr [1, 2]).toList = [1, 2] := by rw [ByteArray.toList_eq]
  have hz := hide (as_zero 0 h6.ar (by decide))
  have hl := hide (as_live h6.ar)
  have hp := hide (as_peak h6.ar)
  have hs := hide (as_size h6.ar)
  have hb := h6.bel
  generalize bstr [1, 2] = s at hstr heq
  clear h3 h4 h5 h6 hs5 hs6 h46 hb4
  rw [show (hasB [true] 0 && zeroB (got [[0, 0]] [true] 0)) = true from rfl] at hz
  go_wp2_with fail
  refine hz.out.mono ?_
  rintro e w9 ⟨rfl, rfl⟩
  go_wp2_with fail
  refine hl.out.mono ?_
  rintro e w9 ⟨rfl, rfl⟩
  go_wp2_with fail
  refine hp.out.mono ?_
  rintro e w9 ⟨rfl, rfl⟩
  go_wp2_with fail
  refine hs.out.mono ?_
  rintro e w9 ⟨rfl, rfl⟩
  go_wp2_with fail
  exact hR.out _ _ ⟨rfl, hb⟩
end Go.Proofs.Ythcbjhmckbfkmaa
