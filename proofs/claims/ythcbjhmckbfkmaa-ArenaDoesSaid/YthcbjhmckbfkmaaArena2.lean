/- An arena's memory changed: what is given out, what came back. -/
import Derived.Test.YthcbjhmckbfkmaaArena1
set_option linter.unusedVariables false
set_option linter.unusedSimpArgs false
namespace Go.Proofs.Ythcbjhmckbfkmaa
open Go.RowKit

section
variable {w : World} {g n room : Nat} {bl : List (List UInt8)} {us : List Bool} {fr : List Nat} {live peak : Nat} {vb vu vf : Value} {qs : List Nat}
theorem Ar.glt (h : Ar w g n room bl us fr live peak vb vu vf qs) : g < w.heap.size := (Array.getElem?_eq_some_iff.1 h.head).1
theorem Ar.qlt (h : Ar w g n room bl us fr live peak vb vu vf qs) {q : Nat} (hq : q ∈ qs) : q < w.heap.size := by
  obtain ⟨i, hi, rfl⟩ := List.mem_iff_getElem.1 hq
  have hb : i < bl.length := by rw [← h.ql]; exact hi
  exact (Array.getElem?_eq_some_iff.1 (h.bk i _ _ (List.getElem?_eq_getElem hi) (List.getElem?_eq_getElem hb)).2).1
/-- The blocks of an arena. -/
def Ar.own (g : Nat) (vb vu vf : Value) (qs : List Nat) (k : Nat) : Prop := k ∈ g :: qs ∨ vb.ownBlock = some k ∨ vu.ownBlock = some k ∨ vf.ownBlock = some k
/-- One is given out, or comes back. -/
theorem Ar.used (h : Ar w g n room bl us fr live peak vb vu vf qs) {i : Nat} (hi : i < us.length) (b : Bool) :
    ∃ q c, vu = .slice (some ⟨q, 0, none⟩) us.length c ∧ w.cell? ⟨q, i, none⟩ = some (.bool us[i]) ∧ w.frozen? ⟨q, i, none⟩ = false ∧ Ar (w.setCell ⟨q, i, none⟩ (.bool b)) g n room bl (us.set i b) fr live peak vb vu vf qs := by
  obtain ⟨q, c, e, hc, hf, hlt, hrow⟩ := h.ru.set (i := i) (by simpa using hi) (.bool b)
  rw [List.getElem_map] at hc
  rw [List.length_map] at e
  have ho : vu.ownBlock = some q := by rw [e]; rfl
  have hne : ∀ k, k ≠ q → (w.setCell ⟨q, i, none⟩ (.bool b)).heap[k]? = w.heap[k]? := fun k hk => Below.heap_setCell w ⟨q, i, none⟩ _ k hk
  have hnq : ∀ k, k ∈ g :: qs → k ≠ q := fun k hk e => h.ou q ho (e ▸ hk)
  refine ⟨q, c, e, hc, hf, (hne g (hnq g (List.mem_cons_self ..))).trans h.head, h.rb.keep fun k hk => hne k fun e => h.bu k hk (e ▸ ho), ?_, h.rf.keep fun k hk => hne k fun e => h.uf q ho (e ▸ hk), h.ql, by rw [List.length_set]; exact h.ul, fun j q' b' h1 h2 => ?_, h.nd, h.ob, h.ou, h.of, h.bu, h.bf, h.uf⟩
  · rw [List.map_set]; exact hrow
  · obtain ⟨h3, h4⟩ := h.bk j q' b' h1 h2
    exact ⟨h3, (hne q' (hnq q' (List.mem_cons_of_mem _ (List.mem_of_getElem? h1)))).trans h4⟩
/-- The head and the row of those that came back are others. -/
theorem Ar.refr (h : Ar w g n room bl us fr live peak vb vu vf qs) {w' : World} {fr' : List Nat} {live' peak' : Nat} {vf' : Value}
    (head : w'.heap[g]? = some (.cells #[.int .i64 (n : Int), .int .i64 (room : Int), vb, vu, vf', .int .i64 (live' : Int), .int .i64 (peak' : Int)] 67 (0, 0)))
    (hk : ∀ k, k < w.heap.size → k ≠ g → vf.ownBlock ≠ some k → w'.heap[k]? = w.heap[k]?) (rf : Row w' 3 vf' (fr'.map fun i : Nat => .int .i64 ((i : Nat) : Int)))
    (ho : ∀ k, vf'.ownBlock = some k → vf.ownBlock = some k ∨ w.heap.size ≤ k) : Ar w' g n room bl us fr' live' peak' vb vu vf' qs := by
  refine ⟨head, h.rb.keep fun k hb => hk k (h.rb.lt hb) (fun e => h.ob k hb (e ▸ List.mem_cons_self ..)) (h.bf k hb), h.ru.keep fun k hb => hk k (h.ru.lt hb) (fun e => h.ou k hb (e ▸ List.mem_cons_self ..)) (h.uf k hb), rf, h.ql, h.ul, fun j q b h1 h2 => ?_, h.nd, h.ob, h.ou, fun k hk' => ?_, h.bu, fun k hb hf => ?_, fun k hb hf => ?_⟩
  · obtain ⟨h3, h4⟩ := h.bk j q b h1 h2
    have hq := List.mem_of_getElem? h1
    have hnd := h.nd
    rw [List.nodup_cons] at hnd
    exact ⟨h3, (hk q (h.qlt hq) (fun e => hnd.1 (e ▸ hq)) (fun e => h.of q e (List.mem_cons_of_mem _ hq))).trans h4⟩
  · rcases ho k hk' with h1 | h1
    · exact h.of k h1
    · intro hm
      rcases List.mem_cons.1 hm with rfl | hm
      · exact absurd h.glt (by omega)
      · exact absurd (h.qlt hm) (by omega)
  · rcases ho k hf with h1 | h1
    · exact h.bf k hb h1
    · exact absurd (h.rb.lt hb) (by omega)
  · rcases ho k hf with h1 | h1
    · exact h.uf k hb h1
    · exact absurd (h.ru.lt hb) (by omega)
theorem cset {w : World} {g : Nat} {t : TypeId} {cs : Array Value} (h : w.heap[g]? = some (.cells cs t (0, 0))) (i : Nat) (u : Value) : (w.setCell ⟨g, i, none⟩ u).heap[g]? = some (.cells (cs.setIfInBounds i u) t (0, 0)) := by
  simp [World.setCell, Array.getElem?_modify, h]
theorem infoI : (Try.prog.info? 3).map (fun i => (i.zero, i.size, i.bytes)) = some (some (.int .i64 0), 1, 8) := by kernel_rfl
theorem afree_no (i : Int) (h : Ar w g n room bl us fr live peak vb vu vf qs) (hi : hasB us i = false) : Calls Try.prog 26 #[.pointer (some ⟨g, 0, none⟩), .int .i64 i] w fun e w' => e = .returned (.bool false) ∧ w = w' := by
  refine cps fun R hR => ?_
  have Hh := hide (has_calls i h)
  rw [hi] at Hh
  clear h
  go_enter Try.func26, Try.ntmps26
  go_wp2_with fail
  refine Hh.out.mono ?_
  rintro e w1 ⟨rfl, rfl⟩
  go_wp2_with fail
  exact hR.out _ _ ⟨rfl, rfl⟩
set_option maxHeartbeats 1000000 in
theorem afree_yes (i : Nat) (h : Ar w g n room bl us fr (live + 1) peak vb vu vf qs) (hl : i < us.length) (hi : us[i] = true) (hfl : fr.length ≤ 1000000) (hlv : live < 1000000) : Calls Try.prog 26 #[.pointer (some ⟨g, 0, none⟩), .int .i64 (i : Int)] w fun e w' =>
    e = .returned (.bool true) ∧ ∃ vf', Ar w' g n room bl (us.set i false) (fr ++ [i]) live peak vb vu vf' qs ∧ Ch (Ar.own g vb vu vf qs) w w' ∧ (vf'.ownBlock = vf.ownBlock ∨ ∃ k, vf'.ownBlock = some k ∧ w.heap.size ≤ k) := by
  refine cps fun R hR => ?_
  have Hh := hide (has_calls (i : Int) h)
  rw [show hasB us (i : Int) = true by simp [hasB, hl, hi]] at Hh
  obtain ⟨qu, cu, rfl, hcu, hfu, h1⟩ := h.used hl false
  obtain ⟨W1, hW1⟩ : ∃ W1, W1 = w.setCell ⟨qu, i, none⟩ (.bool false) := ⟨_, rfl⟩
  rw [← hW1] at h1
  obtain ⟨-, -, -, c3, -, -, -⟩ := cells7 h.head
  obtain ⟨-, -, -, -, d4, -, -⟩ := cells7 h1.head
  obtain ⟨Af, cf, rfl, hcf, hmf⟩ := h1.rf.shape
  have d4' : (w.setCell ⟨qu, i, none⟩ (.bool false)).cell? ⟨g, 4, none⟩ = some (.slice Af fr.length cf) := by rw [← hW1]; simpa using d4
  clear d4
  have hch1 : Ch (fun b => b = qu) w W1 := by rw [hW1]; exact Ch.set w ⟨qu, i, none⟩ _
  have H1 := hide h1
  have HW1 := hide hW1
  have Hch1 := hide hch1
  clear h h1 hW1 hch1
  rw [hi] at hcu
  clear hi
  rw [List.length_map] at *
  generalize us.length = m at *
  go_enter Try.func26, Try.ntmps26
  go_wp2_with fail
  refine Hh.out.mono ?_
  rintro e w1 ⟨rfl, rfl⟩
  have hml := hide (show (fr.map fun i : Nat => Value.int .i64 ((i : Nat) : Int)).length = fr.length by simp)
  have b1 := hide (balloc W1 (.cells #[.int .i64 (i : Int)] 3))
  have s1 := hide (Src.lit1 W1 (.int .i64 (i : Int)) 3)
  have sW : W1.heap.size = w.heap.size := by rw [HW1.out]; simp [World.setCell]
  have hrf := hide ((H1.out.rf).keep (w' := W1.alloc (.cells #[.int .i64 (i : Int)] 3)) fun k hk => b1.out.block k (H1.out.rf.lt hk))
  rw [HW1.out] at hrf s1
  go_wp2_with (at_builtin; with_reducible refine wp_app 22 rfl rfl (.tmp 19) (.tmp 21) 37 rfl Try.underlying37 infoI ?_ (us := fr.map fun i : Nat => .int .i64 ((i : Nat) : Int)) ?_ hrf.out (A := some ⟨w.heap.size, 0, none⟩) (c := 1) (news := [.int .i64 (i : Int)]) ?_ ?_ ?_ ?_ ?_ ?_)
  case refine_1 => rfl
  case refine_2 => rfl
  case refine_3 => rfl
  case refine_4 => have := s1.out; simpa [World.setCell] using this
  case refine_5 => intro u hu; simp at hu; subst hu; rfl
  case refine_6 => rw [hml.out]; simp; omega
  case refine_7 => rw [hml.out]; simp; unfold maxLen; omega
  case refine_8 =>
  intro vf' w3 hr3 g3 a3
  rw [← HW1.out] at g3 a3
  have hg : g < W1.heap.size := H1.out.glt
  have hgf : ∀ k, (Value.slice Af fr.length cf).ownBlock = some k → k ≠ g := fun k hk e => H1.out.of k hk (e ▸ List.mem_cons_self ..)
  have h3g : w3.heap[g]? = W1.heap[g]? := (g3.block g (by simp; omega) (fun e => hgf g e.symm rfl)).trans (b1.out.block g hg)
  have Hh3 := hide (h3g.trans H1.out.head)
  obtain ⟨-, -, -, -, e4, e5, -⟩ := cells7 Hh3.out
  have f4 : w3.frozen? ⟨g, 4, none⟩ = false := by simp [World.frozen?, Hh3.out]
  have f5 : w3.frozen? ⟨g, 5, none⟩ = false := by simp [World.frozen?, Hh3.out]
  obtain ⟨A', c', rfl, -, -⟩ := hr3.shape
  rw [Int.natCast_succ] at e5
  rw [List.length_append, hml.out] at hr3 a3 ⊢
  have Hr3 := hide hr3
  have G3 := hide g3
  have A3 := hide a3
  clear hr3 g3 a3 h3g d4' c3 hcu hfu sW hgf
  go_wp2_with fail
  have hb1 := b1.out.size
  have hW : ∀ k, k < W1.heap.size → k ≠ g → (Value.slice Af fr.length cf).ownBlock ≠ some k → w3.heap[k]? = W1.heap[k]? := fun k hk hg hf => (G3.out.block k (by omega) (fun e => hf e.symm)).trans (b1.out.block k hk)
  have hS : ∀ (u v : Value) k, k ≠ g → ((w3.setCell ⟨g, 4, none⟩ u).setCell ⟨g, 5, none⟩ v).heap[k]? = w3.heap[k]? := fun u v k hk => (Below.heap_setCell _ ⟨g, 5, none⟩ v k hk).trans (Below.heap_setCell w3 ⟨g, 4, none⟩ u k hk)
  have hown : ∀ k, (Value.slice A' (fr.length + 1) c').ownBlock = some k → (Value.slice Af fr.length cf).ownBlock = some k ∨ W1.heap.size ≤ k := fun k hk => by
    rcases A3.out with h1 | h1
    · exact .inl (h1 ▸ hk)
    · right
      have : (Value.slice A' (fr.length + 1) c').ownBlock = some (W1.alloc (.cells #[.int .i64 (i : Int)] 3)).heap.size := h1
      rw [hk] at this
      injection this with this
      omega
  have hsz : W1.heap.size = w.heap.size := by rw [HW1.out]; simp [World.setCell]
  refine hR.out _ _ ⟨rfl, .slice A' (fr.length + 1) c', H1.out.refr ?_ (fun k hk hg hf => (hS _ _ k hg).trans (hW k hk hg hf)) ?_ hown, ?_, ?_⟩
  · have := cset (cset Hh3.out 4 (.slice A' (fr.length + 1) c')) 5 (.int .i64 (live : Int))
    simpa using this
  · rw [List.map_append]
    refine Hr3.out.keep fun k hk => hS _ _ k ?_
    rcases hown k hk with h1 | h1
    · exact fun e => H1.out.of k h1 (e ▸ List.mem_cons_self ..)
    · omega
  · have hc : Ch (Ar.own g vb (.slice (some ⟨qu, 0, none⟩) m cu) (.slice Af fr.length cf) qs) W1 ((w3.setCell ⟨g, 4, none⟩ (.slice A' (fr.length + 1) c')).setCell ⟨g, 5, none⟩ (.int .i64 (live : Int))) :=
      ⟨G3.out.os.trans b1.out.os, G3.out.tape.trans b1.out.tape, G3.out.output.trans b1.out.output, by have := G3.out.size; simp [World.setCell]; omega, fun k hk hn => (hS _ _ k fun e => hn (.inl (e ▸ List.mem_cons_self ..))).trans (hW k hk (fun e => hn (.inl (e ▸ List.mem_cons_self ..))) fun e => hn (.inr (.inr (.inr e))))⟩
    exact (Hch1.out.mono fun b _ e => .inr (.inr (.inl (by rw [e]; rfl)))).trans hc fun b hb => .inl hb
  · rcases A3.out with h1 | h1
    · exact .inl h1
    · exact .inr ⟨_, h1, by omega⟩
end
end Go.Proofs.Ythcbjhmckbfkmaa
