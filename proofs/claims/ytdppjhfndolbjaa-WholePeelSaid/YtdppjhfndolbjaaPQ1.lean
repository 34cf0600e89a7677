/- A queue's numbers: what a Push leaves. -/
import Derived.Test.YtdppjhfndolbjaaPQ0
set_option linter.unusedVariables false
set_option linter.unusedSimpArgs false
namespace Go.Proofs.Ytdppjhfndolbjaa
open Go.RowKit Go.Maps

/-- S, and all blocks made between two worlds. -/
def moreS (S : Nat → Prop) (w w' : World) (k : Nat) : Prop := S k ∨ w.heap.size ≤ k ∧ k < w'.heap.size
theorem moreS_step {S : Nat → Prop} {w w' : World} (c : Ch S w w') : Step S (moreS S w w') w w' := ⟨c, fun k hk => hk.elim .inl fun h => .inr h.1, fun k hk => .inl hk⟩
theorem cset {w : World} {g : Nat} {t : TypeId} {cs : Array Value} (h : w.heap[g]? = some (.cells cs t (0, 0))) (i : Nat) (u : Value) : (w.setCell ⟨g, i, none⟩ u).heap[g]? = some (.cells (cs.setIfInBounds i u) t (0, 0)) := by
  simp [World.setCell, Array.getElem?_modify, h]
theorem set0 {w : World} {g : Nat} {a b c : Value} {t : TypeId} (h : w.heap[g]? = some (.cells #[a, b, c] t (0, 0))) (v : Value) : (w.setCell ⟨g, 0, none⟩ v).heap[g]? = some (.cells #[v, b, c] t (0, 0)) := by
  have := cset h 0 v; simpa using this
theorem set1 {w : World} {g : Nat} {a b c : Value} {t : TypeId} (h : w.heap[g]? = some (.cells #[a, b, c] t (0, 0))) (v : Value) : (w.setCell ⟨g, 1, none⟩ v).heap[g]? = some (.cells #[a, v, c] t (0, 0)) := by
  have := cset h 1 v; simpa using this
theorem set2 {w : World} {g : Nat} {a b c : Value} {t : TypeId} (h : w.heap[g]? = some (.cells #[a, b, c] t (0, 0))) (v : Value) : (w.setCell ⟨g, 2, none⟩ v).heap[g]? = some (.cells #[a, b, v] t (0, 0)) := by
  have := cset h 2 v; simpa using this
section
variable {w W w7 w9 : World} {S : Nat → Prop} {g : Nat} {E : List Int} {p : Nat} {v v' : Value} {l : List Int} {at' b : Nat} {m : Option Nat} {x : Int} {o : Obj}
theorem push_end (h : QA w S g E p v l at' m) (hx : (Lit.int .i64 x).wf = true) (hc : Ch S w W) (hW : W.heap[g]? = some (.cells #[v, .int .i64 (at' : Int), .map (some b)] 50 (0, 0)))
    (rW : Row W 3 v (l.map encI)) (bS : S b ∨ w.heap.size ≤ b) (bg : b ≠ g) (bv : v.ownBlock ≠ some b) (blt : b < W.heap.size)
    (h7 : w7.ownsMap Try.prog 3 (unitElem (H := Unit)) b (E.length + 1) ((setOf (.agg []) (keysOf E)).put (.int .i64 x) (.agg []))) (g7 : W.grownBy w7 (some b))
    (h9 : Row w9 3 v' (l.map encI ++ [.int .i64 x])) (g9 : (w7.alloc o).grownBy w9 v.ownBlock) (a9 : v'.ownBlock = v.ownBlock ∨ v'.ownBlock = some (w7.alloc o).heap.size) :
    ∃ S', QS (w9.setCell ⟨g, 0, none⟩ v') S' g (E ++ [x]) p ∧ Step S S' w (w9.setCell ⟨g, 0, none⟩ v') := by
  have gl : g < W.heap.size := Nat.lt_of_lt_of_le (h.lt g h.sg) hc.size
  have s7 := g7.size
  have s8 : (w7.alloc o).heap.size = w7.heap.size + 1 := by simp
  have s9 := g9.size
  have k7 : ∀ k, k < W.heap.size → k ≠ b → w7.heap[k]? = W.heap[k]? := fun k hk hb => g7.block k hk fun e => hb (by injection e)
  have k8 : ∀ k, k < w7.heap.size → (w7.alloc o).heap[k]? = w7.heap[k]? := fun k hk => (balloc w7 o).block k hk
  have k9 : ∀ k, k < w7.heap.size → v.ownBlock ≠ some k → w9.heap[k]? = w7.heap[k]? := fun k hk hv => (g9.block k (by omega) fun e => hv e.symm).trans (k8 k hk)
  have vg : v.ownBlock ≠ some g := fun e => (h.sv g e).2.1 rfl
  have hg9 : w9.heap[g]? = some (.cells #[v, .int .i64 (at' : Int), .map (some b)] 50 (0, 0)) := (k9 g (by omega) vg).trans ((k7 g gl fun e => bg e.symm).trans hW)
  have hs := set0 hg9 v'
  have ks : ∀ k, k ≠ g → (w9.setCell ⟨g, 0, none⟩ v').heap[k]? = w9.heap[k]? := fun k hk => Below.heap_setCell w9 ⟨g, 0, none⟩ v' k hk
  have ss : (w9.setCell ⟨g, 0, none⟩ v').heap.size = w9.heap.size := by simp [World.setCell]
  have vn : ∀ k, v'.ownBlock = some k → v.ownBlock = some k ∨ k = w7.heap.size + 1 := fun k hk => by
    rcases a9 with e | e
    · exact .inl (e ▸ hk)
    · rw [hk] at e; injection e with e; exact .inr (by omega)
  have vb' : ∀ k, v'.ownBlock = some k → k ≠ g ∧ k ≠ b := fun k hk => by
    rcases vn k hk with h1 | h1
    · exact ⟨fun e => vg (e ▸ h1), fun e => bv (e ▸ h1)⟩
    · exact ⟨by omega, by omega⟩
  have hC : Ch S w (w9.setCell ⟨g, 0, none⟩ v') := by
    have c7 : Ch (fun k => k = b) W w7 := (Ch.of_grown g7).mono fun k _ e => by injection e with e; exact e.symm
    have c8 : Ch (fun _ => False) w7 (w7.alloc o) := Ch.alloc w7 o
    have c9 : Ch (fun k => v.ownBlock = some k) (w7.alloc o) w9 := Ch.of_grown g9
    have cs : Ch (fun k => k = g) w9 (w9.setCell ⟨g, 0, none⟩ v') := Ch.set w9 ⟨g, 0, none⟩ v'
    refine (((hc.trans c7 ?_).trans c8 fun _ h => h.elim).trans c9 ?_).trans cs ?_
    · rintro k rfl; exact bS
    · intro k hk; exact .inl (h.sv k hk).1
    · rintro k rfl; exact .inl h.sg
  refine ⟨moreS S w (w9.setCell ⟨g, 0, none⟩ v'), ⟨v', l ++ [x], at', some b, hs, ?_, ?_, ?_, ?_, ?_, ?_, .inl h.sg, ?_, ?_, ?_, ?_⟩, moreS_step hC⟩
  · rw [List.map_append]
    exact h9.keep fun k hk => ks k (vb' k hk).1
  · rw [List.length_append]; have := h.le; omega
  · rw [List.drop_append_of_le_length h.le, List.drop_append_of_le_length h.pe, h.dr]
  · rw [List.length_append]; have := h.pe; omega
  · rw [List.length_append, List.length_append]; have := h.ll; omega
  · refine .inr ⟨b, rfl, ?_⟩
    rw [keysOf_snoc, List.length_append, List.length_singleton]
    obtain ⟨es, clock, h1, h2⟩ := h7
    exact ⟨es, clock, (ks b bg).trans ((k9 b (by omega) bv).trans h1), h2⟩
  · intro k hk
    refine ⟨?_, (vb' k hk).1, fun e => (vb' k hk).2 (by injection e with e; exact e.symm)⟩
    rcases vn k hk with h1 | h1
    · exact .inl (h.sv k h1).1
    · exact .inr ⟨by have := hc.size; omega, by rw [ss]; have := h9.lt hk; exact this⟩
  · rintro k e
    injection e with e; subst e
    exact ⟨bS.elim .inl fun h1 => .inr ⟨h1, by rw [ss]; omega⟩, bg⟩
  · intro k hk
    rcases hk with h1 | h1
    · rw [ss]; have := h.lt k h1; have := hc.size; omega
    · exact h1.2
  · intro y hy
    rcases List.mem_append.1 hy with h1 | h1
    · exact h.wf y h1
    · simp at h1; subst h1; exact hx
end
end Go.Proofs.Ytdppjhfndolbjaa
