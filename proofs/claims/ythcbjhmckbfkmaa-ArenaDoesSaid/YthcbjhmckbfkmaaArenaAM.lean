/- What the arena's law holds beside the arena: the reference's row, all numbers that were given out. -/
import Derived.Test.YthcbjhmckbfkmaaBlkPut
set_option linter.unusedVariables false
set_option linter.unusedSimpArgs false
namespace Go.Proofs.Ythcbjhmckbfkmaa
open Go.RowKit

structure AM (w1 w : World) (S Sl : Nat → Prop) (vl : Value) (l : LBlk) (ve : Value) (E : List Int) : Prop where
  row : ORow kBlk Sl w 53 vl l
  ev : Row w 3 ve (E.map fun x => .int .i64 x)
  sl : ∀ k, Sl k → ¬ S k ∧ w1.heap.size ≤ k ∧ k < w.heap.size
  ol : ∀ k, vl.ownBlock = some k → ¬ S k ∧ w1.heap.size ≤ k ∧ ¬ Sl k
  oe : ∀ k, ve.ownBlock = some k → ¬ S k ∧ w1.heap.size ≤ k ∧ ¬ Sl k ∧ vl.ownBlock ≠ some k
section
variable {w1 w w' : World} {S S' Sl : Nat → Prop} {vl v' : Value} {l l' : LBlk} {ve : Value} {E : List Int}
theorem AM.ltl (h : AM w1 w S Sl vl l ve E) {k : Nat} (hk : vl.ownBlock = some k) : k < w.heap.size := h.row.lt hk
theorem AM.lte (h : AM w1 w S Sl vl l ve E) {k : Nat} (hk : ve.ownBlock = some k) : k < w.heap.size := h.ev.lt hk
theorem AM.step (h : AM w1 w S Sl vl l ve E) (st : Step S S' w w') : AM w1 w' S' Sl vl l ve E := by
  have hn : ∀ k, k < w.heap.size → ¬ S k → ¬ S' k := fun k hk hs hs' => (st.new k hs').elim hs fun h => by omega
  exact ⟨h.row.keep fun k hk => st.ch.block k (hk.elim (fun hk => (h.sl k hk).2.2) fun hk => h.ltl hk) (hk.elim (fun hk => (h.sl k hk).1) fun hk => (h.ol k hk).1),
    h.ev.keep fun k hk => st.ch.block k (h.lte hk) (h.oe k hk).1,
    fun k hk => ⟨hn k (h.sl k hk).2.2 (h.sl k hk).1, (h.sl k hk).2.1, Nat.lt_of_lt_of_le (h.sl k hk).2.2 st.ch.size⟩,
    fun k hk => ⟨hn k (h.ltl hk) (h.ol k hk).1, (h.ol k hk).2⟩,
    fun k hk => ⟨hn k (h.lte hk) (h.oe k hk).1, (h.oe k hk).2⟩⟩
theorem AM.below (h : AM w1 w S Sl vl l ve E) (hb : Below w.heap.size w w') : AM w1 w' S Sl vl l ve E :=
  h.step ((Step.refl S w).below hb)
theorem AM.drop (h : AM w1 w S Sl vl l ve E) (h1 : w1.heap.size ≤ w.heap.size) (hS : ∀ k, S k → k < w.heap.size) (d : Dr w w' Sl v' l') : AM w1 w' S Sl v' l' ve E := by
  have h2 := h.below d.bel
  exact ⟨d.row, h2.ev, h2.sl, fun k hk => ⟨fun hs => by have := d.own k hk; have := hS k hs; omega, by have := d.own k hk; omega, fun hs => by have := d.own k hk; have := (h.sl k hs).2.2; omega⟩,
    fun k hk => ⟨(h2.oe k hk).1, (h2.oe k hk).2.1, (h2.oe k hk).2.2.1, fun e => by have := d.own k e; have := h.lte hk; omega⟩⟩
theorem AM.put (h : AM w1 w S Sl vl l ve E) (h1 : w1.heap.size ≤ w.heap.size) (hS : ∀ k, S k → k < w.heap.size) {z : Nat} (hz : w.heap.size ≤ z ∧ z < w'.heap.size) (hr : ORow kBlk (fun k => Sl k ∨ k = z) w' 53 v' l') (ho : ∀ k, v'.ownBlock = some k → w.heap.size ≤ k ∧ k ≠ z) (hb : Below w.heap.size w w') :
    AM w1 w' S (fun k => Sl k ∨ k = z) v' l' ve E := by
  have h2 := h.below hb
  refine ⟨hr, h2.ev, fun k hk => ?_, fun k hk => ?_, fun k hk => ?_⟩
  · rcases hk with hk | rfl
    · exact h2.sl k hk
    · exact ⟨fun hs => by have := hS _ hs; omega, by omega, hz.2⟩
  · have := ho k hk
    exact ⟨fun hs => by have := hS k hs; omega, by omega, fun hs => hs.elim (fun hs => by have := (h.sl k hs).2.2; omega) fun e => this.2 e⟩
  · have h3 := h2.oe k hk
    have := h.lte hk
    exact ⟨h3.1, h3.2.1, fun hs => hs.elim h3.2.2.1 fun e => by omega, fun e => by have := ho k e; omega⟩
/-- What is left by the two appends behind an allocation. -/
theorem AM.app (h : AM w1 w S Sl vl l ve E) (h1 : w1.heap.size ≤ w.heap.size) (hS : ∀ k, S k → k < w.heap.size) {o0 o1 o2 : Obj} (j : Int) (y : Int × List UInt8) :
    ∀ (v5 : Value) (w5 : World), ORow kBlk (fun k => Sl k ∨ k = w.heap.size) w5 53 v5 (l ++ [y]) → ((w.alloc o0).alloc o1).grownBy w5 vl.ownBlock → (v5.ownBlock = vl.ownBlock ∨ v5.ownBlock = some ((w.alloc o0).alloc o1).heap.size) →
      ∀ (v7 : Value) (w7 : World), Row w7 3 v7 ((E.map fun x => .int .i64 x) ++ [.int .i64 j]) → (w5.alloc o2).grownBy w7 ve.ownBlock → (v7.ownBlock = ve.ownBlock ∨ v7.ownBlock = some (w5.alloc o2).heap.size) →
      AM w1 w7 S (fun k => Sl k ∨ k = w.heap.size) v5 (l ++ [y]) v7 (E ++ [j]) ∧ ∃ T : Nat → Prop, Ch T w w7 ∧ (∀ k, T k → w1.heap.size ≤ k) ∧ ∀ k, S k → T k → False := by
  intro v5 w5 r5 g5 o5 v7 w7 r7 g7 o7
  have e2 : ((w.alloc o0).alloc o1).heap.size = w.heap.size + 2 := by simp
  have e7 : (w5.alloc o2).heap.size = w5.heap.size + 1 := by simp
  have s5 := g5.size
  have s7 := g7.size
  rw [e2] at o5 s5
  rw [e7] at o7 s7
  have b2 : Below w.heap.size w ((w.alloc o0).alloc o1) := (balloc w o0).alloc (by simp) o1
  have k5 : ∀ z, z < w.heap.size → vl.ownBlock ≠ some z → w5.heap[z]? = w.heap[z]? := fun z hl ho => (g5.block z (by omega) fun e => ho e.symm).trans (b2.block z hl)
  have k7 : ∀ z, z < w5.heap.size → ve.ownBlock ≠ some z → w7.heap[z]? = w5.heap[z]? := fun z hl ho => (g7.block z (by omega) fun e => ho e.symm).trans ((balloc w5 o2).block z hl)
  have hvl : ∀ z, v5.ownBlock = some z → vl.ownBlock = some z ∨ z = w.heap.size + 2 := fun z hz => by
    rcases o5 with e | e
    · exact .inl (e ▸ hz)
    · rw [hz] at e; injection e with e; exact .inr e
  have hve : ∀ z, v7.ownBlock = some z → ve.ownBlock = some z ∨ z = w5.heap.size + 1 := fun z hz => by
    rcases o7 with e | e
    · exact .inl (e ▸ hz)
    · rw [hz] at e; injection e with e; exact .inr e
  have hne : ∀ z, v5.ownBlock = some z → ve.ownBlock ≠ some z := fun z hz he => by
    rcases hvl z hz with h2 | h2
    · exact (h.oe z he).2.2.2 h2
    · have := h.lte he; omega
  refine ⟨⟨r5.keep fun k hk => k7 k ?_ ?_, by rw [List.map_append]; exact r7, fun k hk => ?_, fun k hk => ?_, fun k hk => ?_⟩, fun k => vl.ownBlock = some k ∨ ve.ownBlock = some k, ?_, fun k hk => hk.elim (fun hk => (h.ol k hk).2.1) fun hk => (h.oe k hk).2.1, fun k hs hk => hk.elim (fun hk => (h.ol k hk).1 hs) fun hk => (h.oe k hk).1 hs⟩
  · rcases hk with (hk | hk) | hk
    · have := (h.sl k hk).2.2; omega
    · omega
    · exact r5.lt hk
  · rcases hk with (hk | hk) | hk
    · exact fun e => (h.oe k e).2.2.1 hk
    · exact fun e => by have := h.lte e; omega
    · exact hne k hk
  · rcases hk with hk | rfl
    · have := h.sl k hk
      exact ⟨this.1, this.2.1, by omega⟩
    · exact ⟨fun hs => by have := hS _ hs; omega, h1, by omega⟩
  · rcases hvl k hk with h2 | h2
    · have := h.ol k h2
      exact ⟨this.1, this.2.1, fun hs => hs.elim this.2.2 fun e => by have := h.ltl h2; omega⟩
    · exact ⟨fun hs => by have := hS k hs; omega, by omega, fun hs => hs.elim (fun hs => by have := (h.sl k hs).2.2; omega) fun e => by omega⟩
  · rcases hve k hk with h2 | h2
    · have h3 := h.oe k h2
      have h4 := h.lte h2
      exact ⟨h3.1, h3.2.1, fun hs => hs.elim h3.2.2.1 fun e => by omega, fun e => hne k e h2⟩
    · exact ⟨fun hs => by have := hS k hs; omega, by omega, fun hs => hs.elim (fun hs => by have := (h.sl k hs).2.2; omega) fun e => by omega, fun e => by
        rcases hvl k e with h3 | h3
        · have := h.ltl h3; omega
        · omega⟩
  · have c1 : Ch (fun k => vl.ownBlock = some k ∨ ve.ownBlock = some k) w ((w.alloc o0).alloc o1) := Ch.of_below b2
    have c2 := c1.trans (Ch.of_grown g5) fun b hb => .inl (.inl hb)
    have c3 := c2.trans (Ch.of_below (S := fun _ => False) (balloc w5 o2)) fun b hb => hb.elim
    exact c3.trans (Ch.of_grown g7) fun b hb => .inl (.inr hb)
end
end Go.Proofs.Ythcbjhmckbfkmaa
