/- Rows of the call's own, of elements of whatever size: read, and one more. -/
import Derived.Test.YtfkofhdgokhodaaCh
set_option linter.unusedVariables false
set_option linter.unusedSimpArgs false
namespace Go.Proofs.Ytfkofhdgokhodaa
open Go.RowKit

/-- xs in memory of the call's own; what they lead to lies in S. -/
def ORow {α : Type} (d : Kd α) (S : Nat → Prop) (w : World) (e : TypeId) (v : Value) (xs : List α) : Prop :=
  ∃ us, w.ownsRow 0 e d.sz v xs.length us ∧ ∀ (i : Nat) (x : α), xs[i]? = some x → ∃ cs, d.R S w x cs ∧ ∀ (j : Nat) (u : Value), cs[j]? = some u → us[i * d.sz + j]? = some u
section
variable {α : Type} {d : Kd α} {S : Nat → Prop} {w w' : World} {e : TypeId} {v v' : Value} {xs : List α}
theorem ORow.nil : ORow d S w e (.slice none 0 0) [] := ⟨[], World.ownsRow_nil w 0 e d.sz, fun i x hx => by simp at hx⟩
theorem ORow.lt (h : ORow d S w e v xs) {k : Nat} (hk : v.ownBlock = some k) : k < w.heap.size := by
  obtain ⟨us, h1, _⟩ := h
  exact (World.ownsRow.lt h1 k hk).2
theorem ORow.keep (h : ORow d S w e v xs) (hk : ∀ k, S k ∨ v.ownBlock = some k → w'.heap[k]? = w.heap[k]?) : ORow d S w' e v xs := by
  obtain ⟨us, h1, h2⟩ := h
  refine ⟨us, ⟨h1.1, ?_⟩, fun i x hx => ?_⟩
  · rcases h1.2 with h3 | ⟨g, cap, cur, rfl, hg, hh, r⟩
    · exact .inl h3
    · exact .inr ⟨g, cap, cur, rfl, hg, (hk g (.inr (by simp [Value.ownBlock]))).trans hh, r⟩
  · obtain ⟨cs, hr, hc⟩ := h2 i x hx
    exact ⟨cs, d.keep (fun k hs => hk k (.inl hs)) hr, hc⟩
theorem ORow.shape (h : ORow d S w e v xs) : ∃ A c, v = .slice A xs.length c ∧ xs.length ≤ c ∧ c ≤ maxLen := by
  obtain ⟨us, h1, _⟩ := h
  rcases h1.2 with ⟨rfl, hn⟩ | ⟨g, cap, cur, rfl, _, _, h1, h2, _⟩
  · exact ⟨none, 0, by rw [hn], by omega, by simp⟩
  · exact ⟨_, cap, rfl, h1, h2⟩
theorem ORow.rd {A : Option Addr} {n c : Nat} (h : ORow d S w e (.slice A n c) xs) : RdL d (fun k => S k ∨ (Value.slice A n c).ownBlock = some k) w A xs := fun hp => by
  obtain ⟨us, h1, h2⟩ := h
  rcases h1.2 with ⟨_, hn⟩ | ⟨g, cap, cur, hv, _, hh, _⟩
  · omega
  · injection hv with hv1 hv2 hv3
    have hg : (Value.slice A n c).ownBlock = some g := by rw [hv1]; rfl
    refine ⟨g, 0, hv1, .inr hg, fun i x hx => ?_⟩
    obtain ⟨cs, hr, hc⟩ := h2 i x hx
    refine ⟨cs, d.mono (fun k hs => .inl hs) hr, fun j u hu => ?_⟩
    have := World.ownsRow.cells h1 hg _ u (hc j u hu)
    rw [Nat.zero_add]
    unfold Addr.add at this
    split at this
    · rename_i h0; rw [h0]; exact this
    · simpa using this
/-- One more. -/
theorem ORow.push {x : α} {cs : List Value} (h : ORow d S w e v xs) (hx : d.R S w' x cs) (hS : ∀ k, S k → w'.heap[k]? = w.heap[k]?)
    (hrow : ∀ us, w.ownsRow 0 e d.sz v xs.length us → w'.ownsRow 0 e d.sz v' (xs.length + 1) (us ++ cs)) : ORow d S w' e v' (xs ++ [x]) := by
  obtain ⟨us, h1, h2⟩ := h
  have hl := h1.1
  refine ⟨us ++ cs, by simpa using hrow us h1, fun i y hy => ?_⟩
  by_cases hi : i < xs.length
  · rw [List.getElem?_append_left hi] at hy
    obtain ⟨cs', hr, hc⟩ := h2 i y hy
    refine ⟨cs', d.keep hS hr, fun j u hu => ?_⟩
    have hlt : i * d.sz + j < us.length := by
      have := (List.getElem?_eq_some_iff.1 (hc j u hu)).1
      exact this
    rw [List.getElem?_append_left hlt]
    exact hc j u hu
  · have hi' : i = xs.length := by
      have := (List.getElem?_eq_some_iff.1 hy).1
      simp at this; omega
    subst hi'
    rw [List.getElem?_append_right (Nat.le_refl _)] at hy
    simp at hy
    subst hy
    refine ⟨cs, hx, fun j u hu => ?_⟩
    rw [List.getElem?_append_right (by omega), hl, Nat.add_sub_cancel_left]
    exact hu
end
theorem Addr.add_cells {w : World} {g : Nat} {cs : List Value} {t : TypeId} (h : w.heap[g]? = some (.cells cs.toArray t (0, 0))) : ∀ j u, cs[j]? = some u → w.cell? ((⟨g, 0, none⟩ : Addr).add j) = some u := fun j u hu => by
  have := cell_of_row w g j _ t (0, 0) h
  rw [List.getElem?_toArray, hu] at this
  unfold Addr.add
  split
  · rename_i h0; subst h0; exact this
  · simpa using this

/-- append(v, x), x a new block of one element. -/
theorem wp_push {P : Program} {w : World} {α : Type} {d : Kd α} {S : Nat → Prop} {ops : Array Oper} {rest : List Oper} {o : Oper} {a : Act} {Q : Exit → Act → World → Prop} (N : Tmp) (_hN : o.dst = some N) (hgd : o.guard = none) (s x : Operand) (t : TypeId)
    (ho : o.op = .call { callee := .builtin .append, args := #[s, x], argTypes := #[t, t] }) {e : TypeId} {z : Value} {bytes : Nat} (ht : P.underlying t = some (.slice e)) (hi : (P.info? e).map (fun i => (i.zero, i.size, i.bytes)) = some (some z, d.sz, bytes)) (hz : z.cells.size = d.sz)
    {v : Value} {xs : List α} (hv : a.eval s = v) (hown : ORow d S w e v xs) {g : Nat} {y : α} {cs : List Value} (hx : a.eval x = .slice (some ⟨g, 0, none⟩) 1 1) {tg : TypeId} (hc : w.heap[g]? = some (.cells cs.toArray tg (0, 0))) (hy : d.R S w y cs) (h1 : ∀ u ∈ cs, u.oneCell' = true)
    (hb : (xs.length + 1) * bytes ≤ 140737488355328) (hl : xs.length + 1 ≤ maxLen) (hS : ∀ k, S k → k < w.heap.size ∧ some k ≠ v.ownBlock)
    (h : ∀ v' w', ORow d S w' e v' (xs ++ [y]) → w.grownBy w' v.ownBlock → (v'.ownBlock = v.ownBlock ∨ v'.ownBlock = some w.heap.size) → wpList P ops Q rest (a.put (some N) v') w') : wpList P ops Q (o :: rest) a w := by
  obtain ⟨i, hi, hzz⟩ := Option.map_eq_some_iff.1 hi
  simp only [Prod.mk.injEq] at hzz
  obtain ⟨hz0, hz1, hz2⟩ := hzz
  obtain ⟨us, h2, h3⟩ := hown
  refine wpList_append_own_at w hgd s x t ho 0 e i z d.sz bytes ht hi hz0 hz1 hz2 hz d.pos v xs.length us hv h2 ⟨g, 0, none⟩ 1 1 cs hx (by rw [d.len hy]; omega) (Addr.add_cells hc) h1 hl hb (Nat.zero_le _) fun v' w' q1 q2 q3 q4 => ?_
  rw [_hN]
  have hSk : ∀ k, S k → w'.heap[k]? = w.heap[k]? := fun k hk => q2.block k (hS k hk).1 (hS k hk).2
  refine h v' w' ⟨us ++ cs, by simpa using q1, ?_⟩ q2 q4
  have hp := ORow.push (d := d) (w := w) (w' := w') (e := e) (v := v) (v' := v) (x := y) (cs := cs) ⟨us, h2, h3⟩ (d.keep hSk hy) hSk
  intro i' y' hy'
  by_cases hi' : i' < xs.length
  · rw [List.getElem?_append_left hi'] at hy'
    obtain ⟨cs', hr, hc'⟩ := h3 i' y' hy'
    refine ⟨cs', d.keep hSk hr, fun j u hu => ?_⟩
    rw [List.getElem?_append_left (List.getElem?_eq_some_iff.1 (hc' j u hu)).1]
    exact hc' j u hu
  · have hi2 : i' = xs.length := by
      have := (List.getElem?_eq_some_iff.1 hy').1
      simp at this; omega
    subst hi2
    rw [List.getElem?_append_right (Nat.le_refl _)] at hy'
    simp at hy'
    subst hy'
    refine ⟨cs, d.keep hSk hy, fun j u hu => ?_⟩
    rw [List.getElem?_append_right (by rw [h2.1]; omega), h2.1, Nat.add_sub_cancel_left]
    exact hu
end Go.Proofs.Ytfkofhdgokhodaa
