/- A row of the call's own, of one-cell values that are told by a kind: made, read, longer. -/
import Derived.Test.YtehkdionodnhjaaOws
set_option linter.unusedVariables false
set_option linter.unusedSimpArgs false
namespace Go.Proofs.Ytehkdionodnhjaa
open Go.RowKit

/-- The row v holds us, and these are the values xs, in blocks of S. -/
structure OR {α : Type} (d : Kd α) (S : Nat → Prop) (w : World) (e : TypeId) (v : Value) (us : List Value) (xs : List α) : Prop where
  row : Row w e v us
  len : us.length = xs.length
  el : ∀ (i : Nat) (u : Value) (x : α), us[i]? = some u → xs[i]? = some x → d.R S w x [u]
section
variable {α : Type} {d : Kd α} {S S' : Nat → Prop} {w w' : World} {e : TypeId} {v v' : Value} {us us' : List Value} {xs xs' : List α}
theorem OR.nil : OR d S w e (.slice none 0 0) [] [] := ⟨Row.nil, rfl, fun i u x h _ => by simp at h⟩
theorem OR.lt (h : OR d S w e v us xs) {k : Nat} (hk : v.ownBlock = some k) : k < w.heap.size := h.row.lt hk
theorem OR.keep (h : OR d S w e v us xs) (hk : ∀ k, S k ∨ v.ownBlock = some k → w'.heap[k]? = w.heap[k]?) : OR d S w' e v us xs :=
  ⟨h.row.keep fun k hv => hk k (.inr hv), h.len, fun i u x hu hx => d.keep (fun k hs => hk k (.inl hs)) (h.el i u x hu hx)⟩
theorem OR.mono (h : OR d S w e v us xs) (hs : ∀ k, S k → S' k) : OR d S' w e v us xs := ⟨h.row, h.len, fun i u x hu hx => d.mono hs (h.el i u x hu hx)⟩
theorem OR.shape (h : OR d S w e v us xs) : ∃ A c, v = .slice A xs.length c ∧ xs.length ≤ c ∧ c ≤ maxLen := by
  rw [← h.len]; exact h.row.shape
theorem OR.lit (hr : us.length = xs.length) (hm : us.length ≤ maxLen) (h : ∀ (i : Nat) (u : Value) (x : α), us[i]? = some u → xs[i]? = some x → d.R S (w.alloc (.cells us.toArray e)) x [u]) :
    OR d S (w.alloc (.cells us.toArray e)) e (.slice (some ⟨w.heap.size, 0, none⟩) us.length us.length) us xs := ⟨Row.lit us hm, hr, h⟩
/-- More behind it. -/
theorem OR.app (h : OR d S w e v us xs) (hk : ∀ k, S k → w'.heap[k]? = w.heap[k]?) (hs : ∀ k, S k → S' k) (hr : Row w' e v' (us ++ us')) (hl : us'.length = xs'.length)
    (h' : ∀ (i : Nat) (u : Value) (x : α), us'[i]? = some u → xs'[i]? = some x → d.R S' w' x [u]) : OR d S' w' e v' (us ++ us') (xs ++ xs') := by
  refine ⟨hr, by rw [List.length_append, List.length_append, h.len, hl], fun i u x hu hx => ?_⟩
  by_cases hi : i < us.length
  · rw [List.getElem?_append_left hi] at hu
    rw [List.getElem?_append_left (by rw [← h.len]; exact hi)] at hx
    exact d.mono hs (d.keep hk (h.el i u x hu hx))
  · rw [List.getElem?_append_right (by omega)] at hu
    rw [List.getElem?_append_right (by rw [← h.len]; omega), ← h.len] at hx
    exact h' _ u x hu hx
theorem OR.rd {A : Option Addr} {n c : Nat} (hd : d.sz = 1) (h : OR d S w e (.slice A n c) us xs) : RdL d (fun k => S k ∨ (Value.slice A n c).ownBlock = some k) w A xs := fun hp => by
  rcases h.row.2 with ⟨_, hn⟩ | ⟨g, cap, cur, hv, _, hh, _⟩
  · have := h.len; omega
  · injection hv with hv1 hv2 hv3
    have hg : (Value.slice A n c).ownBlock = some g := by rw [hv1]; rfl
    refine ⟨g, 0, hv1, .inr hg, fun i x hx => ?_⟩
    have hi : i < us.length := by
      have := (List.getElem?_eq_some_iff.1 hx).1
      have := h.len
      omega
    refine ⟨[us[i]], d.mono (fun k hk => .inl hk) (h.el i us[i] x (List.getElem?_eq_getElem hi) hx), fun j u hu => ?_⟩
    cases j with
    | zero =>
      simp at hu; subst hu
      have := World.ownsRow.cells h.row hg i us[i] (List.getElem?_eq_getElem hi)
      rw [hd, Nat.mul_one, Nat.zero_add, Nat.add_zero]
      unfold Addr.add at this
      split at this
      · rename_i h0; subst h0; simpa using this
      · simpa using this
    | succ j => simp at hu
/-- An element's cell. -/
theorem OR.cell {A : Option Addr} {n c : Nat} (h : OR d S w e (.slice A n c) us xs) {i : Nat} (hi : i < xs.length) :
    ∃ b u, A = some ⟨b, 0, none⟩ ∧ (Value.slice A n c).ownBlock = some b ∧ us[i]? = some u ∧ w.cell? ⟨b, i, none⟩ = some u ∧ d.R S w xs[i] [u] := by
  rcases h.row.2 with ⟨_, hn⟩ | ⟨g, cap, cur, hv, _, hh, _⟩
  · have := h.len; omega
  · injection hv with hv1 hv2 hv3
    have hg : (Value.slice A n c).ownBlock = some g := by rw [hv1]; rfl
    have hi' : i < us.length := by have := h.len; omega
    refine ⟨g, us[i], hv1, hg, List.getElem?_eq_getElem hi', ?_, h.el i us[i] xs[i] (List.getElem?_eq_getElem hi') (List.getElem?_eq_getElem hi)⟩
    have := World.ownsRow.cells h.row hg i us[i] (List.getElem?_eq_getElem hi')
    unfold Addr.add at this
    split at this
    · rename_i h0; subst h0; simpa using this
    · simpa using this
end
/-- append, as one step of a region. -/
theorem step_app {P : Program} {ops : Array Oper} {o : Oper} {a : Act} {w : World} {K : Act → World → Prop} {Q : Exit → Act → World → Prop} {X : Prop} (hg : o.guard = none) (N : Tmp) (_hN : o.dst = some N) (s x : Operand) (t : TypeId)
    (ho : o.op = .call { callee := .builtin .append, args := #[s, x], argTypes := #[t, t] }) {e : TypeId} {z : Value} {bytes : Nat} (ht : P.underlying t = some (.slice e)) (hi : (P.info? e).map (fun i => (i.zero, i.size, i.bytes)) = some (some z, 1, bytes)) (hz : z.cells.size = 1)
    {v : Value} {us : List Value} (hv : a.eval s = v) (hown : Row w e v us) {A : Option Addr} {c : Nat} {news : List Value} (hx : a.eval x = .slice A news.length c) (hs : Src w A news) (h1 : ∀ u ∈ news, u.oneCell' = true)
    (hb : (us.length + news.length) * bytes ≤ 140737488355328) (hl : us.length + news.length ≤ maxLen)
    (h : ∀ v' w', Row w' e v' (us ++ news) → w.grownBy w' v.ownBlock → (v'.ownBlock = v.ownBlock ∨ v'.ownBlock = some w.heap.size) → K (a.put (some N) v') w') : if Region.wanted o (yielded ops a.tmps) = true then Oper.wp P o a w K Q else X := by
  rw [if_pos (by simp [Region.wanted, hg])]
  exact op_app N _hN s x t ho ht hi hz hv hown hx hs h1 hb hl h
/-- append onto an empty literal, as one step of a region. -/
theorem step_app_lit {P : Program} {ops : Array Oper} {o : Oper} {a : Act} {w : World} {K : Act → World → Prop} {Q : Exit → Act → World → Prop} {X : Prop} (hg : o.guard = none) (N : Tmp) (_hN : o.dst = some N) (s x : Operand) (t : TypeId)
    (ho : o.op = .call { callee := .builtin .append, args := #[s, x], argTypes := #[t, t] }) {e : TypeId} {z : Value} {bytes : Nat} (ht : P.underlying t = some (.slice e)) (hi : (P.info? e).map (fun i => (i.zero, i.size, i.bytes)) = some (some z, 1, bytes)) (hz : z.cells.size = 1)
    {g : Nat} (hv : a.eval s = .slice (some ⟨g, 0, none⟩) 0 0) {A : Option Addr} {c : Nat} {news : List Value} (hx : a.eval x = .slice A news.length c) (hs : Src w A news) (h1 : ∀ u ∈ news, u.oneCell' = true)
    (hb : news.length * bytes ≤ 281474976710656) (hl : news.length ≤ maxLen)
    (h : ∀ v' w', NewV e w w' v' news → K (a.put (some N) v') w') : if Region.wanted o (yielded ops a.tmps) = true then Oper.wp P o a w K Q else X := by
  rw [if_pos (by simp [Region.wanted, hg])]
  exact op_app_lit N _hN s x t ho ht hi hz hv hx hs h1 hb hl h
end Go.Proofs.Ytehkdionodnhjaa
