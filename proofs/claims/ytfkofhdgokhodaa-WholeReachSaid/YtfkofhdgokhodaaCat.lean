/- Own rows of elements of whatever size: copied, two that change places. -/
import Derived.Test.YtfkofhdgokhodaaAppS
set_option linter.unusedVariables false
set_option linter.unusedSimpArgs false
namespace Go.Proofs.Ytfkofhdgokhodaa
open Go.RowKit

/-- append(v, l...), both rows of one kind. -/
theorem wp_cat {P : Program} {w : World} {α : Type} {d : Kd α} {S S2 : Nat → Prop} {ops : Array Oper} {rest : List Oper} {o : Oper} {a : Act} {Q : Exit → Act → World → Prop} (N : Tmp) (_hN : o.dst = some N) (hgd : o.guard = none) (s x : Operand) (t : TypeId)
    (ho : o.op = .call { callee := .builtin .append, args := #[s, x], argTypes := #[t, t] }) {e e2 : TypeId} {z : Value} {bytes : Nat} (ht : P.underlying t = some (.slice e)) (hi : (P.info? e).map (fun i => (i.zero, i.size, i.bytes)) = some (some z, d.sz, bytes)) (hz : z.cells.size = d.sz)
    {v : Value} (hv : a.eval s = v) (hown : ORow d S w e v []) {A : Option Addr} {m c : Nat} {ys : List α} (hx : a.eval x = .slice A m c) (hy : ORow d S2 w e2 (.slice A m c) ys) (hp : 0 < ys.length) (h1 : ∀ y ∈ ys, ∀ cs, d.R S2 w y cs → ∀ u ∈ cs, u.oneCell' = true)
    (hb : ys.length * bytes ≤ 140737488355328) (hl : ys.length ≤ maxLen) (hS : ∀ k, S2 k → k < w.heap.size ∧ some k ≠ v.ownBlock)
    (h : ∀ v' w', ORow d S2 w' e v' ys → w.grownBy w' v.ownBlock → (v'.ownBlock = v.ownBlock ∨ v'.ownBlock = some w.heap.size) → wpList P ops Q rest (a.put (some N) v') w') : wpList P ops Q (o :: rest) a w := by
  obtain ⟨i, hi, hzz⟩ := Option.map_eq_some_iff.1 hi
  simp only [Prod.mk.injEq] at hzz
  obtain ⟨hz0, hz1, hz2⟩ := hzz
  obtain ⟨us, h2, h3⟩ := hown
  obtain ⟨us2, h4, h5⟩ := hy
  have hus : us = [] := by
    have := h2.1; simp at this; exact this
  subst hus
  have hm : m = ys.length := by
    rcases h4.2 with ⟨h6, h7⟩ | ⟨g, cap, cur, h6, -⟩
    · omega
    · injection h6
  subst hm
  obtain ⟨g, hg⟩ : ∃ g, A = some ⟨g, 0, none⟩ := by
    rcases h4.2 with ⟨h6, h7⟩ | ⟨g, cap, cur, h6, -⟩
    · omega
    · injection h6 with h6; exact ⟨g, h6⟩
  subst hg
  have hone : ∀ u ∈ us2, u.oneCell' = true := fun u hu => by
    obtain ⟨q, hq, rfl⟩ := List.getElem_of_mem hu
    have hql : q < ys.length * d.sz := by rw [← h4.1]; exact hq
    have hpos := d.pos
    have hqd : q / d.sz < ys.length := Nat.div_lt_of_lt_mul (by rw [Nat.mul_comm]; exact hql)
    obtain ⟨cs, hr, hc⟩ := h5 (q / d.sz) ys[q / d.sz] (List.getElem?_eq_getElem hqd)
    have hmod := Nat.mod_lt q hpos
    have hcl := d.len hr
    have := hc (q % d.sz) (cs[q % d.sz]'(by omega)) (List.getElem?_eq_getElem (by omega))
    rw [Nat.div_add_mod' q d.sz, List.getElem?_eq_getElem hq] at this
    injection this with this
    rw [this]
    exact h1 _ (List.getElem_mem hqd) cs hr _ (List.getElem_mem _)
  refine wpList_append_own_at w hgd s x t ho 0 e i z d.sz bytes ht hi hz0 hz1 hz2 hz d.pos v 0 [] hv h2 ⟨g, 0, none⟩ ys.length c us2 hx h4.1 (World.ownsRow.cells h4 rfl) hone (by omega) (by rw [Nat.zero_add]; exact hb) (Nat.zero_le _) fun v' w' q1 q2 q3 q4 => ?_
  rw [_hN]
  refine h v' w' ⟨us2, by simpa using q1, fun i' y' hy' => ?_⟩ q2 q4
  obtain ⟨cs, hr, hc⟩ := h5 i' y' hy'
  exact ⟨cs, d.keep (fun k hk => q2.block k (hS k hk).1 (hS k hk).2) hr, hc⟩
theorem orow_lit0 {α : Type} {d : Kd α} {S : Nat → Prop} (w : World) (e : TypeId) : ORow d S (w.alloc (.cells #[] e)) e (.slice (some ⟨w.heap.size, 0, none⟩) 0 0) [] :=
  ⟨[], ⟨by simp, .inr ⟨_, _, _, rfl, Nat.zero_le _, heap_alloc_new w _, Nat.le_refl _, by unfold maxLen; omega, by simp, by simp⟩⟩, fun i x hx => by simp at hx⟩
theorem own_set {w : World} {e : TypeId} {size n m : Nat} {v : Value} {us : List Value} {g : Nat} (h : w.ownsRow 0 e size v n us) (hg : v.ownBlock = some g) (hm : m < us.length) (u : Value) :
    w.cell? ⟨g, m, none⟩ = some us[m] ∧ w.frozen? ⟨g, m, none⟩ = false ∧ (w.setCell ⟨g, m, none⟩ u).ownsRow 0 e size v n (us.set m u) := by
  rcases h.2 with ⟨rfl, hn⟩ | ⟨g', cap, cur, rfl, hb, hh, h1, h2, h3, h4⟩
  · cases hg
  · obtain rfl : g' = g := by simpa [Value.ownBlock] using hg
    have hci : cur[m]? = some us[m] := by
      have e1 : (List.take (n * size) cur.toList)[m]? = us[m]? := by rw [h4]
      rw [List.getElem?_take_of_lt (by rw [← h.1]; exact hm), Array.getElem?_toList, List.getElem?_eq_getElem hm] at e1
      exact e1
    refine ⟨by rw [cell_of_row w g' _ cur e (0, 0) hh]; exact hci, by simp [World.frozen?, hh], by rw [List.length_set]; exact h.1, .inr ⟨g', cap, cur.setIfInBounds m u, rfl, hb, ?_, h1, h2, by rw [Array.size_setIfInBounds, h3], ?_⟩⟩
    · simp [World.setCell, Array.getElem?_modify, hh]
    · rw [Array.toList_setIfInBounds, List.take_set, h4]
/-- An element of two cells is set anew. -/
theorem orow_set2 {α : Type} {d : Kd α} {S : Nat → Prop} {w : World} {e : TypeId} {zo L co f : Nat} {l : List α} (hsz : d.sz = 2) (h : ORow d S w e (.slice (some ⟨zo, 0, none⟩) L co) l) (hf : f < l.length) (u1 : Value) :
    (∃ u, w.cell? ⟨zo, f * 2, none⟩ = some u) ∧ w.frozen? ⟨zo, f * 2, none⟩ = false ∧ (∃ u, (w.setCell ⟨zo, f * 2, none⟩ u1).cell? ⟨zo, f * 2 + 1, none⟩ = some u) ∧ (w.setCell ⟨zo, f * 2, none⟩ u1).frozen? ⟨zo, f * 2 + 1, none⟩ = false ∧
    ∀ (u2 : Value) (y : α) (S' : Nat → Prop), (∀ k, S k → S' k) → (∀ k, S' k → k ≠ zo) → d.R S' w y [u1, u2] → ORow d S' ((w.setCell ⟨zo, f * 2, none⟩ u1).setCell ⟨zo, f * 2 + 1, none⟩ u2) e (.slice (some ⟨zo, 0, none⟩) L co) (l.set f y) := by
  obtain ⟨us, h1, h2⟩ := h
  have hul := h1.1
  rw [hsz] at hul
  obtain ⟨a1, a2, a3⟩ := own_set h1 rfl (m := f * 2) (by omega) u1
  refine ⟨⟨_, a1⟩, a2, ?_⟩
  obtain ⟨b1, b2, -⟩ := own_set a3 rfl (m := f * 2 + 1) (by rw [List.length_set]; omega) u1
  refine ⟨⟨_, b1⟩, b2, fun u2 y S' hS hz hy => ?_⟩
  obtain ⟨-, -, b3⟩ := own_set a3 rfl (m := f * 2 + 1) (by rw [List.length_set]; omega) u2
  have hk : ∀ k, S' k → ((w.setCell ⟨zo, f * 2, none⟩ u1).setCell ⟨zo, f * 2 + 1, none⟩ u2).heap[k]? = w.heap[k]? := fun k hk => by
    rw [Below.heap_setCell _ _ _ _ (hz k hk), Below.heap_setCell _ _ _ _ (hz k hk)]
  refine ⟨_, by rw [List.length_set]; exact b3, fun i x hx => ?_⟩
  rw [List.getElem?_set] at hx
  rw [hsz]
  split at hx
  · rename_i e1
    subst e1
    try rw [if_pos hf] at hx
    injection hx with hx
    subst hx
    refine ⟨[u1, u2], d.keep hk hy, fun j u hu => ?_⟩
    match j, hu with
    | 0, hu =>
      simp at hu; subst hu
      rw [show f * 2 + 0 = f * 2 from rfl, List.getElem?_set_ne (by omega), List.getElem?_set_self (by omega)]
    | 1, hu =>
      simp at hu; subst hu
      rw [List.getElem?_set_self (by rw [List.length_set]; omega)]
    | j + 2, hu => simp at hu
  · rename_i e1
    obtain ⟨cs, hr, hc⟩ := h2 i x hx
    refine ⟨cs, d.keep hk (d.mono hS hr), fun j u hu => ?_⟩
    have hj : j < 2 := by
      have := d.len hr
      have := (List.getElem?_eq_some_iff.1 hu).1
      rw [hsz] at *; omega
    rw [List.getElem?_set_ne (by omega), List.getElem?_set_ne (by omega)]
    have := hc j u hu
    rwa [hsz] at this
theorem ORow.addr {α : Type} {d : Kd α} {S : Nat → Prop} {w : World} {e : TypeId} {A : Option Addr} {n c : Nat} {xs : List α} (h : ORow d S w e (.slice A n c) xs) (hp : 0 < xs.length) : ∃ z, A = some ⟨z, 0, none⟩ := by
  obtain ⟨us, h1, -⟩ := h
  rcases h1.2 with ⟨-, h2⟩ | ⟨g, cap, cur, h2, -⟩
  · omega
  · injection h2 with h2; exact ⟨g, h2⟩
/-- An element of two cells, read. -/
theorem orow_get2 {α : Type} {d : Kd α} {S : Nat → Prop} {w : World} {e : TypeId} {zo L co f : Nat} {l : List α} (hsz : d.sz = 2) (h : ORow d S w e (.slice (some ⟨zo, 0, none⟩) L co) l) (hf : f < l.length) :
    ∃ u1 u2, d.R S w l[f] [u1, u2] ∧ w.cell? ⟨zo, f * 2, none⟩ = some u1 ∧ w.cell? ⟨zo, f * 2 + 1, none⟩ = some u2 := by
  obtain ⟨us, h1, h2⟩ := h
  obtain ⟨cs, hr, hc⟩ := h2 f l[f] (List.getElem?_eq_getElem hf)
  have hl := d.len hr
  rw [hsz] at hl hc
  match cs, hl with
  | [u1, u2], _ =>
    have c0 := World.ownsRow.cells h1 rfl _ u1 (hc 0 u1 rfl)
    have c1 := World.ownsRow.cells h1 rfl _ u2 (hc 1 u2 rfl)
    refine ⟨u1, u2, hr, ?_, ?_⟩
    · unfold Addr.add at c0
      split at c0
      · rename_i h0; simpa [show f = 0 by omega] using c0
      · simpa using c0
    · unfold Addr.add at c1
      split at c1
      · omega
      · simpa using c1
/-- Two elements of two cells change places. -/
theorem orow_swap {α : Type} {d : Kd α} {S : Nat → Prop} {w : World} {e : TypeId} {zo L co i k : Nat} {l : List α} (hsz : d.sz = 2) (h : ORow d S w e (.slice (some ⟨zo, 0, none⟩) L co) l) (hS : ∀ z, S z → z ≠ zo) (hi : i < l.length) (hk : k < l.length) :
    ∃ p1 p2 q1 q2, (d.R S w l[i] [p1, p2] ∧ d.R S w l[k] [q1, q2]) ∧ (w.cell? ⟨zo, i * 2, none⟩ = some p1 ∧ w.cell? ⟨zo, i * 2 + 1, none⟩ = some p2 ∧ w.cell? ⟨zo, k * 2, none⟩ = some q1 ∧ w.cell? ⟨zo, k * 2 + 1, none⟩ = some q2) ∧
      ((∃ u, w.cell? ⟨zo, i * 2, none⟩ = some u) ∧ w.frozen? ⟨zo, i * 2, none⟩ = false ∧ (∃ u, (w.setCell ⟨zo, i * 2, none⟩ q1).cell? ⟨zo, i * 2 + 1, none⟩ = some u) ∧ (w.setCell ⟨zo, i * 2, none⟩ q1).frozen? ⟨zo, i * 2 + 1, none⟩ = false) ∧
      ((∃ u, ((w.setCell ⟨zo, i * 2, none⟩ q1).setCell ⟨zo, i * 2 + 1, none⟩ q2).cell? ⟨zo, k * 2, none⟩ = some u) ∧ ((w.setCell ⟨zo, i * 2, none⟩ q1).setCell ⟨zo, i * 2 + 1, none⟩ q2).frozen? ⟨zo, k * 2, none⟩ = false ∧
        (∃ u, (((w.setCell ⟨zo, i * 2, none⟩ q1).setCell ⟨zo, i * 2 + 1, none⟩ q2).setCell ⟨zo, k * 2, none⟩ p1).cell? ⟨zo, k * 2 + 1, none⟩ = some u) ∧ (((w.setCell ⟨zo, i * 2, none⟩ q1).setCell ⟨zo, i * 2 + 1, none⟩ q2).setCell ⟨zo, k * 2, none⟩ p1).frozen? ⟨zo, k * 2 + 1, none⟩ = false) ∧
      ORow d S ((((w.setCell ⟨zo, i * 2, none⟩ q1).setCell ⟨zo, i * 2 + 1, none⟩ q2).setCell ⟨zo, k * 2, none⟩ p1).setCell ⟨zo, k * 2 + 1, none⟩ p2) e (.slice (some ⟨zo, 0, none⟩) L co) ((l.set i l[k]).set k l[i]) := by
  obtain ⟨p1, p2, r1, a1, a2⟩ := orow_get2 hsz h hi
  obtain ⟨q1, q2, r2, b1, b2⟩ := orow_get2 hsz h hk
  obtain ⟨c1, c2, c3, c4, c5⟩ := orow_set2 hsz h hi q1
  have h2 := c5 q2 l[k] S (fun _ h => h) hS r2
  have hk2 : k < (l.set i l[k]).length := by rw [List.length_set]; exact hk
  obtain ⟨d1, d2, d3, d4, d5⟩ := orow_set2 hsz h2 hk2 p1
  have hk : ∀ z, S z → ((w.setCell ⟨zo, i * 2, none⟩ q1).setCell ⟨zo, i * 2 + 1, none⟩ q2).heap[z]? = w.heap[z]? := fun z hz => by
    rw [Below.heap_setCell _ _ _ _ (hS z hz), Below.heap_setCell _ _ _ _ (hS z hz)]
  exact ⟨p1, p2, q1, q2, ⟨r1, r2⟩, ⟨a1, a2, b1, b2⟩, ⟨c1, c2, c3, c4⟩, ⟨d1, d2, d3, d4⟩, d5 p2 l[i] S (fun _ h => h) hS (d.keep hk r1)⟩
end Go.Proofs.Ytfkofhdgokhodaa
