/- append onto an empty literal: new memory, of whatever slice of one-cell elements. -/
import Derived.Test.YtfkofhdgokhodaaByte
import Derived.Deep.AppendSrc
set_option linter.unusedVariables false
set_option linter.unusedSimpArgs false
namespace Go.Proofs.Ytfkofhdgokhodaa
open Go.RowKit

/-- v' holds us in new memory (none where there are none). -/
def NewV (e : TypeId) (w w' : World) (v' : Value) (us : List Value) : Prop :=
  ∃ A c, v' = .slice A us.length c ∧ us.length ≤ c ∧ c ≤ maxLen ∧ Below w.heap.size w w' ∧
    (us = [] ∧ w' = w ∨ A = some ⟨w.heap.size, 0, none⟩ ∧ w.heap.size < w'.heap.size ∧ ∃ rest : List Value, rest.length + us.length = c ∧ w'.heap[w.heap.size]? = some (.cells (us ++ rest).toArray e (0, 0)))

section
variable {P : Program} {w : World}
theorem run_app_lit {t : TypeId} (ty : TypeId) {e : TypeId} {z : Value} {bytes : Nat} (ht : P.underlying t = some (.slice e)) (hi : (P.info? e).map (fun i => (i.zero, i.size, i.bytes)) = some (some z, 1, bytes)) (hz : z.cells.size = 1)
    (g : Nat) {A : Option Addr} (c : Nat) {news : List Value} (hs : Src w A news) (h1 : ∀ u ∈ news, u.oneCell' = true)
    (hb : news.length * bytes ≤ 281474976710656) (hl : news.length ≤ maxLen) :
    ∃ v' w', (Builtin.append_ #[t, t] ty #[.slice (some ⟨g, 0, none⟩) 0 0, .slice A news.length c]).run P w = .ok v' w' ∧ NewV e w w' v' news := by
  obtain ⟨i, hi, hzz⟩ := Option.map_eq_some_iff.1 hi
  simp only [Prod.mk.injEq] at hzz
  obtain ⟨hz0, hz1, hz2⟩ := hzz
  rcases Nat.eq_zero_or_pos news.length with h0 | h0
  · have hn : news = [] := List.eq_nil_of_length_eq_zero h0
    subst hn
    refine ⟨.slice (some ⟨g, 0, none⟩) 0 0, w, ?_, some ⟨g, 0, none⟩, 0, rfl, Nat.le_refl _, by simp [maxLen], Below.refl _ _, .inl ⟨rfl, rfl⟩⟩
    cases A with
    | none => simp [Builtin.append_, run_underlying ht, sizeOf, typeInfo, hi, Builtin.lenOf, Builtin.firstCells, storeCells]
    | some ad => simp [Builtin.append_, run_underlying ht, sizeOf, typeInfo, hi, Builtin.lenOf, Builtin.firstCells, storeCells, loadCells, loadCellsFrom]
  · obtain ⟨ad, rfl, hc⟩ := hs h0
    have hfit : Builtin.nextslicecap (0 + news.length) 0 * i.bytes ≤ 281474976710656 := by
      rw [Nat.zero_add, nextslicecap_zero h0, hz2]; exact hb
    have hr := run_append_grow_src (P := P) w t t ty e i z ht hi hz0 (some ⟨g, 0, none⟩) 0 0 [] (by simp [Builtin.firstCells, loadCells, loadCellsFrom]) (.slice (some ad) news.length c) news.length news
      (Go.Src.ofSlice w ht ad news.length c news (by rw [hz1, Nat.mul_one]) hc h1) (by omega) (by unfold maxLen at hl; omega) hfit
    simp only [Nat.zero_add, List.nil_append] at hr
    have hge := grownCap_ge w news.length 0 e
    refine ⟨_, _, hr, _, _, rfl, hge, grownCap_le_maxLen w _ 0 e hl, (Below.refl w.heap.size w).drew.alloc (Nat.le_refl _) _, .inr ⟨rfl, by simp, (Builtin.zeroCells z.cells (grownCap w news.length 0 e - news.length)).toList, ?_, ?_⟩⟩
    · rw [Array.length_toList, size_zeroCells, hz]; omega
    · rw [show (w.drew.alloc (.cells (news.toArray ++ Builtin.zeroCells z.cells (grownCap w news.length 0 e - news.length)) e)).heap[w.heap.size]? = _ from heap_alloc_new w.drew _]
      congr 2
      apply Array.ext'
      simp

/-- One operation. -/
theorem op_app_lit {o : Oper} {a : Act} {K : Act → World → Prop} {Q : Exit → Act → World → Prop} (N : Tmp) (_hN : o.dst = some N) (s x : Operand) (t : TypeId)
    (ho : o.op = .call { callee := .builtin .append, args := #[s, x], argTypes := #[t, t] }) {e : TypeId} {z : Value} {bytes : Nat} (ht : P.underlying t = some (.slice e)) (hi : (P.info? e).map (fun i => (i.zero, i.size, i.bytes)) = some (some z, 1, bytes)) (hz : z.cells.size = 1)
    {g : Nat} (hv : a.eval s = .slice (some ⟨g, 0, none⟩) 0 0) {A : Option Addr} {c : Nat} {news : List Value} (hx : a.eval x = .slice A news.length c) (hs : Src w A news) (h1 : ∀ u ∈ news, u.oneCell' = true)
    (hb : news.length * bytes ≤ 281474976710656) (hl : news.length ≤ maxLen)
    (h : ∀ v' w', NewV e w w' v' news → K (a.put (some N) v') w') : o.wp P a w K Q := by
  rw [← _hN] at h
  obtain ⟨v', w', hrun, h2⟩ := run_app_lit (P := P) o.type ht hi hz g c hs h1 hb hl
  unfold Oper.wp execOp
  simp only [ho, resolve, invoke, builtin, Sem.run_bind, Sem.run_pure, Result.andThen_ok, List.map_toArray, List.map_cons, List.map_nil, hv, hx, hrun]
  exact h v' w' h2
theorem wp_app_lit {ops : Array Oper} {rest : List Oper} {o : Oper} {a : Act} {Q : Exit → Act → World → Prop} (N : Tmp) (_hN : o.dst = some N) (hgd : o.guard = none) (s x : Operand) (t : TypeId)
    (ho : o.op = .call { callee := .builtin .append, args := #[s, x], argTypes := #[t, t] }) {e : TypeId} {z : Value} {bytes : Nat} (ht : P.underlying t = some (.slice e)) (hi : (P.info? e).map (fun i => (i.zero, i.size, i.bytes)) = some (some z, 1, bytes)) (hz : z.cells.size = 1)
    {g : Nat} (hv : a.eval s = .slice (some ⟨g, 0, none⟩) 0 0) {A : Option Addr} {c : Nat} {news : List Value} (hx : a.eval x = .slice A news.length c) (hs : Src w A news) (h1 : ∀ u ∈ news, u.oneCell' = true)
    (hb : news.length * bytes ≤ 281474976710656) (hl : news.length ≤ maxLen)
    (h : ∀ v' w', NewV e w w' v' news → wpList P ops Q rest (a.put (some N) v') w') : wpList P ops Q (o :: rest) a w :=
  wpList_plain hgd fun K hK => op_app_lit N _hN s x t ho ht hi hz hv hx hs h1 hb hl (fun v' w' hn => hK _ _ (h v' w' hn))
end

/-- New bytes are written from their head, in every later world. -/
theorem NewV.wr {e : TypeId} {w w' : World} {v' : Value} {ts : List UInt8} (h : NewV e w w' v' (ts.map encB)) : ∃ A g post c, v' = .slice A ts.length c ∧ ts.length ≤ c ∧ c ≤ maxLen ∧ Below w.heap.size w w' ∧ w.heap.size ≤ g ∧
    (0 < ts.length → g < w'.heap.size ∧ post.length + ts.length = c) ∧ ∀ x, Below w'.heap.size w' x → Wr x A g [] post e ts := by
  obtain ⟨A, c, rfl, h1, h2, hb, h3⟩ := h
  rw [List.length_map] at h1
  rcases h3 with ⟨h3, rfl⟩ | ⟨rfl, hlt, rest, hr, hh⟩
  · have : ts = [] := by simpa using h3
    subst this
    exact ⟨A, _, [], c, rfl, h1, h2, hb, Nat.le_refl _, fun h => absurd h (by simp), fun x _ hp => absurd hp (by simp)⟩
  · refine ⟨_, w.heap.size, rest, c, by rw [List.length_map]; rfl, h1, h2, hb, Nat.le_refl _, fun _ => ⟨hlt, by simpa using hr⟩, fun x hx hp => ⟨rfl, ?_⟩⟩
    rw [hx.block _ hlt, hh]; rfl
end Go.Proofs.Ytfkofhdgokhodaa
