/- Bytes that can be written, whatever they are: slices of bytes in a set of blocks. -/
import Derived.Test.YtehkdionodnhjaaOws
set_option linter.unusedVariables false
set_option linter.unusedSimpArgs false
namespace Go.Proofs.Ytehkdionodnhjaa
open Go.RowKit

theorem set_blk {w : World} {g : Nat} {t : TypeId} {cs : Array Value} (h : w.heap[g]? = some (.cells cs t (0, 0))) (i : Nat) (u : Value) : (w.setCell ⟨g, i, none⟩ u).heap[g]? = some (.cells (cs.setIfInBounds i u) t (0, 0)) := by
  simp [World.setCell, Array.getElem?_modify, h]
/-- u is a slice of n bytes that can be written, in a block of S. -/
def WB (S : Nat → Prop) (w : World) (u : Value) (n : Nat) : Prop :=
  ∃ A c, u = .slice A n c ∧ n ≤ c ∧ c ≤ maxLen ∧ (0 < n → ∃ g off cs e, A = some ⟨g, off, none⟩ ∧ S g ∧ w.heap[g]? = some (.cells cs e (0, 0)) ∧ ∀ i, i < n → ∃ x : UInt8, cs[off + i]? = some (encB x))
section
variable {S : Nat → Prop} {w w' : World} {u : Value} {n : Nat}
theorem WB.cell (h : WB S w u n) {j : Nat} (hj : j < n) : ∃ (g off : Nat) (x : UInt8) (c : Nat), u = .slice (some ⟨g, off, none⟩) n c ∧ n ≤ c ∧ c ≤ maxLen ∧ S g ∧ w.cell? ⟨g, off + j, none⟩ = some (.int .u8 (x.toNat : Int)) ∧ w.frozen? ⟨g, off + j, none⟩ = false := by
  obtain ⟨A, c, rfl, h1, h2, h3⟩ := h
  obtain ⟨g, off, cs, e, rfl, hs, hh, hx⟩ := h3 (by omega)
  obtain ⟨x, hx⟩ := hx j hj
  exact ⟨g, off, x, c, rfl, h1, h2, hs, by rw [cell_of_row w g _ cs e (0, 0) hh]; exact hx, by simp [World.frozen?, hh]⟩
theorem WB.set (h : WB S w u n) (g' j' : Nat) (y : UInt8) : WB S (w.setCell ⟨g', j', none⟩ (.int .u8 (y.toNat : Int))) u n := by
  obtain ⟨A, c, rfl, h1, h2, h3⟩ := h
  refine ⟨A, c, rfl, h1, h2, fun hp => ?_⟩
  obtain ⟨g, off, cs, e, rfl, hs, hh, hx⟩ := h3 hp
  by_cases hg : g = g'
  · subst hg
    refine ⟨g, off, _, e, rfl, hs, set_blk hh j' _, fun i hi => ?_⟩
    obtain ⟨x, hx⟩ := hx i hi
    rw [Array.getElem?_setIfInBounds]
    split
    · rename_i hij
      subst hij
      have hlt : off + i < cs.size := (Array.getElem?_eq_some_iff.1 hx).1
      rw [if_pos hlt]
      exact ⟨y, rfl⟩
    · exact ⟨x, hx⟩
  · exact ⟨g, off, cs, e, rfl, hs, (Below.heap_setCell w ⟨g', j', none⟩ _ g hg).trans hh, hx⟩
theorem WB.keep (h : WB S w u n) (hk : ∀ k, S k → w'.heap[k]? = w.heap[k]?) : WB S w' u n := by
  obtain ⟨A, c, rfl, h1, h2, h3⟩ := h
  refine ⟨A, c, rfl, h1, h2, fun hp => ?_⟩
  obtain ⟨g, off, cs, e, rfl, hs, hh, hx⟩ := h3 hp
  exact ⟨g, off, cs, e, rfl, hs, (hk g hs).trans hh, hx⟩
theorem WB.mono {S' : Nat → Prop} (h : WB S w u n) (hs : ∀ k, S k → S' k) : WB S' w u n := by
  obtain ⟨A, c, rfl, h1, h2, h3⟩ := h
  refine ⟨A, c, rfl, h1, h2, fun hp => ?_⟩
  obtain ⟨g, off, cs, e, rfl, hs', hh, hx⟩ := h3 hp
  exact ⟨g, off, cs, e, rfl, hs g hs', hh, hx⟩
theorem Kd.ow_wb {xs : List UInt8} (h : Kd.ow.R S w xs [u]) : WB S w u xs.length := by
  obtain ⟨A, c, e, h1, h2, h3⟩ := h
  injection e with e
  refine ⟨A, c, e, h1, h2, fun hp => ?_⟩
  obtain ⟨g, post, t, rfl, hs, hh⟩ := h3 hp
  refine ⟨g, 0, _, t, rfl, hs, hh, fun i hi => ⟨xs[i], ?_⟩⟩
  rw [Nat.zero_add, List.getElem?_toArray, List.getElem?_append_left (by simpa using hi), List.getElem?_map, List.getElem?_eq_getElem hi]; rfl
/-- A row of the call's own bytes can be written. -/
theorem Row.wb {e : TypeId} {v : Value} {xs : List UInt8} (h : Row w e v (xs.map encB)) : WB (fun k => v.ownBlock = some k) w v xs.length := by
  obtain ⟨A, c, rfl, h1, h2⟩ := h.shape
  rw [List.length_map] at h h1 ⊢
  obtain ⟨g, post, hw, ho, _⟩ := h.wr
  refine ⟨A, c, rfl, h1, h2, fun hp => ?_⟩
  obtain ⟨hA, hh⟩ := hw hp
  refine ⟨g, 0, _, e, by simpa using hA, ho hp, hh, fun i hi => ⟨xs[i], ?_⟩⟩
  simp [List.getElem?_append_left, hi, List.getElem?_map]
theorem NewV.wb {e : TypeId} {v : Value} {xs : List UInt8} (h : NewV e w w' v (xs.map encB)) : WB (fun k => w.heap.size ≤ k ∧ k < w'.heap.size) w' v xs.length := by
  obtain ⟨A, c, rfl, h1, h2, hb, h3⟩ := h
  rw [List.length_map] at h1 ⊢
  refine ⟨A, c, rfl, h1, h2, fun hp => ?_⟩
  rcases h3 with ⟨h3, rfl⟩ | ⟨rfl, hlt, rest, hr, hh⟩
  · have : xs = [] := by simpa using h3
    subst this; simp at hp
  · refine ⟨_, 0, _, e, rfl, ⟨Nat.le_refl _, hlt⟩, hh, fun i hi => ⟨xs[i], ?_⟩⟩
    simp [List.getElem?_append_left, hi, List.getElem?_map]
end
theorem inc8 (x : UInt8) : ∃ y : UInt8, IntKind.u8.wrap ((x.toNat : Int) + 1) = (y.toNat : Int) := ⟨x + 1, by
  rw [UInt8.toNat_add]; simp [IntKind.wrap, IntKind.bits, IntKind.signed]⟩
end Go.Proofs.Ytehkdionodnhjaa
