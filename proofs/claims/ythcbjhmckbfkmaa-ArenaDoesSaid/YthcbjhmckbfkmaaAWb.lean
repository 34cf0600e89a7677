/- Rows of bytes in memory of their own, in a row of the call's own: made, laid, read. -/
import Derived.Test.YthcbjhmckbfkmaaAppS
import Derived.Laws.CopyOwn
import Derived.StillTailTactics
set_option linter.unusedVariables false
set_option linter.unusedSimpArgs false
namespace Go.Proofs.Ythcbjhmckbfkmaa
open Go.RowKit

theorem Ch.drewR {S : Nat → Prop} {w w' : World} (h : Ch S w w') : Ch S w { w' with drawn := w'.drawn + 1 } := ⟨h.os, h.tape, h.output, h.size, h.block⟩
/-- A slice of bytes from its block's head on; the block can be written. -/
def Kd.ow : Kd (List UInt8) where
  sz := 1
  R := fun S w xs cs => ∃ A c, cs = [.slice A xs.length c] ∧ xs.length ≤ c ∧ c ≤ maxLen ∧ (0 < xs.length → ∃ g post e, A = some ⟨g, 0, none⟩ ∧ S g ∧ w.heap[g]? = some (.cells (xs.map encB ++ post).toArray e (0, 0)))
  pos := by omega
  len := fun ⟨A, c, h, _⟩ => by rw [h]; rfl
  keep := fun hk ⟨A, c, h, h1, h2, h3⟩ => ⟨A, c, h, h1, h2, fun hp => by
    obtain ⟨g, post, e, ha, hs, hh⟩ := h3 hp
    exact ⟨g, post, e, ha, hs, (hk g hs).trans hh⟩⟩
  mono := fun hs ⟨A, c, h, h1, h2, h3⟩ => ⟨A, c, h, h1, h2, fun hp => by
    obtain ⟨g, post, e, ha, hs', hh⟩ := h3 hp
    exact ⟨g, post, e, ha, hs g hs', hh⟩⟩
theorem Kd.ow_nil {S : Nat → Prop} {w : World} {A : Option Addr} {c : Nat} (hc : c ≤ maxLen) : Kd.ow.R S w [] [.slice A 0 c] := ⟨A, c, rfl, Nat.zero_le _, hc, fun h => absurd h (by simp)⟩
theorem Kd.ow_sl {S : Nat → Prop} {w : World} {xs : List UInt8} {cs : List Value} (h : Kd.ow.R S w xs cs) : (Kd.sl Kd.byte).R S w xs cs := by
  obtain ⟨A, c, e, h1, h2, h3⟩ := h
  refine ⟨A, c, e, h1, h2, fun hp => ?_⟩
  obtain ⟨g, post, t, rfl, hs, hh⟩ := h3 hp
  refine RdL.block1 (d := Kd.byte) (xs := xs) rfl hh hs (fun i x hx => ⟨encB x, ?_, _, rfl, rfl⟩) hp
  rw [List.getElem?_toArray, List.getElem?_append_left (by have := (List.getElem?_eq_some_iff.1 hx).1; simpa using this), List.getElem?_map, hx]; rfl
theorem RdL.conv {α : Type} {d d' : Kd α} {S : Nat → Prop} {w : World} {A : Option Addr} {xs : List α} (h : RdL d S w A xs) (hz : d.sz = d'.sz) (hc : ∀ x cs, d.R S w x cs → d'.R S w x cs) : RdL d' S w A xs := fun hp => by
  obtain ⟨b, off, e, hs, hx⟩ := h hp
  refine ⟨b, off, e, hs, fun i x hi => ?_⟩
  obtain ⟨cs, hr, hcell⟩ := hx i x hi
  exact ⟨cs, hc x cs hr, fun j u hu => by rw [← hz]; exact hcell j u hu⟩
theorem ORow.rdsl {S : Nat → Prop} {w : World} {e : TypeId} {A : Option Addr} {n c : Nat} {xs : List (List UInt8)} (h : ORow Kd.ow S w e (.slice A n c) xs) : RdL (Kd.sl Kd.byte) (fun k => S k ∨ (Value.slice A n c).ownBlock = some k) w A xs :=
  h.rd.conv rfl fun _ _ => Kd.ow_sl
theorem ORow.mono {α : Type} {d : Kd α} {S S' : Nat → Prop} {w : World} {e : TypeId} {v : Value} {xs : List α} (h : ORow d S w e v xs) (hs : ∀ k, S k → S' k) : ORow d S' w e v xs := by
  obtain ⟨us, h1, h2⟩ := h
  refine ⟨us, h1, fun i x hx => ?_⟩
  obtain ⟨cs, hr, hc⟩ := h2 i x hx
  exact ⟨cs, d.mono hs hr, hc⟩
/-- One element anew. -/
theorem ORow.put {α : Type} {d : Kd α} {S S' : Nat → Prop} {w w' : World} {e : TypeId} {g n c i : Nat} {xs : List α} {x : α} {u : Value} (hz : d.sz = 1) (h : ORow d S w e (.slice (some ⟨g, 0, none⟩) n c) xs) (hi : i < xs.length)
    (hS : ∀ k, S k → w'.heap[k]? = w.heap[k]?) (hg : w'.heap[g]? = (w.setCell ⟨g, i, none⟩ u).heap[g]?) (hr : d.R S' w' x [u]) (hs : ∀ k, S k → S' k) : ORow d S' w' e (.slice (some ⟨g, 0, none⟩) n c) (xs.set i x) := by
  obtain ⟨us, h1, h2⟩ := h
  have hl := h1.1
  rw [hz, Nat.mul_one] at hl
  refine ⟨us.set i u, ⟨by simp [hz, hl], ?_⟩, fun j y hy => ?_⟩
  · rcases h1.2 with ⟨h3, _⟩ | ⟨g', cap, cur, hv, hg', hh, r1, r2, r3, r4⟩
    · cases h3
    · injection hv with e1 e2 e3
      injection e1 with e1
      injection e1 with e1 _ _
      subst e1
      refine .inr ⟨g, cap, cur.setIfInBounds i u, by rw [e2, e3, List.length_set], hg', ?_, by simpa using r1, r2, by simpa using r3, ?_⟩
      · rw [hg]; simp [World.setCell, Array.getElem?_modify, hh]
      · rw [List.length_set, hz, Nat.mul_one] at *
        rw [Array.toList_setIfInBounds, List.take_set, r4]
  · rw [List.getElem?_set] at hy
    by_cases hij : i = j
    · subst hij
      rw [if_pos rfl, if_pos hi] at hy
      injection hy with hy
      subst hy
      refine ⟨[u], hr, fun q v hq => ?_⟩
      cases q with
      | zero =>
        simp at hq
        subst hq
        rw [hz, Nat.mul_one, Nat.add_zero, List.getElem?_set_self (by omega)]
      | succ q => simp at hq
    · rw [if_neg hij] at hy
      obtain ⟨cs, hr', hc⟩ := h2 j y hy
      refine ⟨cs, d.mono hs (d.keep hS hr'), fun q v hq => ?_⟩
      have hcl := d.len hr'
      have hq0 : q < cs.length := (List.getElem?_eq_some_iff.1 hq).1
      have := hc q v hq
      rw [hz, Nat.mul_one] at this ⊢
      rw [List.getElem?_set_ne (by omega)]
      exact this
theorem pre_get {α : Type} {l1 l2 : List α} (h : l1 <+: l2) {i : Nat} {x : α} (hx : l1[i]? = some x) : l2[i]? = some x := by
  obtain ⟨t, rfl⟩ := h
  rw [List.getElem?_append_left (List.getElem?_eq_some_iff.1 hx).1]; exact hx
/-- An element's cell. -/
theorem ORow.cell1 {α : Type} {d : Kd α} {S : Nat → Prop} {w : World} {e : TypeId} {g n c i : Nat} {xs : List α} (hz : d.sz = 1) (h : ORow d S w e (.slice (some ⟨g, 0, none⟩) n c) xs) (hi : i < xs.length) :
    ∃ u, w.cell? ⟨g, i, none⟩ = some u ∧ w.frozen? ⟨g, i, none⟩ = false ∧ d.R S w xs[i] [u] := by
  obtain ⟨us, h1, h2⟩ := h
  obtain ⟨cs, hr, hc⟩ := h2 i xs[i] (List.getElem?_eq_getElem hi)
  have hl := d.len hr
  rw [hz] at hl
  match cs, hl with
  | [u], _ =>
    have hu := hc 0 u rfl
    rw [hz, Nat.mul_one, Nat.add_zero] at hu
    rcases h1.2 with ⟨h3, _⟩ | ⟨g', cap, cur, hv, hg', hh, r1, r2, r3, r4⟩
    · cases h3
    · injection hv with e1 e2 e3
      injection e1 with e1
      injection e1 with e1 _ _
      subst e1
      refine ⟨u, ?_, by simp [World.frozen?, hh], hr⟩
      rw [cell_of_row w g i _ _ (0, 0) hh, ← Array.getElem?_toList]
      rw [← r4] at hu
      exact pre_get (List.take_prefix _ _) hu
theorem ORow.made {S : Nat → Prop} (w : World) (e : TypeId) (n : Nat) (hn : n ≤ maxLen) : ORow Kd.ow S (w.alloc (.cells (madeCells #[.slice none 0 0] n) e)) e (.slice (some ⟨w.heap.size, 0, none⟩) n n) (List.replicate n []) := by
  refine ⟨List.replicate n (.slice none 0 0), ⟨by simp [Kd.ow], .inr ⟨_, _, _, by simp, Nat.zero_le _, heap_alloc_new w _, by simp, hn, ?_, ?_⟩⟩, fun i x hx => ?_⟩
  · have := congrArg List.length (toList_madeCells_one (.slice none 0 0) n)
    simp at this
    simp [this, Kd.ow]
  · rw [toList_madeCells_one]
    simp [Kd.ow]
  · rw [List.getElem?_replicate] at hx
    split at hx
    · rename_i hi
      injection hx with hx
      subst hx
      refine ⟨[.slice none 0 0], Kd.ow_nil (by simp [maxLen]), fun j u hu => ?_⟩
      cases j with
      | zero =>
        simp at hu
        subst hu
        rw [show Kd.ow.sz = 1 from rfl, Nat.mul_one, Nat.add_zero, List.getElem?_replicate, if_pos hi]
      | succ j => simp at hu
    · cases hx
/-- A cell set, and a block laid. -/
theorem set_alloc {w X : World} {g k : Nat} {u u0 : Value} {o : Obj} (hX : X = (w.setCell ⟨g, k, none⟩ u).alloc o) (hg : g < w.heap.size) (h0 : w.cell? ⟨g, k, none⟩ = some u0) :
    X.heap.size = w.heap.size + 1 ∧ X.cell? ⟨g, k, none⟩ = some u ∧ X.heap[w.heap.size]? = some o ∧ (∀ b, b < w.heap.size → b ≠ g → X.heap[b]? = w.heap[b]?) ∧ X.heap[g]? = (w.setCell ⟨g, k, none⟩ u).heap[g]? ∧ Ch (· = g) w X := by
  have hs : (w.setCell ⟨g, k, none⟩ u).heap.size = w.heap.size := by simp [World.setCell]
  subst hX
  have hb := fun b (hb : b < w.heap.size) => Below.heap_alloc (w.setCell ⟨g, k, none⟩ u) o b (by rw [hs]; exact hb)
  refine ⟨by simp [World.setCell], ?_, ?_, fun b h1 h2 => ?_, hb g hg, ?_⟩
  · rw [World.cell?_of_block (w := w.setCell ⟨g, k, none⟩ u) (hb g hg)]
    exact World.cell?_setCell_same w _ _ h0
  · rw [← hs]; exact heap_alloc_new _ _
  · rw [hb b h1]; exact Below.heap_setCell w _ _ b h2
  · exact (Ch.set w ⟨g, k, none⟩ u).trans (Ch.alloc (S := fun _ => False) _ o) fun b hb => hb.elim

theorem set_blk {w : World} {g : Nat} {t : TypeId} {cs : Array Value} (h : w.heap[g]? = some (.cells cs t (0, 0))) (i : Nat) (u : Value) : (w.setCell ⟨g, i, none⟩ u).heap[g]? = some (.cells (cs.setIfInBounds i u) t (0, 0)) := by
  simp [World.setCell, Array.getElem?_modify, h]
/-- u is a slice of n bytes that can be written, in a block of S. -/
def WB (S : Nat → Prop) (w : World) (u : Value) (n : Nat) : Prop :=
  ∃ A c, u = .slice A n c ∧ n ≤ c ∧ c ≤ maxLen ∧ (0 < n → ∃ g off cs e, A = some ⟨g, off, none⟩ ∧ S g ∧ w.heap[g]? = some (.cells cs e (0, 0)) ∧ ∀ i, i < n → ∃ x : UInt8, cs[off + i]? = some (encB x))
section
variable {S : Nat → Prop} {w w' : World} {u : Value} {n : Nat}
theorem WB.cell (h : WB S w u n) {j : Nat} (hj : j < n) : ∃ (g off : Nat) (x : UInt8) (c : Nat), u = .slice (some ⟨g, off, none⟩) n c ∧ n ≤ c ∧ c ≤ maxLen ∧ S g ∧ w.cell? ⟨g, off + j, none⟩ = some (.int .u8 (x.toNat : Int)) ∧ w.frozen? ⟨g, off + j, none⟩ = false := by
  obtain ⟨A, c, rfl, h1, h2, h3⟩ := h
  obtain ⟨g, off, cs, e, rfl, hs, hh, hx⟩ := h3 (by omega)
  obtain ⟨x, hx⟩ := hx j hj
  exact ⟨g, off, x, c, rfl, h1, h2, hs, by rw [cell_of_row w g _ cs e (0, 0) hh]; exact hx, by simp [World.frozen?, hh]⟩
theorem WB.set (h : WB S w u n) (g' j' : Nat) (y : UInt8) : WB S (w.setCell ⟨g', j', none⟩ (.int .u8 (y.toNat : Int))) u n := by
  obtain ⟨A, c, rfl, h1, h2, h3⟩ := h
  refine ⟨A, c, rfl, h1, h2, fun hp => ?_⟩
  obtain ⟨g, off, cs, e, rfl, hs, hh, hx⟩ := h3 hp
  by_cases hg : g = g'
  · subst hg
    refine ⟨g, off, _, e, rfl, hs, set_blk hh j' _, fun i hi => ?_⟩
    obtain ⟨x, hx⟩ := hx i hi
    rw [Array.getElem?_setIfInBounds]
    split
    · rename_i hij
      subst hij
      have hlt : off + i < cs.size := (Array.getElem?_eq_some_iff.1 hx).1
      rw [if_pos hlt]
      exact ⟨y, rfl⟩
    · exact ⟨x, hx⟩
  · exact ⟨g, off, cs, e, rfl, hs, (Below.heap_setCell w ⟨g', j', none⟩ _ g hg).trans hh, hx⟩
theorem WB.keep (h : WB S w u n) (hk : ∀ k, S k → w'.heap[k]? = w.heap[k]?) : WB S w' u n := by
  obtain ⟨A, c, rfl, h1, h2, h3⟩ := h
  refine ⟨A, c, rfl, h1, h2, fun hp => ?_⟩
  obtain ⟨g, off, cs, e, rfl, hs, hh, hx⟩ := h3 hp
  exact ⟨g, off, cs, e, rfl, hs, (hk g hs).trans hh, hx⟩
theorem WB.mono {S' : Nat → Prop} (h : WB S w u n) (hs : ∀ k, S k → S' k) : WB S' w u n := by
  obtain ⟨A, c, rfl, h1, h2, h3⟩ := h
  refine ⟨A, c, rfl, h1, h2, fun hp => ?_⟩
  obtain ⟨g, off, cs, e, rfl, hs', hh, hx⟩ := h3 hp
  exact ⟨g, off, cs, e, rfl, hs g hs', hh, hx⟩
theorem Kd.ow_wb {xs : List UInt8} (h : Kd.ow.R S w xs [u]) : WB S w u xs.length := by
  obtain ⟨A, c, e, h1, h2, h3⟩ := h
  injection e with e
  refine ⟨A, c, e, h1, h2, fun hp => ?_⟩
  obtain ⟨g, post, t, rfl, hs, hh⟩ := h3 hp
  refine ⟨g, 0, _, t, rfl, hs, hh, fun i hi => ⟨xs[i], ?_⟩⟩
  rw [Nat.zero_add, List.getElem?_toArray, List.getElem?_append_left (by simpa using hi), List.getElem?_map, List.getElem?_eq_getElem hi]; rfl
/-- A row of the call's own bytes can be written. -/
theorem Row.wb {e : TypeId} {v : Value} {xs : List UInt8} (h : Row w e v (xs.map encB)) : WB (fun k => v.ownBlock = some k) w v xs.length := by
  obtain ⟨A, c, rfl, h1, h2⟩ := h.shape
  rw [List.length_map] at h h1 ⊢
  obtain ⟨g, post, hw, ho, _⟩ := h.wr
  refine ⟨A, c, rfl, h1, h2, fun hp => ?_⟩
  obtain ⟨hA, hh⟩ := hw hp
  refine ⟨g, 0, _, e, by simpa using hA, ho hp, hh, fun i hi => ⟨xs[i], ?_⟩⟩
  simp [List.getElem?_append_left, hi, List.getElem?_map]
theorem NewV.wb {e : TypeId} {v : Value} {xs : List UInt8} (h : NewV e w w' v (xs.map encB)) : WB (fun k => w.heap.size ≤ k ∧ k < w'.heap.size) w' v xs.length := by
  obtain ⟨A, c, rfl, h1, h2, hb, h3⟩ := h
  rw [List.length_map] at h1 ⊢
  refine ⟨A, c, rfl, h1, h2, fun hp => ?_⟩
  rcases h3 with ⟨h3, rfl⟩ | ⟨rfl, hlt, rest, hr, hh⟩
  · have : xs = [] := by simpa using h3
    subst this; simp at hp
  · refine ⟨_, 0, _, e, rfl, ⟨Nat.le_refl _, hlt⟩, hh, fun i hi => ⟨xs[i], ?_⟩⟩
    simp [List.getElem?_append_left, hi, List.getElem?_map]
end
theorem inc8 (x : UInt8) : ∃ y : UInt8, IntKind.u8.wrap ((x.toNat : Int) + 1) = (y.toNat : Int) := ⟨x + 1, by
  rw [UInt8.toNat_add]; simp [IntKind.wrap, IntKind.bits, IntKind.signed]⟩
end Go.Proofs.Ythcbjhmckbfkmaa
