/- Rows of bytes in memory of their own, in a row of the call's own: made, laid, read. -/
import Derived.Test.YtfkofhdgokhodaaAppS
import Derived.Laws.CopyOwn
import Derived.StillTailTactics
set_option linter.unusedVariables false
set_option linter.unusedSimpArgs false
namespace Go.Proofs.Ytfkofhdgokhodaa
open Go.RowKit

theorem Ch.drewR {S : Nat → Prop} {w w' : World} (h : Ch S w w') : Ch S w { w' with drawn := w'.drawn + 1 } := ⟨h.os, h.tape, h.output, h.size, h.block⟩
/-- A slice of bytes from its block's head on; the block can be written. -/
def Kd.ow : Kd (List UInt8) where
  sz := 1
  R := fun S w xs cs => ∃ A c, cs = [.slice A xs.length c] ∧ xs.length ≤ c ∧ c ≤ maxLen ∧ (0 < xs.length → ∃ g post e, A = some ⟨g, 0, none⟩ ∧ S g ∧ w.heap[g]? = some (.cells (xs.map encB ++ post).toArray e (0, 0)))
  pos := by omega
  len := fun ⟨A, c, h, _⟩ => by rw [h]; rfl
  keep := fun hk ⟨A, c, h, h1, h2, h3⟩ => ⟨A, c, h, h1, h2, fun hp => by
    obtain ⟨g, post, e, ha, hs, hh⟩ := h3 hp
    exact ⟨g, post, e, ha, hs, (hk g hs).trans hh⟩⟩
  mono := fun hs ⟨A, c, h, h1, h2, h3⟩ => ⟨A, c, h, h1, h2, fun hp => by
    obtain ⟨g, post, e, ha, hs', hh⟩ := h3 hp
    exact ⟨g, post, e, ha, hs g hs', hh⟩⟩
theorem Kd.ow_nil {S : Nat → Prop} {w : World} {A : Option Addr} {c : Nat} (hc : c ≤ maxLen) : Kd.ow.R S w [] [.slice A 0 c] := ⟨A, c, rfl, Nat.zero_le _, hc, fun h => absurd h (by simp)⟩
theorem Kd.ow_sl {S : Nat → Prop} {w : World} {xs : List UInt8} {cs : List Value} (h : Kd.ow.R S w xs cs) : (Kd.sl Kd.byte).R S w xs cs := by
  obtain ⟨A, c, e, h1, h2, h3⟩ := h
  refine ⟨A, c, e, h1, h2, fun hp => ?_⟩
  obtain ⟨g, post, t, rfl, hs, hh⟩ := h3 hp
  refine RdL.block1 (d := Kd.byte) (xs := xs) rfl hh hs (fun i x hx => ⟨encB x, ?_, _, rfl, rfl⟩) hp
  rw [List.getElem?_toArray, List.getElem?_append_left (by have := (List.getElem?_eq_some_iff.1 hx).1; simpa using this), List.getElem?_map, hx]; rfl
theorem RdL.conv {α : Type} {d d' : Kd α} {S : Nat → Prop} {w : World} {A : Option Addr} {xs : List α} (h : RdL d S w A xs) (hz : d.sz = d'.sz) (hc : ∀ x cs, d.R S w x cs → d'.R S w x cs) : RdL d' S w A xs := fun hp => by
  obtain ⟨b, off, e, hs, hx⟩ := h hp
  refine ⟨b, off, e, hs, fun i x hi => ?_⟩
  obtain ⟨cs, hr, hcell⟩ := hx i x hi
  exact ⟨cs, hc x cs hr, fun j u hu => by rw [← hz]; exact hcell j u hu⟩
theorem ORow.rdsl {S : Nat → Prop} {w : World} {e : TypeId} {A : Option Addr} {n c : Nat} {xs : List (List UInt8)} (h : ORow Kd.ow S w e (.slice A n c) xs) : RdL (Kd.sl Kd.byte) (fun k => S k ∨ (Value.slice A n c).ownBlock = some k) w A xs :=
  h.rd.conv rfl fun _ _ => Kd.ow_sl
theorem ORow.mono {α : Type} {d : Kd α} {S S' : Nat → Prop} {w : World} {e : TypeId} {v : Value} {xs : List α} (h : ORow d S w e v xs) (hs : ∀ k, S k → S' k) : ORow d S' w e v xs := by
  obtain ⟨us, h1, h2⟩ := h
  refine ⟨us, h1, fun i x hx => ?_⟩
  obtain ⟨cs, hr, hc⟩ := h2 i x hx
  exact ⟨cs, d.mono hs hr, hc⟩
/-- One element anew. -/
theorem ORow.put {α : Type} {d : Kd α} {S S' : Nat → Prop} {w w' : World} {e : TypeId} {g n c i : Nat} {xs : List α} {x : α} {u : Value} (hz : d.sz = 1) (h : ORow d S w e (.slice (some ⟨g, 0, none⟩) n c) xs) (hi : i < xs.length)
    (hS : ∀ k, S k → w'.heap[k]? = w.heap[k]?) (hg : w'.heap[g]? = (w.setCell ⟨g, i, none⟩ u).heap[g]?) (hr : d.R S' w' x [u]) (hs : ∀ k, S k → S' k) : ORow d S' w' e (.slice (some ⟨g, 0, none⟩) n c) (xs.set i x) := by
  obtain ⟨us, h1, h2⟩ := h
  have hl := h1.1
  rw [hz, Nat.mul_one] at hl
  refine ⟨us.set i u, ⟨by simp [hz, hl], ?_⟩, fun j y hy => ?_⟩
  · rcases h1.2 with ⟨h3, _⟩ | ⟨g', cap, cur, hv, hg', hh, r1, r2, r3, r4⟩
    · cases h3
    · injection hv with e1 e2 e3
      injection e1 with e1
      injection e1 with e1 _ _
      subst e1
      refine .inr ⟨g, cap, cur.setIfInBounds i u, by rw [e2, e3, List.length_set], hg', ?_, by simpa using r1, r2, by simpa using r3, ?_⟩
      · rw [hg]; simp [World.setCell, Array.getElem?_modify, hh]
      · rw [List.length_set, hz, Nat.mul_one] at *
        rw [Array.toList_setIfInBounds, List.take_set, r4]
  · rw [List.getElem?_set] at hy
    by_cases hij : i = j
    · subst hij
      rw [if_pos rfl, if_pos hi] at hy
      injection hy with hy
      subst hy
      refine ⟨[u], hr, fun q v hq => ?_⟩
      cases q with
      | zero =>
        simp at hq
        subst hq
        rw [hz, Nat.mul_one, Nat.add_zero, List.getElem?_set_self (by omega)]
      | succ q => simp at hq
    · rw [if_neg hij] at hy
      obtain ⟨cs, hr', hc⟩ := h2 j y hy
      refine ⟨cs, d.mono hs (d.keep hS hr'), fun q v hq => ?_⟩
      have hcl := d.len hr'
      have hq0 : q < cs.length := (List.getElem?_eq_some_iff.1 hq).1
      have := hc q v hq
      rw [hz, Nat.mul_one] at this ⊢
      rw [List.getElem?_set_ne (by omega)]
      exact this
theorem pre_get {α : Type} {l1 l2 : List α} (h : l1 <+: l2) {i : Nat} {x : α} (hx : l1[i]? = some x) : l2[i]? = some x := by
  obtain ⟨t, rfl⟩ := h
  rw [List.getElem?_append_left (List.getElem?_eq_some_iff.1 hx).1]; exact hx
/-- An element's cell. -/
theorem ORow.cell1 {α : Type} {d : Kd α} {S : Nat → Prop} {w : World} {e : TypeId} {g n c i : Nat} {xs : List α} (hz : d.sz = 1) (h : ORow d S w e (.slice (some ⟨g, 0, none⟩) n c) xs) (hi : i < xs.length) :
    ∃ u, w.cell? ⟨g, i, none⟩ = some u ∧ w.frozen? ⟨g, i, none⟩ = false ∧ d.R S w xs[i] [u] := by
  obtain ⟨us, h1, h2⟩ := h
  obtain ⟨cs, hr, hc⟩ := h2 i xs[i] (List.getElem?_eq_getElem hi)
  have hl := d.len hr
  rw [hz] at hl
  match cs, hl with
  | [u], _ =>
    have hu := hc 0 u rfl
    rw [hz, Nat.mul_one, Nat.add_zero] at hu
    rcases h1.2 with ⟨h3, _⟩ | ⟨g', cap, cur, hv, hg', hh, r1, r2, r3, r4⟩
    · cases h3
    · injection hv with e1 e2 e3
      injection e1 with e1
      injection e1 with e1 _ _
      subst e1
      refine ⟨u, ?_, by simp [World.frozen?, hh], hr⟩
      rw [cell_of_row w g i _ _ (0, 0) hh, ← Array.getElem?_toList]
      rw [← r4] at hu
      exact pre_get (List.take_prefix _ _) hu
theorem ORow.made {S : Nat → Prop} (w : World) (e : TypeId) (n : Nat) (hn : n ≤ maxLen) : ORow Kd.ow S (w.alloc (.cells (madeCells #[.slice none 0 0] n) e)) e (.slice (some ⟨w.heap.size, 0, none⟩) n n) (List.replicate n []) := by
  refine ⟨List.replicate n (.slice none 0 0), ⟨by simp [Kd.ow], .inr ⟨_, _, _, by simp, Nat.zero_le _, heap_alloc_new w _, by simp, hn, ?_, ?_⟩⟩, fun i x hx => ?_⟩
  · have := congrArg List.length (toList_madeCells_one (.slice none 0 0) n)
    simp at this
    simp [this, Kd.ow]
  · rw [toList_madeCells_one]
    simp [Kd.ow]
  · rw [List.getElem?_replicate] at hx
    split at hx
    · rename_i hi
      injection hx with hx
      subst hx
      refine ⟨[.slice none 0 0], Kd.ow_nil (by simp [maxLen]), fun j u hu => ?_⟩
      cases j with
      | zero =>
        simp at hu
        subst hu
        rw [show Kd.ow.sz = 1 from rfl, Nat.mul_one, Nat.add_zero, List.getElem?_replicate, if_pos hi]
      | succ j => simp at hu
    · cases hx
/-- A cell set, and a block laid. -/
theorem set_alloc {w X : World} {g k : Nat} {u u0 : Value} {o : Obj} (hX : X = (w.setCell ⟨g, k, none⟩ u).alloc o) (hg : g < w.heap.size) (h0 : w.cell? ⟨g, k, none⟩ = some u0) :
    X.heap.size = w.heap.size + 1 ∧ X.cell? ⟨g, k, none⟩ = some u ∧ X.heap[w.heap.size]? = some o ∧ (∀ b, b < w.heap.size → b ≠ g → X.heap[b]? = w.heap[b]?) ∧ X.heap[g]? = (w.setCell ⟨g, k, none⟩ u).heap[g]? ∧ Ch (· = g) w X := by
  have hs : (w.setCell ⟨g, k, none⟩ u).heap.size = w.heap.size := by simp [World.setCell]
  subst hX
  have hb := fun b (hb : b < w.heap.size) => Below.heap_alloc (w.setCell ⟨g, k, none⟩ u) o b (by rw [hs]; exact hb)
  refine ⟨by simp [World.setCell], ?_, ?_, fun b h1 h2 => ?_, hb g hg, ?_⟩
  · rw [World.cell?_of_block (w := w.setCell ⟨g, k, none⟩ u) (hb g hg)]
    exact World.cell?_setCell_same w _ _ h0
  · rw [← hs]; exact heap_alloc_new _ _
  · rw [hb b h1]; exact Below.heap_setCell w _ _ b h2
  · exact (Ch.set w ⟨g, k, none⟩ u).trans (Ch.alloc (S := fun _ => False) _ o) fun b hb => hb.elim
theorem infoSB : (Try.prog.info? 39).map (fun i => (i.zero, i.size, i.bytes)) = some (some (.slice none 0 0), 1, 24) := by kernel_rfl
theorem infoB : (Try.prog.info? 5).map (fun i => (i.zero, i.size, i.bytes)) = some (some (.int .u8 0), 1, 1) := by kernel_rfl
/-- make([]byte, n), make([][]byte, n). -/
theorem make_bytes (n : Nat) (hn : n ≤ 281474976710656) (w : World) : (Instr.makeSlice 39 (.int .i64 (n : Int)) (.int .i64 (n : Int))).run Try.prog w = .ok (.slice (some ⟨w.heap.size, 0, none⟩) n n) (w.alloc (.cells (madeCells #[.int .u8 0] n) 5)) :=
  run_make_row' 39 5 (.int .u8 0) 1 Try.underlying39 infoB rfl .i64 .i64 n (by omega) (by omega) w
theorem made_cells (n : Nat) : madeCells #[.int .u8 0] n = ((List.replicate n (0 : UInt8)).map encB).toArray := by
  rw [List.map_replicate, ← Array.toList_inj, toList_madeCells_one]; rfl
theorem make_rows (n : Nat) (hn : n ≤ 1000000) (w : World) : (Instr.makeSlice 44 (.int .i64 (n : Int)) (.int .i64 (n : Int))).run Try.prog w = .ok (.slice (some ⟨w.heap.size, 0, none⟩) n n) (w.alloc (.cells (madeCells #[.slice none 0 0] n) 39)) :=
  run_make_row' 44 39 (.slice none 0 0) 24 Try.underlying44 infoSB rfl .i64 .i64 n (by omega) (by omega) w
end Go.Proofs.Ytfkofhdgokhodaa
