/- Equations of the law of layer 16: what it makes of its argument. -/
import Derived.Test.YtdppjhfndolbjaaBatE
import Derived.Laws.CopyOwn
set_option linter.unusedVariables false
set_option linter.unusedSimpArgs false
namespace Go.Proofs.Ytdppjhfndolbjaa
open Go.RowKit

/-- n bytes out of a row, noughts behind it. -/
def padN (n : Nat) (b : List UInt8) : List UInt8 := b.take n ++ zs (n - b.length)
theorem padN_len (n : Nat) (b : List UInt8) : (padN n b).length = n := by simp [padN, zs]; omega
theorem padN_nil (n : Nat) : padN n [] = zs n := by simp [padN]
def eqN (n : Nat) (of : List (List Int)) (vals : List (List UInt8)) (k : Nat) : List EqB := (List.range k).map fun i => (of.getD i [], padN n (vals.getD i []))
def valN (n : Nat) (vals : List (List UInt8)) (k : Nat) : List (List UInt8) := (List.range k).map fun i => padN n (vals.getD i [])
theorem eqN_succ (n : Nat) (of : List (List Int)) (vals : List (List UInt8)) (k : Nat) : eqN n of vals (k + 1) = eqN n of vals k ++ [(of.getD k [], padN n (vals.getD k []))] := by simp [eqN, List.range_succ]
theorem valN_succ (n : Nat) (vals : List (List UInt8)) (k : Nat) : valN n vals (k + 1) = valN n vals k ++ [padN n (vals.getD k [])] := by simp [valN, List.range_succ]
theorem infoEq : (Try.prog.info? 43).map (fun i => (i.zero, i.size, i.bytes)) = some (some (.agg #[.slice none 0 0, .slice none 0 0]), kEq.sz, 48) := by kernel_rfl
/-- The two rows while they are made. -/
structure ES (w0 w : World) (vl vv : Value) (S : Nat → Prop) (l : List EqB) (vs : List (List UInt8)) : Prop where
  rl : ORow kEq S w 43 vl l
  rv : ORow (Kd.sl Kd.byte) S w 38 vv vs
  sb : ∀ k, S k → k < w.heap.size ∧ vl.ownBlock ≠ some k ∧ vv.ownBlock ≠ some k
  ol : ∀ k, vl.ownBlock = some k → w0.heap.size ≤ k
  ov : ∀ k, vv.ownBlock = some k → w0.heap.size ≤ k ∧ vl.ownBlock ≠ some k
  bel : Below w0.heap.size w0 w
theorem ORow.mono {α : Type} {d : Kd α} {S S' : Nat → Prop} {w : World} {e : TypeId} {v : Value} {xs : List α} (h : ORow d S w e v xs) (hs : ∀ k, S k → S' k) : ORow d S' w e v xs := by
  obtain ⟨us, h1, h2⟩ := h
  exact ⟨us, h1, fun i x hx => by
    obtain ⟨cs, hr, hc⟩ := h2 i x hx
    exact ⟨cs, d.mono hs hr, hc⟩⟩
section
variable {w0 w w' : World} {vl vv v' : Value} {S S' : Nat → Prop} {l : List EqB} {vs : List (List UInt8)}
theorem ES.below (h : ES w0 w vl vv S l vs) (hb : Below w.heap.size w w') : ES w0 w' vl vv S l vs :=
  ⟨h.rl.keep fun k hk => hb.block k (hk.elim (fun hk => (h.sb k hk).1) fun hk => h.rl.lt hk), h.rv.keep fun k hk => hb.block k (hk.elim (fun hk => (h.sb k hk).1) fun hk => h.rv.lt hk), fun k hk => ⟨Nat.lt_of_lt_of_le (h.sb k hk).1 hb.size, (h.sb k hk).2⟩, h.ol, h.ov, h.bel.trans (hb.mono h.bel.size)⟩
theorem ES.more (h : ES w0 w vl vv S l vs) (hs : ∀ k, S k → S' k) (hb : ∀ k, S' k → k < w.heap.size ∧ vl.ownBlock ≠ some k ∧ vv.ownBlock ≠ some k) : ES w0 w vl vv S' l vs :=
  ⟨h.rl.mono hs, h.rv.mono hs, hb, h.ol, h.ov, h.bel⟩
/-- One more value. -/
theorem ES.pushV (h : ES w0 w vl vv S l vs) {o : Obj} {y : List UInt8} (hr : ORow (Kd.sl Kd.byte) S w' 38 v' (vs ++ [y])) (hg : (w.alloc o).grownBy w' vv.ownBlock) (ho : v'.ownBlock = vv.ownBlock ∨ v'.ownBlock = some (w.alloc o).heap.size) : ES w0 w' vl v' S l (vs ++ [y]) := by
  have hz : (w.alloc o).heap.size = w.heap.size + 1 := by simp
  rw [hz] at ho
  have hgs := hg.size
  have hbs := h.bel.size
  have hk : ∀ k, k < w.heap.size → vv.ownBlock ≠ some k → w'.heap[k]? = w.heap[k]? := fun k hk hne => (hg.block k (by omega) fun e => hne e.symm).trans ((balloc w o).block k hk)
  refine ⟨h.rl.keep fun k hk' => hk k (hk'.elim (fun h' => (h.sb k h').1) fun h' => h.rl.lt h') (hk'.elim (fun h' => (h.sb k h').2.2) fun h' e => (h.ov k e).2 h'), hr, fun k hs => ⟨by have := (h.sb k hs).1; omega, (h.sb k hs).2.1, fun e => ?_⟩, h.ol, fun k hk' => ?_, (Ch.of_grown hg).below (h.bel.alloc hbs o) (by omega) fun k hk' => (h.ov k hk').1⟩
  · rcases ho with e' | e'
    · exact (h.sb k hs).2.2 (e' ▸ e)
    · rw [e] at e'; injection e' with e'; have := (h.sb k hs).1; omega
  · rcases ho with e' | e'
    · exact h.ov k (e' ▸ hk')
    · rw [hk'] at e'; injection e' with e'
      exact ⟨by omega, fun e => by have := h.rl.lt e; omega⟩
/-- One more equation. -/
theorem ES.pushL (h : ES w0 w vl vv S l vs) {o : Obj} {y : EqB} (hr : ORow kEq S w' 43 v' (l ++ [y])) (hg : (w.alloc o).grownBy w' vl.ownBlock) (ho : v'.ownBlock = vl.ownBlock ∨ v'.ownBlock = some (w.alloc o).heap.size) : ES w0 w' v' vv S (l ++ [y]) vs := by
  have hz : (w.alloc o).heap.size = w.heap.size + 1 := by simp
  rw [hz] at ho
  have hgs := hg.size
  have hbs := h.bel.size
  have hk : ∀ k, k < w.heap.size → vl.ownBlock ≠ some k → w'.heap[k]? = w.heap[k]? := fun k hk hne => (hg.block k (by omega) fun e => hne e.symm).trans ((balloc w o).block k hk)
  refine ⟨hr, h.rv.keep fun k hk' => hk k (hk'.elim (fun h' => (h.sb k h').1) fun h' => h.rv.lt h') (hk'.elim (fun h' => (h.sb k h').2.1) fun h' e => (h.ov k h').2 e), fun k hs => ⟨by have := (h.sb k hs).1; omega, fun e => ?_, (h.sb k hs).2.2⟩, fun k hk' => ?_, fun k hk' => ⟨(h.ov k hk').1, fun e => ?_⟩, (Ch.of_grown hg).below (h.bel.alloc hbs o) (by omega) fun k hk' => h.ol k hk'⟩
  · rcases ho with e' | e'
    · exact (h.sb k hs).2.1 (e' ▸ e)
    · rw [e] at e'; injection e' with e'; have := (h.sb k hs).1; omega
  · rcases ho with e' | e'
    · exact h.ol k (e' ▸ hk')
    · rw [hk'] at e'; injection e' with e'; omega
  · rcases ho with e' | e'
    · exact (h.ov k hk').2 (e' ▸ e)
    · rw [e] at e'; injection e' with e'; have := h.rv.lt hk'; omega
end
end Go.Proofs.Ytdppjhfndolbjaa
