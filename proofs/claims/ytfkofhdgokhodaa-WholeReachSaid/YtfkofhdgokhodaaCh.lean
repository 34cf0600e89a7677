/- What a call changes: blocks of a set, and new ones. -/
import Derived.Test.YtfkofhdgokhodaaOwn
set_option linter.unusedVariables false
set_option linter.unusedSimpArgs false
namespace Go.Proofs.Ytfkofhdgokhodaa
open Go.RowKit

theorem balloc (w : World) (o : Obj) : Below w.heap.size w (w.alloc o) := (Below.refl _ _).alloc (Nat.le_refl _) _
structure Ch (S : Nat → Prop) (w w' : World) : Prop where
  os : w'.os = w.os
  tape : w'.tape = w.tape
  output : w'.output = w.output
  size : w.heap.size ≤ w'.heap.size
  block : ∀ b, b < w.heap.size → ¬ S b → w'.heap[b]? = w.heap[b]?
theorem Ch.refl {S : Nat → Prop} (w : World) : Ch S w w := ⟨rfl, rfl, rfl, Nat.le_refl _, fun _ _ _ => rfl⟩
theorem Ch.mono {S S' : Nat → Prop} {w w' : World} (h : Ch S w w') (hs : ∀ b, b < w.heap.size → S b → S' b) : Ch S' w w' := ⟨h.os, h.tape, h.output, h.size, fun b hb hn => h.block b hb fun hs' => hn (hs b hb hs')⟩
theorem Ch.trans {S S' : Nat → Prop} {w w1 w2 : World} (h : Ch S w w1) (h' : Ch S' w1 w2) (hs : ∀ b, S' b → S b ∨ w.heap.size ≤ b) : Ch S w w2 :=
  ⟨h'.os.trans h.os, h'.tape.trans h.tape, h'.output.trans h.output, Nat.le_trans h.size h'.size, fun b hb hn => (h'.block b (Nat.lt_of_lt_of_le hb h.size) fun hs' => (hs b hs').elim hn (fun h => by omega)).trans (h.block b hb hn)⟩
theorem Ch.of_below {S : Nat → Prop} {w w' : World} (h : Below w.heap.size w w') : Ch S w w' := ⟨h.os, h.tape, h.output, h.size, fun b hb _ => h.block b hb⟩
theorem Ch.of_grown {w w' : World} {o : Option Nat} (h : w.grownBy w' o) : Ch (fun b => o = some b) w w' := ⟨h.os, h.tape, h.output, h.size, fun b hb hn => h.block b hb fun e => hn e.symm⟩
theorem Ch.set (w : World) (p : Addr) (u : Value) : Ch (fun b => b = p.block) w (w.setCell p u) :=
  ⟨rfl, rfl, rfl, by simp [World.setCell], fun b hb hn => Below.heap_setCell w p u b hn⟩
theorem Ch.drew {S : Nat → Prop} (w : World) : Ch S w w.drew := ⟨rfl, rfl, rfl, Nat.le_refl _, fun _ _ _ => rfl⟩
theorem Ch.alloc {S : Nat → Prop} (w : World) (o : Obj) : Ch S w (w.alloc o) := Ch.of_below ((Below.refl _ _).alloc (Nat.le_refl _) _)
/-- Nothing that was there below B. -/
theorem Ch.below {S : Nat → Prop} {B : Nat} {w0 w w' : World} (h : Ch S w w') (hb : Below B w0 w) (hB : B ≤ w.heap.size) (hs : ∀ b, S b → B ≤ b) : Below B w0 w' :=
  ⟨h.os.trans hb.os, h.tape.trans hb.tape, h.output.trans hb.output, Nat.le_trans hb.size h.size, fun b hb' => (h.block b (Nat.lt_of_lt_of_le hb' hB) fun hs' => by have := hs b hs'; omega).trans (hb.block b hb')⟩
theorem Ch.toBelow {S : Nat → Prop} {B : Nat} {w w' : World} (h : Ch S w w') (hB : B ≤ w.heap.size) (hs : ∀ b, S b → B ≤ b) : Below B w w' :=
  ⟨h.os, h.tape, h.output, h.size, fun b hb' => h.block b (Nat.lt_of_lt_of_le hb' hB) fun hs' => by have := hs b hs'; omega⟩
theorem Ch.cell {S : Nat → Prop} {w w' : World} (h : Ch S w w') {a : Addr} {u : Value} (hc : w.cell? a = some u) (hn : ¬ S a.block) : w'.cell? a = some u := by
  rw [World.cell?_of_block (w := w) (h.block _ (World.block_lt_of_cell? w a hc) hn)]; exact hc
end Go.Proofs.Ytfkofhdgokhodaa
