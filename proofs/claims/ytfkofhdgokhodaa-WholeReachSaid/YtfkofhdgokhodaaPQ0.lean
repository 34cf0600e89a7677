/- A queue in which each number comes once: its memory. -/
import Derived.Test.YtfkofhdgokhodaaAppS
import Derived.Test.YtfkofhdgokhodaaRow
import Derived.Maps.Own
import Derived.Maps.OwnOps
import Derived.Maps.OwnSet
import Derived.Maps.Views
import Derived.WalkKit
set_option linter.unusedVariables false
set_option linter.unusedSimpArgs false
namespace Go.Proofs.Ytfkofhdgokhodaa
open Go.RowKit Go.Maps

/-- What came, each once, in the order in which it came first. -/
def pushL (E xs : List Int) : List Int := xs.foldl (fun e x => if x ∈ e then e else e ++ [x]) E
theorem pushL_snoc (E xs : List Int) (x : Int) : pushL E (xs ++ [x]) = if x ∈ pushL E xs then pushL E xs else pushL E xs ++ [x] := by
  unfold pushL
  rw [List.foldl_append]
  rfl
theorem pushL_len (E : List Int) : ∀ xs : List Int, E.length ≤ (pushL E xs).length ∧ (pushL E xs).length ≤ E.length + xs.length := by
  intro xs
  induction xs generalizing E with
  | nil => exact ⟨Nat.le_refl _, Nat.le_refl _⟩
  | cons x xs ih =>
    have h := ih (if x ∈ E then E else E ++ [x])
    show E.length ≤ (pushL (if x ∈ E then E else E ++ [x]) xs).length ∧ _
    rw [List.length_cons]
    have e : pushL E (x :: xs) = pushL (if x ∈ E then E else E ++ [x]) xs := rfl
    rw [e]
    split at h <;> rename_i hx <;> simp only [hx, if_true, if_false] at h ⊢ <;> (try rw [List.length_append, List.length_singleton] at h) <;> omega
def keysOf (E : List Int) : List Lit := E.map fun x => Lit.int .i64 x
theorem keysOf_key (E : List Int) : ∀ x ∈ keysOf E, WideAt.IsKeyLit x := fun x hx => by
  obtain ⟨y, -, rfl⟩ := List.mem_map.1 hx
  trivial
theorem keysOf_has (E : List Int) (x : Int) : Maps.has (setOf (H := Unit) (.agg []) (keysOf E)) (.int .i64 x) = decide (x ∈ E) := by
  rw [has_setOf _ _ _ (keysOf_key E), Bool.eq_iff_iff, List.any_eq_true, decide_eq_true_eq]
  constructor
  · rintro ⟨y, hy, h⟩
    obtain ⟨z, hz, rfl⟩ := List.mem_map.1 hy
    have := WideAt.sameKey_eq h
    injection this with _ h2
    rw [← h2]; exact hz
  · exact fun h => ⟨_, List.mem_map.2 ⟨x, h, rfl⟩, WideAt.sameKey_self (show WideAt.IsKeyLit (.int .i64 x) from trivial)⟩
theorem keysOf_snoc (E : List Int) (x : Int) : setOf (H := Unit) (.agg []) (keysOf (E ++ [x])) = (setOf (H := Unit) (.agg []) (keysOf E)).put (.int .i64 x) (.agg []) := by
  rw [keysOf, List.map_append, List.map_singleton, setOf_snoc]; rfl
theorem law3 : Keyed Try.prog 3 := int_keyed Try.underlying3
theorem zeroU (w : World) : (zeroValue 84).run Try.prog w = .ok (.agg #[]) w := by kernel_rfl
theorem infoIq : (Try.prog.info? 3).map (fun i => (i.zero, i.size, i.bytes)) = some (some (.int .i64 0), 1, 8) := by kernel_rfl
/-- The map: which numbers have come. -/
def MapS (w : World) (m : Option Nat) (E : List Int) : Prop :=
  (m = none ∧ E = []) ∨ ∃ b, m = some b ∧ w.ownsMap Try.prog 3 (unitElem (H := Unit)) b E.length (setOf (.agg []) (keysOf E))
theorem MapS.keep {w w' : World} {m : Option Nat} {E : List Int} (h : MapS w m E) (hk : ∀ b, m = some b → w'.heap[b]? = w.heap[b]?) : MapS w' m E := by
  rcases h with h | ⟨b, rfl, es, clock, h1, h2⟩
  · exact .inl h
  · exact .inr ⟨b, rfl, es, clock, (hk b rfl).trans h1, h2⟩
theorem MapS.lt {w : World} {b : Nat} {E : List Int} (h : MapS w (some b) E) : b < w.heap.size := by
  rcases h with h | ⟨b', e, es, clock, h1, h2⟩
  · cases h.1
  · injection e with e; subst e; exact (Array.getElem?_eq_some_iff.1 h1).1
/-- Only blocks of S change; S' is S, and new ones. -/
structure Step (S S' : Nat → Prop) (w w' : World) : Prop where
  ch : Ch S w w'
  new : ∀ k, S' k → S k ∨ w.heap.size ≤ k
  sub : ∀ k, S k → S' k
theorem Step.trans {S S1 S' : Nat → Prop} {w w1 w' : World} (h : Step S S1 w w1) (h' : Step S1 S' w1 w') : Step S S' w w' :=
  ⟨h.ch.trans h'.ch h.new, fun k hk => by
    rcases h'.new k hk with h1 | h1
    · exact h.new k h1
    · exact .inr (Nat.le_trans h.ch.size h1), fun k hk => h'.sub k (h.sub k hk)⟩
theorem Step.refl (S : Nat → Prop) (w : World) : Step S S w w := ⟨Ch.refl w, fun k hk => .inl hk, fun k hk => hk⟩
theorem Step.below {S S' : Nat → Prop} {w w' w2 : World} (h : Step S S' w w') (hb : Below w'.heap.size w' w2) : Step S S' w w2 := ⟨h.ch.trans (Ch.of_below (S := fun _ => False) hb) (fun _ h => h.elim), h.new, h.sub⟩
/-- The queue at block g, in blocks S: the numbers E have come, p of them are out. -/
structure QA (w : World) (S : Nat → Prop) (g : Nat) (E : List Int) (p : Nat) (v : Value) (l : List Int) (at' : Nat) (m : Option Nat) : Prop where
  head : w.heap[g]? = some (.cells #[v, .int .i64 (at' : Int), .map m] 106 (0, 0))
  row : Row w 3 v (l.map encI)
  le : at' ≤ l.length
  dr : l.drop at' = E.drop p
  pe : p ≤ E.length
  ll : l.length ≤ E.length
  mp : MapS w m E
  sg : S g
  sv : ∀ k, v.ownBlock = some k → S k ∧ k ≠ g ∧ m ≠ some k
  sm : ∀ b, m = some b → S b ∧ b ≠ g
  lt : ∀ k, S k → k < w.heap.size
  wf : ∀ x ∈ E, (Lit.int .i64 x).wf = true
def QS (w : World) (S : Nat → Prop) (g : Nat) (E : List Int) (p : Nat) : Prop := ∃ v l at' m, QA w S g E p v l at' m
section
variable {w w' : World} {S : Nat → Prop} {g : Nat} {E : List Int} {p : Nat} {v : Value} {l : List Int} {at' : Nat} {m : Option Nat}
theorem QA.cells (h : QA w S g E p v l at' m) : w.cell? ⟨g, 0, none⟩ = some v ∧ w.cell? ⟨g, 1, none⟩ = some (.int .i64 (at' : Int)) ∧ w.cell? ⟨g, 2, none⟩ = some (.map m) ∧ (∀ i, w.frozen? ⟨g, i, none⟩ = false) := by
  have h1 := h.head
  exact ⟨by rw [cell_of_row w g 0 _ _ (0, 0) h1]; rfl, by rw [cell_of_row w g 1 _ _ (0, 0) h1]; rfl, by rw [cell_of_row w g 2 _ _ (0, 0) h1]; rfl, fun i => by simp [World.frozen?, h1]⟩
theorem QA.keep (h : QA w S g E p v l at' m) {T : Nat → Prop} (c : Ch T w w') (hd : ∀ k, S k → T k → False) : QA w' S g E p v l at' m := by
  have hk : ∀ k, S k → w'.heap[k]? = w.heap[k]? := fun k hk => c.block k (h.lt k hk) fun ht => hd k hk ht
  exact ⟨(hk g h.sg).trans h.head, h.row.keep fun k hv => hk k (h.sv k hv).1, h.le, h.dr, h.pe, h.ll, h.mp.keep fun b hb => hk b (h.sm b hb).1, h.sg, h.sv, h.sm, fun k hk' => Nat.lt_of_lt_of_le (h.lt k hk') c.size, h.wf⟩
theorem QS.keep (h : QS w S g E p) {T : Nat → Prop} (c : Ch T w w') (hd : ∀ k, S k → T k → False) : QS w' S g E p := by
  obtain ⟨v, l, at', m, h⟩ := h
  exact ⟨v, l, at', m, h.keep c hd⟩
theorem QS.below (h : QS w S g E p) (hb : Below w.heap.size w w') : QS w' S g E p := h.keep (Ch.of_below (S := fun _ => False) hb) fun _ _ h => h
end
end Go.Proofs.Ytfkofhdgokhodaa
