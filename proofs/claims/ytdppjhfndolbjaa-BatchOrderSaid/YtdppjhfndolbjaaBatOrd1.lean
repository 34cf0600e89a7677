/- BatchOrder: the map of the places that were seen. -/
import Derived.Test.YtdppjhfndolbjaaBatPure3
import Derived.Test.YtdppjhfndolbjaaBatI
import Derived.Maps.Own
import Derived.Maps.OwnOps
import Derived.Maps.OwnSet
import Derived.Maps.Views
import Derived.WalkKit
set_option linter.unusedVariables false
set_option linter.unusedSimpArgs false
namespace Go.Proofs.Ytdppjhfndolbjaa
open Go.RowKit Go.Maps

def addK (K : List Nat) (x : Nat) : List Nat := if x ∈ K then K else K ++ [x]
def seenK (n b : Nat) : Nat → List Nat
  | 0 => []
  | j + 1 => addK (seenK n b j) (turnI n b j)
theorem addK_mem {K : List Nat} {x y : Nat} : y ∈ addK K x ↔ y ∈ K ∨ y = x := by
  unfold addK
  split
  · rename_i h
    constructor
    · exact .inl
    · rintro (h' | rfl)
      · exact h'
      · exact h
  · simp
theorem addK_nodup {K : List Nat} {x : Nat} (h : K.Nodup) : (addK K x).Nodup := by
  unfold addK
  split
  · exact h
  · rename_i hx
    refine List.nodup_append.2 ⟨h, by simp, fun a ha c hc => ?_⟩
    simp at hc
    rw [hc]
    exact fun e => hx (e ▸ ha)
theorem seenK_nodup (n b : Nat) : ∀ j, (seenK n b j).Nodup
  | 0 => List.nodup_nil
  | j + 1 => addK_nodup (seenK_nodup n b j)
theorem seenK_mem (n b : Nat) (x : Nat) : ∀ j, x ∈ seenK n b j ↔ x ∈ turnIx n b j
  | 0 => by simp [seenK, turnIx]
  | j + 1 => by
    rw [seenK, addK_mem, seenK_mem n b x j, turnIx_succ, List.mem_append, List.mem_singleton]
theorem addK_len (K : List Nat) (x : Nat) : (addK K x).length ≤ K.length + 1 := by
  unfold addK; split <;> simp
theorem seenK_len (n b : Nat) : ∀ j, (seenK n b j).length ≤ j
  | 0 => Nat.le_refl _
  | j + 1 => Nat.le_trans (addK_len _ _) (Nat.succ_le_succ (seenK_len n b j))
theorem turnE_full {l : List EqB} {b : Nat} (h : (seenK l.length b l.length).length = l.length) (e : EqB) : e ∈ l ↔ e ∈ turnE l b l.length :=
  turnE_mem (seenK_nodup _ _ _) h (fun x => seenK_mem _ _ x _) e
theorem law3 : Keyed Try.prog 3 := int_keyed Try.underlying3
theorem zero3 (w : World) : (zeroValue 3).run Try.prog w = .ok (.int .i64 0) w := by kernel_rfl
/-- Block B is a map whose keys are those of K. -/
def SeenM (w : World) (B n : Nat) (K : List Nat) : Prop :=
  ∃ D : DataW Unit, w.ownsMap Try.prog 3 (plainElem Try.prog 3) B n D ∧ Tidy D ∧ size D = K.length ∧ (∀ x : Nat, has D (.int .i64 (x : Int)) = decide (x ∈ K)) ∧ ∀ x : Nat, ∃ c : Nat, c ≤ n ∧ D.atKey (.int .i64 (x : Int)) (.lit (.int .i64 0)) = .lit (.int .i64 (c : Int))
theorem SeenM.put {w' : World} {B n m x c : Nat} {K : List Nat} {D : DataW Unit} (hT : Tidy D) (hs : size D = K.length) (hh : ∀ x : Nat, has D (.int .i64 (x : Int)) = decide (x ∈ K)) (ha : ∀ x : Nat, ∃ c : Nat, c ≤ n ∧ D.atKey (.int .i64 (x : Int)) (.lit (.int .i64 0)) = .lit (.int .i64 (c : Int))) (hnm : n ≤ m) (hc : c ≤ m)
    (h : w'.ownsMap Try.prog 3 (plainElem Try.prog 3) B m (D.put (.int .i64 (x : Int)) (.lit (.int .i64 (c : Int))))) : SeenM w' B m (addK K x) := by
  refine ⟨_, h, hT.put (show WideAt.IsKeyLit (.int .i64 (x : Int)) from trivial) _, ?_, fun y => ?_, fun y => ?_⟩
  · rw [size_put hT, hh x, hs]
    unfold addK
    by_cases hx : x ∈ K <;> simp [hx]
  · by_cases e : y = x
    · subst e
      rw [has_put_same hT.isMap (show WideAt.IsKeyLit (.int .i64 (y : Int)) from trivial)]
      have : y ∈ addK K y := addK_mem.2 (.inr rfl)
      simp [this]
    · rw [has_put_other (fun h => e (by injection h with h1 h2; omega)), hh y]
      have : y ∈ addK K x ↔ y ∈ K := by rw [addK_mem]; simp [e]
      simp [this]
  · by_cases e : y = x
    · subst e
      exact ⟨c, hc, atKey_put_same hT.isMap (show WideAt.IsKeyLit (.int .i64 (y : Int)) from trivial) _ _⟩
    · obtain ⟨d, h1, h2⟩ := ha y
      exact ⟨d, by omega, by rw [atKey_put_other (fun h => e (by injection h with h1 h2; omega)), h2]⟩
theorem SeenM.keep {w w' : World} {B n : Nat} {K : List Nat} (h : SeenM w B n K) (hk : w'.heap[B]? = w.heap[B]?) : SeenM w' B n K := by
  obtain ⟨D, ⟨es, clock, h1, h2⟩, h3⟩ := h
  exact ⟨D, ⟨es, clock, hk.trans h1, h2⟩, h3⟩
theorem SeenM.lt {w : World} {B n : Nat} {K : List Nat} (h : SeenM w B n K) : B < w.heap.size := by
  obtain ⟨D, ⟨es, clock, h1, h2⟩, h3⟩ := h
  exact (Array.getElem?_eq_some_iff.1 h1).1
theorem SeenM.made (w : World) : SeenM (w.alloc (.map #[] 0)) w.heap.size 0 [] :=
  ⟨_, World.ownsMap_made _ _ _ _, ⟨[], rfl, List.Pairwise.nil⟩, rfl, fun x => rfl, fun x => ⟨0, Nat.le_refl _, rfl⟩⟩
end Go.Proofs.Ytdppjhfndolbjaa
