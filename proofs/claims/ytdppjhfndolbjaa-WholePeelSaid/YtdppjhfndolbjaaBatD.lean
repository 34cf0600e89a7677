/- The values of a solver: a row of the call's own, of blocks that may be missing. -/
import Derived.Test.YtdppjhfndolbjaaBatC
set_option linter.unusedVariables false
set_option linter.unusedSimpArgs false
namespace Go.Proofs.Ytdppjhfndolbjaa
open Go.RowKit

/-- One place of an own row is written. -/
theorem Row.set {w : World} {e : TypeId} {v : Value} {us : List Value} (h : Row w e v us) {i : Nat} (hi : i < us.length) (u : Value) :
    ∃ q c, v = .slice (some ⟨q, 0, none⟩) us.length c ∧ w.cell? ⟨q, i, none⟩ = some us[i] ∧ w.frozen? ⟨q, i, none⟩ = false ∧ q < w.heap.size ∧ Row (w.setCell ⟨q, i, none⟩ u) e v (us.set i u) := by
  rcases h.2 with ⟨_, hn⟩ | ⟨g, cap, cur, rfl, hg, hh, h1, h2, h3, h4⟩
  · omega
  rw [Nat.mul_one] at h3 h4
  have hlt := (Array.getElem?_eq_some_iff.1 hh).1
  have hci : cur[i]? = some us[i] := by
    have e1 : (List.take us.length cur.toList)[i]? = us[i]? := by rw [h4]
    rw [List.getElem?_take_of_lt hi, Array.getElem?_toList, List.getElem?_eq_getElem hi] at e1
    exact e1
  refine ⟨g, cap, rfl, by rw [cell_of_row w g _ cur e (0, 0) hh]; exact hci, by simp [World.frozen?, hh], hlt, ?_⟩
  refine ⟨(Nat.mul_one _).symm, .inr ⟨g, cap, cur.setIfInBounds i u, by rw [List.length_set], hg, ?_, by rw [List.length_set]; exact h1, h2, by rw [Array.size_setIfInBounds, h3, Nat.mul_one], ?_⟩⟩
  · simp [World.setCell, Array.getElem?_modify, hh]
  · rw [Nat.mul_one, Array.toList_setIfInBounds, List.length_set, List.take_set, h4]
/-- The values vs in the row of block gv; their bytes lie in S. -/
structure VR (S : Nat → Prop) (w : World) (gv n : Nat) (vs : Vals) : Prop where
  ex : ∃ us, Row w 38 (.slice (some ⟨gv, 0, none⟩) n n) us ∧ us.length = n ∧ ∀ (i : Nat) (u : Value) (x : Option (List UInt8)), us[i]? = some u → vs[i]? = some x → kOb.R S w x [u]
  len : vs.length = n
section
variable {S S' : Nat → Prop} {w w' : World} {gv n : Nat} {vs : Vals}
theorem VR.lt (h : VR S w gv n vs) : gv < w.heap.size := by
  obtain ⟨us, h1, -⟩ := h.ex
  exact h1.lt rfl
theorem VR.keep (h : VR S w gv n vs) (hk : ∀ k, S k ∨ k = gv → w'.heap[k]? = w.heap[k]?) : VR S w' gv n vs := by
  obtain ⟨us, h1, h2, h3⟩ := h.ex
  exact ⟨⟨us, h1.keep fun k hk' => hk k (.inr (by have hk'' : some gv = some k := hk'; injection hk'' with hk''; exact hk''.symm)), h2, fun i u x hu hx => kOb.keep (fun k hs => hk k (.inl hs)) (h3 i u x hu hx)⟩, h.len⟩
theorem VR.rd (h : VR S w gv n vs) : RdL kOb (fun k => S k ∨ k = gv) w (some ⟨gv, 0, none⟩) vs := by
  obtain ⟨us, h1, h2, h3⟩ := h.ex
  intro hp
  refine ⟨gv, 0, rfl, .inr rfl, fun i x hx => ?_⟩
  have hi : i < us.length := by
    have := (List.getElem?_eq_some_iff.1 hx).1
    have := h.len; omega
  refine ⟨[us[i]], kOb.mono (fun k hk => .inl hk) (h3 i us[i] x (List.getElem?_eq_getElem hi) hx), fun j u hu => ?_⟩
  cases j with
  | zero =>
    simp at hu; subst hu
    obtain ⟨q, c, e, hc, -⟩ := h1.set hi (.bool true)
    injection e with e; injection e with e; injection e with e
    subst e
    rw [show (0 : Nat) + (i * kOb.sz + 0) = i by simp [kOb]]
    exact hc
  | succ j => simp at hu
theorem VR.set (h : VR S w gv n vs) {k : Nat} (hk : k < n) (u : Value) :
    (∃ u0, w.cell? ⟨gv, k, none⟩ = some u0) ∧ w.frozen? ⟨gv, k, none⟩ = false ∧ ∀ (S' : Nat → Prop) (b : List UInt8), (∀ k, S k → S' k) → (∀ k, S' k → k ≠ gv) → kOb.R S' w (some b) [u] → VR S' (w.setCell ⟨gv, k, none⟩ u) gv n (vs.set k (some b)) := by
  obtain ⟨us, h1, h2, h3⟩ := h.ex
  have hk' : k < us.length := by omega
  obtain ⟨q, c, e, hc, hf, -, hr⟩ := h1.set hk' u
  injection e with e; injection e with e; injection e with e
  subst e
  refine ⟨⟨_, hc⟩, hf, fun S' b hS hne hb => ⟨⟨us.set k u, hr, by rw [List.length_set]; exact h2, fun i u' x hu hx => ?_⟩, by rw [List.length_set]; exact h.len⟩⟩
  have hkeep : ∀ j, S' j → (w.setCell ⟨gv, k, none⟩ u).heap[j]? = w.heap[j]? := fun j hj => Below.heap_setCell _ _ _ _ (hne j hj)
  rw [List.getElem?_set] at hu hx
  by_cases e : k = i
  · subst e
    simp only [if_true] at hu hx
    rw [if_pos hk'] at hu
    rw [if_pos (by rw [h.len]; exact hk)] at hx
    injection hu with hu; injection hx with hx
    subst hu; subst hx
    exact kOb.keep hkeep hb
  · rw [if_neg e] at hu hx
    exact kOb.keep hkeep (kOb.mono hS (h3 i u' x hu hx))
theorem VR.mono (h : VR S w gv n vs) (hs : ∀ k, S k → S' k) : VR S' w gv n vs := by
  obtain ⟨us, h1, h2, h3⟩ := h.ex
  exact ⟨⟨us, h1, h2, fun i u x hu hx => kOb.mono hs (h3 i u x hu hx)⟩, h.len⟩
end
theorem make_vals (n : Nat) (hn : n ≤ 1000000) (w : World) : (Instr.makeSlice 23 (.int .i64 (n : Int)) (.int .i64 (n : Int))).run Try.prog w = .ok (.slice (some ⟨w.heap.size, 0, none⟩) n n) (w.alloc (.cells (madeCells #[.slice none 0 0] n) 38)) :=
  run_make_row' 23 38 (.slice none 0 0) 24 Try.underlying23 infoSB rfl .i64 .i64 n (by omega) (by omega) w
theorem VR.made (w : World) {n : Nat} (hn : n ≤ 1000000) : VR (fun _ => False) (w.alloc (.cells (madeCells #[.slice none 0 0] n) 38)) w.heap.size n (List.replicate n none) := by
  refine ⟨⟨List.replicate n (.slice none 0 0), ⟨by simp, .inr ⟨w.heap.size, n, _, by simp, Nat.zero_le _, heap_alloc_new w _, by simp, by unfold maxLen; omega, ?_, ?_⟩⟩, by simp, fun i u x hu hx => ?_⟩, by simp⟩
  · rw [Nat.mul_one, ← Array.length_toList, toList_madeCells_one]; simp
  · rw [Nat.mul_one, toList_madeCells_one]; simp
  · obtain rfl := List.eq_of_mem_replicate (List.mem_of_getElem? hu)
    obtain rfl := List.eq_of_mem_replicate (List.mem_of_getElem? hx)
    rfl
end Go.Proofs.Ytdppjhfndolbjaa
