/- One place of a row of the call's own, written. -/
import Derived.Test.YtfkofhdgokhodaaOwn
set_option linter.unusedVariables false
set_option linter.unusedSimpArgs false
namespace Go.Proofs.Ytfkofhdgokhodaa
open Go.RowKit

/-- One place of an own row is written. -/
theorem Row.set {w : World} {e : TypeId} {v : Value} {us : List Value} (h : Row w e v us) {i : Nat} (hi : i < us.length) (u : Value) :
    ∃ q c, v = .slice (some ⟨q, 0, none⟩) us.length c ∧ w.cell? ⟨q, i, none⟩ = some us[i] ∧ w.frozen? ⟨q, i, none⟩ = false ∧ q < w.heap.size ∧ Row (w.setCell ⟨q, i, none⟩ u) e v (us.set i u) := by
  rcases h.2 with ⟨_, hn⟩ | ⟨g, cap, cur, rfl, hg, hh, h1, h2, h3, h4⟩
  · omega
  rw [Nat.mul_one] at h3 h4
  have hlt := (Array.getElem?_eq_some_iff.1 hh).1
  have hci : cur[i]? = some us[i] := by
    have e1 : (List.take us.length cur.toList)[i]? = us[i]? := by rw [h4]
    rw [List.getElem?_take_of_lt hi, Array.getElem?_toList, List.getElem?_eq_getElem hi] at e1
    exact e1
  refine ⟨g, cap, rfl, by rw [cell_of_row w g _ cur e (0, 0) hh]; exact hci, by simp [World.frozen?, hh], hlt, ?_⟩
  refine ⟨(Nat.mul_one _).symm, .inr ⟨g, cap, cur.setIfInBounds i u, by rw [List.length_set], hg, ?_, by rw [List.length_set]; exact h1, h2, by rw [Array.size_setIfInBounds, h3, Nat.mul_one], ?_⟩⟩
  · simp [World.setCell, Array.getElem?_modify, hh]
  · rw [Nat.mul_one, Array.toList_setIfInBounds, List.length_set, List.take_set, h4]
end Go.Proofs.Ytfkofhdgokhodaa
