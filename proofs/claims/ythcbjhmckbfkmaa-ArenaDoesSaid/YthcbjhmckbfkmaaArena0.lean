/- An arena's memory: its head, its rows of blocks, of what is given out, and of what came back. -/
import Derived.Test.YthcbjhmckbfkmaaAppS
import Derived.Test.YthcbjhmckbfkmaaBlockLaws
import Derived.Test.YthcbjhmckbfkmaaCh
import Derived.Deep.RegionHeld
import Derived.Deep.RegionHeldLaw
set_option linter.unusedVariables false
set_option linter.unusedSimpArgs false
namespace Go.Proofs.Ythcbjhmckbfkmaa
open Go.RowKit

/-- One place of an own row is written. -/
theorem Row.set {w : World} {e : TypeId} {v : Value} {us : List Value} (h : Row w e v us) {i : Nat} (hi : i < us.length) (u : Value) :
    ∃ q c, v = .slice (some ⟨q, 0, none⟩) us.length c ∧ w.cell? ⟨q, i, none⟩ = some us[i] ∧ w.frozen? ⟨q, i, none⟩ = false ∧ q < w.heap.size ∧ Row (w.setCell ⟨q, i, none⟩ u) e v (us.set i u) := by
  rcases h.2 with ⟨_, hn⟩ | ⟨g, cap, cur, rfl, hg, hh, h1, h2, h3, h4⟩
  · omega
  rw [Nat.mul_one] at h3 h4
  have hlt := (Array.getElem?_eq_some_iff.1 hh).1
  have hci : cur[i]? = some us[i] := by
    have e1 : (List.take us.length cur.toList)[i]? = us[i]? := by rw [h4]
    rw [List.getElem?_take_of_lt hi, Array.getElem?_toList, List.getElem?_eq_getElem hi] at e1
    exact e1
  refine ⟨g, cap, rfl, by rw [cell_of_row w g _ cur e (0, 0) hh]; exact hci, by simp [World.frozen?, hh], hlt, ?_⟩
  refine ⟨(Nat.mul_one _).symm, .inr ⟨g, cap, cur.setIfInBounds i u, by rw [List.length_set], hg, ?_, by rw [List.length_set]; exact h1, h2, by rw [Array.size_setIfInBounds, h3, Nat.mul_one], ?_⟩⟩
  · simp [World.setCell, Array.getElem?_modify, hh]
  · rw [Nat.mul_one, Array.toList_setIfInBounds, List.length_set, List.take_set, h4]
/-- An arena: blocks of n bytes, at most room of them; their bytes, which are given out, which came back. -/
structure Ar (w : World) (g n room : Nat) (bl : List (List UInt8)) (us : List Bool) (fr : List Nat) (live peak : Nat) (vb vu vf : Value) (qs : List Nat) : Prop where
  head : w.heap[g]? = some (.cells #[.int .i64 (n : Int), .int .i64 (room : Int), vb, vu, vf, .int .i64 (live : Int), .int .i64 (peak : Int)] 67 (0, 0))
  rb : Row w 22 vb (qs.map fun q => .slice (some ⟨q, 0, none⟩) n n)
  ru : Row w 4 vu (us.map .bool)
  rf : Row w 3 vf (fr.map fun i : Nat => .int .i64 ((i : Nat) : Int))
  ql : qs.length = bl.length
  ul : us.length = bl.length
  bk : ∀ (i q : Nat) (b : List UInt8), qs[i]? = some q → bl[i]? = some b → b.length = n ∧ w.heap[q]? = some (.cells (b.map encB).toArray 5 (0, 0))
  nd : (g :: qs).Nodup
  ob : ∀ k, vb.ownBlock = some k → k ∉ g :: qs
  ou : ∀ k, vu.ownBlock = some k → k ∉ g :: qs
  of : ∀ k, vf.ownBlock = some k → k ∉ g :: qs
  bu : ∀ k, vb.ownBlock = some k → vu.ownBlock ≠ some k
  bf : ∀ k, vb.ownBlock = some k → vf.ownBlock ≠ some k
  uf : ∀ k, vu.ownBlock = some k → vf.ownBlock ≠ some k
/-- Has, by what is given out. -/
def hasB (us : List Bool) (i : Int) : Bool := decide (0 ≤ i) && us.getD i.toNat false
theorem cells7 {w : World} {g : Nat} {t : TypeId} {v0 v1 v2 v3 v4 v5 v6 : Value} (h : w.heap[g]? = some (.cells #[v0, v1, v2, v3, v4, v5, v6] t (0, 0))) :
    w.cell? ⟨g, 0, none⟩ = some v0 ∧ w.cell? ⟨g, 1, none⟩ = some v1 ∧ w.cell? ⟨g, 2, none⟩ = some v2 ∧ w.cell? ⟨g, 3, none⟩ = some v3 ∧ w.cell? ⟨g, 4, none⟩ = some v4 ∧ w.cell? ⟨g, 5, none⟩ = some v5 ∧ w.cell? ⟨g, 6, none⟩ = some v6 := by
  refine ⟨?_, ?_, ?_, ?_, ?_, ?_, ?_⟩ <;> rw [cell_of_row w g _ _ t (0, 0) h] <;> rfl
section
variable {w : World} {g n room : Nat} {bl : List (List UInt8)} {us : List Bool} {fr : List Nat} {live peak : Nat} {vb vu vf : Value} {qs : List Nat}
theorem live_calls (h : Ar w g n room bl us fr live peak vb vu vf qs) : Calls Try.prog 25 #[.pointer (some ⟨g, 0, none⟩)] w fun e w' => e = .returned (.int .i64 (live : Int)) ∧ w = w' := by
  refine cps fun R hR => ?_
  obtain ⟨-, -, -, -, -, c5, -⟩ := cells7 h.head
  clear h
  go_enter Try.func25, Try.ntmps25
  go_wp2_with fail
  exact hR.out _ _ ⟨rfl, rfl⟩
theorem peak_calls (h : Ar w g n room bl us fr live peak vb vu vf qs) : Calls Try.prog 27 #[.pointer (some ⟨g, 0, none⟩)] w fun e w' => e = .returned (.int .i64 (peak : Int)) ∧ w = w' := by
  refine cps fun R hR => ?_
  obtain ⟨-, -, -, -, -, -, c6⟩ := cells7 h.head
  clear h
  go_enter Try.func27, Try.ntmps27
  go_wp2_with fail
  exact hR.out _ _ ⟨rfl, rfl⟩
theorem size_calls (h : Ar w g n room bl us fr live peak vb vu vf qs) : Calls Try.prog 37 #[.pointer (some ⟨g, 0, none⟩)] w fun e w' => e = .returned (.int .i64 (n : Int)) ∧ w = w' := by
  refine cps fun R hR => ?_
  obtain ⟨c0, -, -, -, -, -, -⟩ := cells7 h.head
  clear h
  go_enter Try.func37, Try.ntmps37
  go_wp2_with fail
  exact hR.out _ _ ⟨rfl, rfl⟩
theorem has_calls (i : Int) (h : Ar w g n room bl us fr live peak vb vu vf qs) : Calls Try.prog 35 #[.pointer (some ⟨g, 0, none⟩), .int .i64 i] w fun e w' => e = .returned (.bool (hasB us i)) ∧ w = w' := by
  refine cps fun R hR => ?_
  obtain ⟨-, -, -, c3, -, -, -⟩ := cells7 h.head
  have hru := h.ru
  clear h
  by_cases hi : 0 ≤ i
  · obtain ⟨i, rfl⟩ := Int.eq_ofNat_of_zero_le hi
    obtain ⟨A, c, rfl, hc, hm⟩ := hru.shape
    rw [List.length_map] at *
    by_cases hl : i < us.length
    · obtain ⟨q, c', e, hcell, -, -, -⟩ := hru.set (i := i) (by simpa using hl) (.bool true)
      injection e with e e2 e3
      clear e2 e3
      subst e
      rw [List.getElem_map] at hcell
      have hb := hide (show hasB us (i : Int) = us[i] by simp [hasB, hl])
      generalize us[i] = x at hcell hb
      generalize us.length = m at *
      clear hru
      go_enter Try.func35, Try.ntmps35
      go_wp2_with fail
      exact hR.out _ _ ⟨by rw [hb.out]; rfl, rfl⟩
    · have hb := hide (show hasB us (i : Int) = false by simp [hasB, hl])
      generalize us.length = m at *
      clear hru
      go_enter Try.func35, Try.ntmps35
      go_wp2_with fail
      exact hR.out _ _ ⟨by rw [hb.out]; rfl, rfl⟩
  · have hb := hide (show hasB us i = false by simp [hasB, hi])
    clear hru
    go_enter Try.func35, Try.ntmps35
    go_wp2_with fail
    exact hR.out _ _ ⟨by rw [hb.out], rfl⟩
end
end Go.Proofs.Ythcbjhmckbfkmaa
