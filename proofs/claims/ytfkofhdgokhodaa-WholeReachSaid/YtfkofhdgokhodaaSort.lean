/- slices.Sort at []int, over a row of the call's own. -/
import Derived.Test.YtfkofhdgokhodaaCat
import Derived.Test.YtfkofhdgokhodaaLays
import Derived.Sort.OwnSortedInts
set_option linter.unusedVariables false
set_option linter.unusedSimpArgs false
namespace Go.Proofs.Ytfkofhdgokhodaa
open Go.RowKit Go.Sort

def srt (l : List Int) : List Int := l.mergeSort fun x y => decide (x ≤ y)
theorem srt_perm (l : List Int) : (srt l).Perm l := List.mergeSort_perm l _
theorem srt_len (l : List Int) : (srt l).length = l.length := (srt_perm l).length_eq
theorem srt_mem {l : List Int} {x : Int} : x ∈ srt l ↔ x ∈ l := (srt_perm l).mem_iff
theorem srt_le (l : List Int) : (srt l).Pairwise (· ≤ ·) := by
  have := List.pairwise_mergeSort (le := fun (x y : Int) => decide (x ≤ y)) (fun a b c h1 h2 => by simp at *; omega) (fun a b => by simp; omega) l
  exact this.imp fun h => by simpa using h
theorem srt_lt {l : List Int} (h : l.Nodup) : (srt l).Pairwise (· < ·) := by
  have h1 := srt_le l
  have h2 : (srt l).Nodup := (srt_perm l).nodup_iff.2 h
  exact (h1.and h2).imp fun h => by obtain ⟨a, b⟩ := h; omega
theorem sort_calls {w : World} {g n cap : Nat} {l : List Int} (h : Row w 3 (.slice (some ⟨g, 0, none⟩) n cap) (l.map encI)) (hn : n = l.length) (hl : l.length ≤ 1000000) :
    Calls Try.prog 38 #[.slice (some ⟨g, 0, none⟩) n cap] w fun e w' => e = .returned (.tuple #[]) ∧ Row w' 3 (.slice (some ⟨g, 0, none⟩) n cap) ((srt l).map encI) ∧ w.grownBy w' (some g) := by
  subst hn
  have hm : l.map encI = l.map (Value.int .i64) := rfl
  rw [hm] at h
  rcases h.2 with ⟨h1, -⟩ | ⟨g', cap', cur, hv, hg, hh, h1, h2, h3, h4⟩
  · cases h1
  · injection hv with e1 e2 e3
    injection e1 with e1; injection e1 with e1
    subst e1; subst e3
    have ht : cur.toList.take l.length = l.map (Value.int .i64) := by
      rw [List.length_map, Nat.mul_one] at h4
      exact h4
    rw [List.length_map] at h1
    have hH := holds_of_blockI hh ht
    have hlt := (Array.getElem?_eq_some_iff.1 hh).1
    refine (Any.slices_Sort_int lays189 g 0 cap l w hH hlt (by omega)).mono ?_
    rintro e w' ⟨rfl, k, os, rfl⟩
    refine ⟨rfl, ?_, grownBy_sortedI _⟩
    have := ownsRow_sortedI (w := w) (base := 0) (g := g) (cap := cap) (n := k) (e := 3) (os := os) (cur := cur) (ss := l) (ts := srt l) (srt_len l) (Nat.zero_le _) hh h1 h2 h3
    show World.ownsRow _ 0 3 1 _ ((srt l).map encI).length ((srt l).map encI)
    rw [List.length_map, srt_len]
    exact this
end Go.Proofs.Ytfkofhdgokhodaa
