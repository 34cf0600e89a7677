/- How many verdicts of each kind: a tally's methods, told. -/
import Derived.Test.YtehkdionodnhjaaVerdict
import Derived.StillTailTactics
set_option linter.unusedVariables false
set_option linter.unusedSimpArgs false
namespace Go.Proofs.Ytehkdionodnhjaa
open Go.RowKit

theorem Ch.drewR {S : Nat → Prop} {w w' : World} (h : Ch S w w') : Ch S w { w' with drawn := w'.drawn + 1 } := ⟨h.os, h.tape, h.output, h.size, h.block⟩
/-- Block g is a tally of the counts f. -/
def Tl (w : World) (g : Nat) (f : Nat → Nat) : Prop := w.heap[g]? = some (.cells ((List.range 9).map fun i => Value.int .i64 (f i : Int)).toArray 49 (0, 0))
section
variable {w w' : World} {g : Nat} {f : Nat → Nat}
theorem Tl.lt (h : Tl w g f) : g < w.heap.size := (Array.getElem?_eq_some_iff.1 h).1
theorem Tl.keep (h : Tl w g f) (hk : w'.heap[g]? = w.heap[g]?) : Tl w' g f := hk.trans h
theorem Tl.ch {S : Nat → Prop} (h : Tl w g f) (hc : Ch S w w') (hn : ¬ S g) : Tl w' g f := h.keep (hc.block g h.lt hn)
theorem Tl.below (h : Tl w g f) (hc : Below w.heap.size w w') : Tl w' g f := h.keep (hc.block g h.lt)
theorem Tl.cell (h : Tl w g f) {i : Nat} (hi : i < 9) : w.cell? ⟨g, i, none⟩ = some (.int .i64 (f i : Int)) := by
  rw [cell_of_row w g i _ _ (0, 0) h, List.getElem?_toArray, List.getElem?_map, List.getElem?_range hi]; rfl
theorem Tl.frozen (h : Tl w g f) (i : Nat) : w.frozen? ⟨g, i, none⟩ = false := by
  have h' : w.heap[g]? = some (.cells ((List.range 9).map fun i => Value.int .i64 (f i : Int)).toArray 49 (0, 0)) := h
  simp [World.frozen?, h']
theorem Tl.set (h : Tl w g f) {i : Nat} (hi : i < 9) (n : Nat) : Tl (w.setCell ⟨g, i, none⟩ (.int .i64 (n : Int))) g (fun j => if j = i then n else f j) := by
  have h' : w.heap[g]? = some (.cells ((List.range 9).map fun i => Value.int .i64 (f i : Int)).toArray 49 (0, 0)) := h
  unfold Tl
  simp [World.setCell, Array.getElem?_modify, h']
  apply List.ext_getElem?
  intro j
  rw [List.getElem?_set]
  by_cases hj : j < 9
  · by_cases hij : i = j
    · subst hij; simp [hi, List.getElem?_map, List.getElem?_range hi]
    · simp [hij, List.getElem?_map, List.getElem?_range hj, Ne.symm hij]
  · have : ¬ i = j := by omega
    have e9 : (List.range 9)[j]? = none := by rw [List.getElem?_eq_none_iff]; simp; omega
    simp only [this, if_false, List.getElem?_map, e9, Option.map_none]
end
def addT (f : Nat → Nat) (xs : List Int) : Nat → Nat := fun i => f i + if 1 ≤ i ∧ i ≤ 8 then xs.count (i : Int) else 0
theorem addT_nil (f : Nat → Nat) : addT f [] = f := by funext i; simp [addT]
theorem addT_hit {f : Nat → Nat} {xs : List Int} {k : Nat} (hk : k < xs.length) {v : Nat} (hv : xs[k] = (v : Int)) (h1 : 1 ≤ v) (h8 : v ≤ 8) :
    addT f (xs.take (k + 1)) = fun j => if j = v then addT f (xs.take k) v + 1 else addT f (xs.take k) j := by
  funext j
  rw [addT, List.take_succ_eq_append_getElem hk, List.count_append, hv]
  by_cases hj : j = v
  · subst hj
    simp [addT, h1, h8]; omega
  · have : ¬ ((v : Int) = (j : Int)) := by omega
    simp [addT, hj, this, List.count_singleton]
theorem addT_miss {f : Nat → Nat} {xs : List Int} {k : Nat} (hk : k < xs.length) (hv : xs[k] < 1 ∨ 8 < xs[k]) : addT f (xs.take (k + 1)) = addT f (xs.take k) := by
  funext j
  rw [addT, List.take_succ_eq_append_getElem hk, List.count_append]
  by_cases hj : 1 ≤ j ∧ j ≤ 8
  · have : ¬ (xs[k] = (j : Int)) := by omega
    simp [addT, this, List.count_singleton]
  · simp [addT, hj]
theorem addT_le {f : Nat → Nat} {xs : List Int} {k i : Nat} : addT f (xs.take k) i ≤ f i + xs.length := by
  unfold addT
  split
  · have h1 := List.count_le_length (a := (i : Int)) (l := xs.take k)
    rw [List.length_take] at h1
    omega
  · omega

theorem nm_ne : ∀ k, 1 ≤ k → k ≤ 8 → nm k ≠ ⟨#[]⟩ := by
  intro k h1 h2
  have hi : k = 1 ∨ k = 2 ∨ k = 3 ∨ k = 4 ∨ k = 5 ∨ k = 6 ∨ k = 7 ∨ k = 8 := by omega
  rcases hi with rfl | rfl | rfl | rfl | rfl | rfl | rfl | rfl <;> exact fun h => absurd h (by decide)

theorem tally_at (g v : Nat) (hv : v < 9) : ∀ w, (Instr.indexAt 47 (.pointer (some ⟨g, 0, none⟩)) (.int .i64 (v : Int))).run Try.prog w = .ok (.pointer (some ⟨g, v, none⟩)) w := fun w => by
  have h1 : Try.prog.arrayLen 47 = 9 := by kernel_rfl
  have h2 : ∀ w, (sizeOf (Try.prog.elem 47)).run Try.prog w = .ok 1 w := fun w => by kernel_rfl
  have h3 := run_indexAt_array (P := Try.prog) (w := w) 47 ⟨g, 0, none⟩ .i64 (v : Int) (by kernel_rfl)
  rw [h1, if_pos (by omega), h2] at h3
  refine h3.trans ?_
  simp only [Result.andThen, Addr.add]
  split
  · rename_i h0; simp at h0; subst h0; rfl
  · simp
theorem nm_some (k : Nat) (h1 : 1 ≤ k) (h8 : k ≤ 8) : (nm k).toList.isEmpty = false := by
  have h := nm_ne k h1 h8
  have e := str_eq (nm k) ⟨#[]⟩
  rw [decide_eq_false h] at e
  have e0 : (⟨#[]⟩ : ByteArray).toList = [] := by rw [ByteArray.toList_eq]
  rw [e0] at e
  cases hl : (nm k).toList with
  | nil => rw [hl] at e; cases e
  | cons a l => rfl
set_option maxHeartbeats 1000000 in
theorem add_calls (g : Nat) (f : Nat → Nat) (A : Option Addr) (xs : List Int) (c : Nat) (S : Nat → Prop) (w : World) (hm : c ≤ maxLen) (hc : xs.length ≤ c) (h : RdL (Kd.int .i64) S w A xs) (hS : ∀ k, S k → k ≠ g ∧ k < w.heap.size)
    (ht : Tl w g f) (hb : ∀ i, f i + xs.length ≤ 1000000) :
    Calls Try.prog 22 #[.pointer (some ⟨g, 0, none⟩), .slice A xs.length c] w fun e w' => e = .returned (.tuple #[]) ∧ Tl w' g (addT f xs) ∧ Ch (· = g) w w' := by
  refine cps fun R hR => ?_
  unfold maxLen at hm
  have Hr := hide h
  have HS := hide hS
  have Hb := hide hb
  clear h hS hb
  go_enter Try.func22, Try.ntmps22
  go_wp2_with fail
  go_loopw [8] (fun i wr => ∃ k : Nat, k ≤ xs.length ∧ i = .int .i64 (k : Int) ∧ Tl wr g (addT f (xs.take k)) ∧ Ch (· = g) w wr) (fun i _ => xs.length - (intOf i).toNat)
  case atStart => exact ⟨0, Nat.zero_le _, rfl, by rw [List.take_zero, addT_nil]; exact ht, Ch.refl _⟩
  case round =>
    obtain ⟨k, hk, rfl, htl, hch⟩ := hrel
    by_cases hlt : k < xs.length
    · obtain ⟨b, off, u, rfl, hsb, hu, hcell⟩ := Hr.out.at1 rfl hlt
      have hsb' := HS.out b hsb
      replace hcell := hch.cell hcell (by simpa using hsb'.1)
      obtain ⟨rfl, wf⟩ := Kd.int_cell hu
      clear hu hsb'
      have bnd := bounds_i64 wf
      have Htl := hide htl
      clear htl wf ht
      have Hkl := hide hlt
      generalize hxx : xs[k] = x at hcell bnd
      by_cases hv : x < 1 ∨ 8 < x
      · have Hm := hide (addT_miss (f := f) hlt (hxx ▸ hv))
        have e := hide (nmI_out hv)
        clear hv hxx
        go_wp2_with fail
        refine (name_calls x wr).mono ?_
        rintro e1 w1 ⟨rfl, hb1⟩
        rw [e.out]
        go_wp2_with fail
        go_roundw
        case rel => exact ⟨k + 1, by omega, by go_num, by rw [Hm.out]; exact Htl.out.below hb1, hch.trans (Ch.of_below (S := fun _ => False) hb1) fun _ h => h.elim⟩
        case measure => simp [intOf]; omega
      · obtain ⟨v, rfl⟩ := Int.eq_ofNat_of_zero_le (show 0 ≤ x by omega)
        have h1 : 1 ≤ v := by omega
        have h8 : v ≤ 8 := by omega
        have Hm := hide (addT_hit (f := f) hlt hxx h1 h8)
        have e := hide (nmI_nat h1 h8)
        have hne := hide (nm_some v h1 h8)
        have hle := addT_le (f := f) (xs := xs) (k := k) (i := v)
        have hle2 := Hb.out v
        have hfl := Htl.out.lt
        generalize hN : addT f (xs.take k) v = N at hle Hm
        have hNb : N ≤ 1000000 := by omega
        have HN := hide hN
        clear hv hxx hle hle2 hN
        go_wp2_with fail
        refine (name_calls (v : Int) wr).mono ?_
        rintro e1 w1 ⟨rfl, hb1⟩
        rw [e.out]
        have ht1 := Htl.out.below hb1
        have hcel := ht1.cell (show v < 9 by omega)
        rw [HN.out] at hcel
        have hfz := ht1.frozen v
        have Hset := hide (ht1.set (show v < 9 by omega) (N + 1))
        have Hch1 := hide (hch.trans (Ch.of_below (S := fun _ => False) hb1) fun _ h => h.elim)
        clear ht1 Htl hch
        have hne1 := hne.out
        have hix := tally_at g v (by omega)
        have e1 : IntKind.i64.wrap (v : Int) = (v : Int) := by rw [IntKind.wrap_i64]; omega
        have e2 : IntKind.i64.wrap ((N : Int) + 1) = ((N + 1 : Nat) : Int) := by rw [IntKind.wrap_i64]; omega
        go_wp2_with fail
        go_still_tail 10, (by kernel_rfl)
        go_wp2_with fail
        refine ⟨⟨k + 1, by omega, by go_num, ?_, ?_⟩, by simp [intOf]; omega⟩
        · rw [Hm.out]; exact Hset.out.keep rfl
        · exact (Hch1.out.trans (Ch.set w1 ⟨g, v, none⟩ (.int .i64 ((N + 1 : Nat) : Int))) fun b hb => .inl hb).drewR
    · obtain rfl : k = xs.length := by omega
      rw [List.take_length] at htl
      have Htl := hide htl
      clear htl
      go_wp2_with fail
      go_end0
      exact hR.out _ _ ⟨rfl, Htl.out, hch⟩
end Go.Proofs.Ytehkdionodnhjaa
