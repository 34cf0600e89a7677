/- Bytes: strings made of slices; rows of rows of bytes; bytes that are written. -/
import Derived.Test.YtfkofhdgokhodaaApp
import Derived.Test.YtfkofhdgokhodaaU
import Derived.Deep.OwnRows
import Derived.Laws.MakeOwn
set_option linter.unusedVariables false
set_option linter.unusedSimpArgs false
namespace Go.Proofs.Ytfkofhdgokhodaa
open Go.RowKit

abbrev bstr (xs : List UInt8) : ByteArray := ⟨xs.toArray⟩
section
variable {P : Program} {w : World}
theorem run_str {src e dst : TypeId} (hs : P.underlying src = some (.slice e)) (he : P.underlying e = some (.int .u8)) (hd : P.underlying dst = some .string) {A : Option Addr} {xs : List UInt8} (h : Src w A (xs.map encB)) (c : Nat) :
    (convert src dst (.slice A xs.length c)).run P w = .ok (.string (bstr xs)) w := by
  have hx : (xs.map fun x => (x.toNat : Int)).map (fun n => UInt8.ofNat n.toNat) = xs := by
    rw [List.map_map]
    conv => rhs; rw [← List.map_id xs]
    apply List.map_congr_left
    intro x _
    simp
  cases A with
  | none =>
    have hn : xs = [] := by
      rcases Nat.eq_zero_or_pos xs.length with h0 | h0
      · exact List.eq_nil_of_length_eq_zero h0
      · obtain ⟨ad, h, _⟩ := h (by simpa using h0)
        cases h
    subst hn
    exact run_convert_bytes_nil w src e hs he 0 c dst hd
  | some ad =>
    by_cases h0 : 0 < xs.length
    · obtain ⟨ad', e1, hc⟩ := h (by simpa using h0)
      injection e1 with e1
      subst e1
      obtain ⟨b, off, spot⟩ := ad
      have c0 := hc 0 (encB (xs[0]'h0)) (by rw [List.getElem?_map, List.getElem?_eq_getElem h0]; rfl)
      have hspot : spot = none := by simpa [Addr.add] using World.cell?_spot c0
      subst hspot
      have := run_convert_bytes_arg (P := P) w src e hs he b off xs.length c (xs.map fun x => (x.toNat : Int)) (by simp) (fun i hi => by
        have := hc i (encB (xs[i]'hi)) (by rw [List.getElem?_map, List.getElem?_eq_getElem hi]; rfl)
        rw [show (xs.map fun x => (x.toNat : Int)).getD i 0 = ((xs[i]'hi).toNat : Int) by simp [List.getD, hi]]
        unfold Addr.add at this
        split at this
        · rename_i h0; subst h0; exact this
        · exact this) dst hd
      rw [this]
      unfold strOfNums
      rw [hx]
    · have hn : xs = [] := List.eq_nil_of_length_eq_zero (by omega)
      subst hn
      rw [run_convert_bytes_string w src dst e _ _ c hs he hd]
      simp [Conv.bytesToString, loadCells, loadCellsFrom, bstr]
      rfl
end

/-! ### A row of rows of bytes, each in memory of its own -/
structure RowsOf (w : World) (e : TypeId) (v : Value) (xss : List (List UInt8)) (S : Nat → Prop) : Prop where
  row : ∃ us, Row w e v us ∧ us.length = xss.length ∧ ∀ (i : Nat) (u : Value) (xs : List UInt8), us[i]? = some u → xss[i]? = some xs → (Kd.sl Kd.byte).R S w xs [u]
  lt : ∀ k, S k → k < w.heap.size
  ne : ∀ k, S k → some k ≠ v.ownBlock
theorem RowsOf.nil {w : World} {e : TypeId} : RowsOf w e (.slice none 0 0) [] (fun _ => False) :=
  ⟨⟨[], Row.nil, rfl, fun i u xs hu _ => by simp at hu⟩, fun _ h => h.elim, fun _ h => h.elim⟩
theorem RowsOf.keep {w w' : World} {e : TypeId} {v : Value} {xss : List (List UInt8)} {S : Nat → Prop} (h : RowsOf w e v xss S) (hsz : w.heap.size ≤ w'.heap.size) (hk : ∀ k, S k ∨ v.ownBlock = some k → w'.heap[k]? = w.heap[k]?) : RowsOf w' e v xss S := by
  obtain ⟨us, h1, h2, h3⟩ := h.row
  exact ⟨⟨us, h1.keep fun k hv => hk k (.inr hv), h2, fun i u xs hu hx => (Kd.sl Kd.byte).keep (fun k hs => hk k (.inl hs)) (h3 i u xs hu hx)⟩, fun k hs => Nat.lt_of_lt_of_le (h.lt k hs) hsz, h.ne⟩
theorem RowsOf.shape {w : World} {e : TypeId} {v : Value} {xss : List (List UInt8)} {S : Nat → Prop} (h : RowsOf w e v xss S) : ∃ A c, v = .slice A xss.length c ∧ xss.length ≤ c ∧ c ≤ maxLen := by
  obtain ⟨us, h1, h2, _⟩ := h.row
  rw [← h2]; exact h1.shape
theorem RowsOf.rd {w : World} {e : TypeId} {A : Option Addr} {n c : Nat} {xss : List (List UInt8)} {S : Nat → Prop} (h : RowsOf w e (.slice A n c) xss S) : RdL (Kd.sl Kd.byte) (fun k => S k ∨ (Value.slice A n c).ownBlock = some k) w A xss := fun hp => by
  obtain ⟨us, h1, h2, h3⟩ := h.row
  have hs := h1.src
  obtain ⟨ad, hA, hc⟩ := hs (by omega)
  rcases h1.2 with ⟨he, hn⟩ | ⟨g, cap, cur, hv, _, hh, _⟩
  · omega
  · injection hv with hv1 hv2 hv3
    have hg : (Value.slice A n c).ownBlock = some g := by rw [hv1]; rfl
    refine ⟨g, 0, hv1, .inr hg, fun i xs hx => ?_⟩
    have hi : i < us.length := by
      have := (List.getElem?_eq_some_iff.1 hx).1
      omega
    have hr := h3 i us[i] xs (List.getElem?_eq_getElem hi) hx
    refine ⟨[us[i]], (Kd.sl Kd.byte).mono (fun k hs => .inl hs) hr, fun j u hu => ?_⟩
    cases j with
    | zero =>
      simp at hu; subst hu
      have := World.ownsRow.cells h1 hg i us[i] (List.getElem?_eq_getElem hi)
      show w.cell? ⟨g, 0 + (i * 1 + 0), none⟩ = _
      rw [Nat.mul_one, Nat.zero_add, Nat.add_zero]
      unfold Addr.add at this
      split at this
      · rename_i h0; subst h0; exact this
      · simpa using this
    | succ j => simp at hu
/-- One row more: v, v', what append left; u: the new row's value. -/
theorem RowsOf.push {w w' : World} {e : TypeId} {v v' u : Value} {us : List Value} {xss : List (List UInt8)} {xs : List UInt8} {S T : Nat → Prop} (h : RowsOf w e v xss S)
    (hu : (Kd.sl Kd.byte).R T w xs [u]) (hT : ∀ k, T k → k < w.heap.size ∧ some k ≠ v.ownBlock)
    (hrow : ∀ us, Row w e v us → Row w' e v' (us ++ [u])) (hg : w.grownBy w' v.ownBlock) (hat : v'.ownBlock = v.ownBlock ∨ ∃ k, w.heap.size ≤ k ∧ v'.ownBlock = some k) : RowsOf w' e v' (xss ++ [xs]) (fun k => S k ∨ T k) := by
  obtain ⟨us, h1, h2, h3⟩ := h.row
  have hlt : ∀ k, S k ∨ T k → k < w.heap.size := fun k hk => hk.elim (h.lt k) (fun ht => (hT k ht).1)
  have hne : ∀ k, S k ∨ T k → some k ≠ v.ownBlock := fun k hk => hk.elim (h.ne k) (fun ht => (hT k ht).2)
  have hkeep : ∀ k, S k ∨ T k → w'.heap[k]? = w.heap[k]? := fun k hk => hg.block k (hlt k hk) (hne k hk)
  refine ⟨⟨us ++ [u], hrow us h1, by simp [h2], fun i y ys hy hys => ?_⟩, fun k hk => Nat.lt_of_lt_of_le (hlt k hk) hg.size, fun k hk => ?_⟩
  · by_cases hi : i < us.length
    · rw [List.getElem?_append_left hi] at hy
      rw [List.getElem?_append_left (by omega)] at hys
      exact (Kd.sl Kd.byte).keep hkeep ((Kd.sl Kd.byte).mono (fun k hs => .inl hs) (h3 i y ys hy hys))
    · have hi' : i = us.length := by
        have := (List.getElem?_eq_some_iff.1 hy).1
        simp at this; omega
      subst hi'
      rw [List.getElem?_append_right (Nat.le_refl _)] at hy
      rw [h2, List.getElem?_append_right (Nat.le_refl _)] at hys
      simp at hy hys
      subst hy; subst hys
      exact (Kd.sl Kd.byte).keep hkeep ((Kd.sl Kd.byte).mono (fun k hs => .inr hs) hu)
  · rcases hat with hat | ⟨j, hj, hat⟩
    · rw [hat]; exact hne k hk
    · rw [hat]; intro e; injection e with e; have := hlt k hk; omega

/-! ### Bytes that are written: a run within a block -/
def Wr (w : World) (A : Option Addr) (g : Nat) (pre post : List Value) (e : TypeId) (ts : List UInt8) : Prop :=
  0 < ts.length → A = some ⟨g, pre.length, none⟩ ∧ w.heap[g]? = some (.cells (pre ++ (ts.map encB ++ post)).toArray e (0, 0))
theorem Wr.cell {w : World} {A : Option Addr} {g : Nat} {pre post : List Value} {e : TypeId} {ts : List UInt8} (h : Wr w A g pre post e ts) {i : Nat} (hi : i < ts.length) : A = some ⟨g, pre.length, none⟩ ∧ w.cell? ⟨g, pre.length + i, none⟩ = some (.int .u8 (ts[i].toNat : Int)) ∧ w.frozen? ⟨g, pre.length + i, none⟩ = false := by
  obtain ⟨hA, hh⟩ := h (by omega)
  refine ⟨hA, ?_, by simp [World.frozen?, hh]⟩
  rw [cell_of_row w g _ _ e (0, 0) hh]
  rw [List.getElem?_toArray, List.getElem?_append_right (by omega), Nat.add_sub_cancel_left, List.getElem?_append_left (by simpa using hi), List.getElem?_map, List.getElem?_eq_getElem hi]
  rfl
theorem Wr.set {w : World} {A : Option Addr} {g : Nat} {pre post : List Value} {e : TypeId} {ts : List UInt8} (h : Wr w A g pre post e ts) {i : Nat} (hi : i < ts.length) (x : UInt8) : Wr (w.setCell ⟨g, pre.length + i, none⟩ (.int .u8 (x.toNat : Int))) A g pre post e (ts.set i x) := fun hp => by
  obtain ⟨hA, hh⟩ := h (by omega)
  refine ⟨hA, ?_⟩
  simp [World.setCell, Array.getElem?_modify, hh]
  rw [List.set_append_left _ _ (by simpa using hi)]
  rfl
theorem Wr.keep {w w' : World} {A : Option Addr} {g : Nat} {pre post : List Value} {e : TypeId} {ts : List UInt8} (h : Wr w A g pre post e ts) (hk : w'.heap[g]? = w.heap[g]?) : Wr w' A g pre post e ts := fun hp => ⟨(h hp).1, hk.trans (h hp).2⟩
theorem Wr.src {w : World} {A : Option Addr} {g : Nat} {pre post : List Value} {e : TypeId} {ts : List UInt8} (h : Wr w A g pre post e ts) : Src w A (ts.map encB) := fun hp => by
  obtain ⟨hA, hh⟩ := h (by simpa using hp)
  refine ⟨_, hA, fun j u hu => ?_⟩
  rw [List.getElem?_map] at hu
  obtain ⟨x, hx, rfl⟩ := Option.map_eq_some_iff.1 hu
  have hj : j < ts.length := (List.getElem?_eq_some_iff.1 hx).1
  have := (h.cell hj).2.1
  rw [List.getElem?_eq_getElem hj] at hx
  injection hx with hx
  rw [hx] at this
  unfold Addr.add
  split
  · rename_i h0; subst h0; exact this
  · exact this
/-- A row of the call's own is written from its head. -/
theorem Row.wr {w : World} {e : TypeId} {A : Option Addr} {n c : Nat} {ts : List UInt8} (h : Row w e (.slice A n c) (ts.map encB)) : ∃ g post, Wr w A g [] post e ts ∧ (0 < ts.length → (Value.slice A n c).ownBlock = some g) ∧ (0 < ts.length → post.length + ts.length = c) := by
  rcases h.2 with ⟨he, hn⟩ | ⟨g, cap, cur, hv, _, hh, h1, h2, h3, h4⟩
  · refine ⟨0, [], fun hp => ?_, fun hp => ?_, fun hp => ?_⟩ <;> simp at hn <;> subst hn <;> simp at hp
  · injection hv with hv1 hv2 hv3
    rw [Nat.mul_one] at h4 h3
    refine ⟨g, cur.toList.drop (ts.map encB).length, fun hp => ⟨hv1, ?_⟩, fun hp => by rw [hv1]; rfl, fun hp => ?_⟩
    · rw [hh]
      congr 2
      rw [List.nil_append]
      conv => lhs; rw [← Array.toArray_toList (xs := cur), ← List.take_append_drop (ts.map encB).length cur.toList, h4]
    · simp at h1
      simp [h3, hv3]; omega
end Go.Proofs.Ytfkofhdgokhodaa
