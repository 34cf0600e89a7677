/- The outer code: which message blocks each auxiliary block has; the plain law. -/
import Derived.Test.YtfkofhdgokhodaaSome0
set_option linter.unusedVariables false
set_option linter.unusedSimpArgs false
namespace Go.Proofs.Ytfkofhdgokhodaa
open Go.RowKit

/-- The message blocks in which an auxiliary one is. -/
def hasF (of : List (List Int)) (j : Int) : List Int := ((List.range of.length).filter fun i => decide (j ∈ of[i]?.getD [])).map fun (i : Nat) => (i : Int)
theorem hasF_nil (j : Int) : hasF [] j = [] := rfl
theorem hasF_snoc (of : List (List Int)) (l : List Int) (j : Int) : hasF (of ++ [l]) j = hasF of j ++ if j ∈ l then [(of.length : Int)] else [] := by
  unfold hasF
  rw [List.length_append, List.length_singleton, List.range_succ, List.filter_append, List.map_append]
  congr 1
  · congr 1
    refine List.filter_congr fun i hi => ?_
    rw [List.getElem?_append_left (List.mem_range.1 hi)]
  · have e : (of ++ [l])[of.length]? = some l := by rw [List.getElem?_append_right (Nat.le_refl _), Nat.sub_self]; rfl
    by_cases h : j ∈ l <;> simp [List.filter, e, h]
theorem hasF_mem {of : List (List Int)} {j : Int} {i : Nat} : (i : Int) ∈ hasF of j ↔ i < of.length ∧ j ∈ of[i]?.getD [] := by
  unfold hasF
  rw [List.mem_map]
  constructor
  · rintro ⟨k, hk, e⟩
    obtain rfl : k = i := by omega
    rw [List.mem_filter, List.mem_range] at hk
    exact ⟨hk.1, of_decide_eq_true hk.2⟩
  · rintro ⟨h1, h2⟩
    exact ⟨i, List.mem_filter.2 ⟨List.mem_range.2 h1, decide_eq_true h2⟩, rfl⟩
theorem hasF_bd {of : List (List Int)} {j x : Int} (h : x ∈ hasF of j) : 0 ≤ x ∧ x < (of.length : Int) := by
  unfold hasF at h
  rw [List.mem_map] at h
  obtain ⟨k, hk, rfl⟩ := h
  rw [List.mem_filter, List.mem_range] at hk
  omega
theorem hasF_lt (of : List (List Int)) (j : Int) : (hasF of j).Pairwise (· < ·) := by
  unfold hasF
  rw [List.pairwise_map]
  exact (List.pairwise_lt_range.filter _).imp fun h => Int.ofNat_lt.2 h
theorem hasF_len (of : List (List Int)) (j : Int) : (hasF of j).length ≤ of.length := by
  unfold hasF
  rw [List.length_map]
  exact Nat.le_trans (List.length_filter_le _ _) (Nat.le_of_eq List.length_range)
/-- All of them, and those while a list is being told. -/
def hasL (of : List (List Int)) (a : Nat) : List (List Int) := (List.range a).map fun (j : Nat) => hasF of (j : Int)
def midL (of : List (List Int)) (l : List Int) (t a : Nat) : List (List Int) := (List.range a).map fun (j : Nat) => hasF of (j : Int) ++ if (j : Int) ∈ l.take t then [(of.length : Int)] else []
theorem midL_zero (of : List (List Int)) (l : List Int) (a : Nat) : midL of l 0 a = hasL of a := by
  unfold midL hasL
  simp
theorem midL_full (of : List (List Int)) (l : List Int) (a : Nat) : midL of l l.length a = hasL (of ++ [l]) a := by
  unfold midL hasL
  rw [List.take_length]
  exact List.map_congr_left fun j _ => (hasF_snoc of l _).symm
theorem hasL_len (of : List (List Int)) (a : Nat) : (hasL of a).length = a := by simp [hasL]
theorem midL_len (of : List (List Int)) (l : List Int) (t a : Nat) : (midL of l t a).length = a := by simp [midL]
theorem hasL_at (of : List (List Int)) {a j : Nat} (h : j < a) : (hasL of a)[j]? = some (hasF of (j : Int)) := by
  unfold hasL; rw [List.getElem?_map, List.getElem?_range h]; rfl
theorem hasL_nil (a : Nat) : hasL [] a = List.replicate a [] := by
  refine List.ext_getElem? fun i => ?_
  by_cases h : i < a
  · rw [hasL_at [] h, List.getElem?_replicate, if_pos h]; rfl
  · rw [List.getElem?_eq_none (by rw [hasL_len]; omega), List.getElem?_eq_none (by simp; omega)]
theorem midL_at (of : List (List Int)) {l : List Int} {t a j : Nat} (hn : l.Nodup) (ht : t < l.length) (hj : l[t] = (j : Int)) (h : j < a) : (midL of l t a)[j]? = some (hasF of (j : Int)) := by
  unfold midL
  rw [List.getElem?_map, List.getElem?_range h]
  have : (j : Int) ∉ l.take t := by
    rw [← hj, List.mem_take_iff_getElem]
    rintro ⟨i, hi, e⟩
    exact (List.pairwise_iff_getElem.1 hn i t (by omega) ht (by omega)) e
  simp [this]
theorem midL_step (of : List (List Int)) {l : List Int} {t a j : Nat} (hn : l.Nodup) (ht : t < l.length) (hj : l[t] = (j : Int)) (h : j < a) : midL of l (t + 1) a = (midL of l t a).set j (hasF of (j : Int) ++ [(of.length : Int)]) := by
  refine List.ext_getElem? fun i => ?_
  rw [List.getElem?_set]
  by_cases hi : i < a
  · have e1 : ∀ s, (midL of l s a)[i]? = some (hasF of (i : Int) ++ if (i : Int) ∈ l.take s then [(of.length : Int)] else []) := fun s => by
      unfold midL; rw [List.getElem?_map, List.getElem?_range hi]; rfl
    rw [e1, e1, List.take_succ_eq_append_getElem ht, hj]
    by_cases hij : j = i
    · subst hij
      simp [midL_len, h]
    · have : ¬ (i : Int) = (j : Int) := by omega
      simp [hij, this]
  · rw [List.getElem?_eq_none (by rw [midL_len]; omega), List.getElem?_eq_none (by rw [midL_len]; omega), if_neg (by omega)]
/-- How many places. -/
def plF (of : List (List Int)) (k : Nat) : Nat := ((List.range k).map fun (j : Nat) => (hasF of (j : Int)).length + 1).sum
theorem plF_succ (of : List (List Int)) (k : Nat) : plF of (k + 1) = plF of k + ((hasF of (k : Int)).length + 1) := by
  unfold plF; rw [List.range_succ, List.map_append, List.sum_append]; simp
theorem plF_bd (of : List (List Int)) (k : Nat) : plF of k ≤ k * (of.length + 1) := by
  induction k with
  | zero => simp [plF]
  | succ k ih => rw [plF_succ, Nat.succ_mul]; have := hasF_len of (k : Int); omega
/-- How many below k are in a list. -/
def cntF (l : List Int) : Nat → Nat
  | 0 => 0
  | k + 1 => cntF l k + if (k : Int) ∈ l then 1 else 0
theorem cnt_one (x : Int) (h0 : 0 ≤ x) : ∀ k : Nat, cntF [x] k = if x < (k : Int) then 1 else 0
  | 0 => by simp [cntF]; omega
  | k + 1 => by
    rw [cntF, cnt_one x h0 k]
    simp only [List.mem_singleton]
    split <;> split <;> split <;> omega
theorem cnt_cons {x : Int} {l : List Int} (h : x ∉ l) : ∀ k, cntF (x :: l) k = cntF [x] k + cntF l k
  | 0 => rfl
  | k + 1 => by
    rw [cntF, cntF, cntF, cnt_cons h k]
    by_cases e : (k : Int) = x
    · have : (k : Int) ∉ l := e ▸ h
      simp [e, h]; omega
    · simp [e]; omega
theorem cnt_all {l : List Int} {a : Nat} (hn : l.Nodup) (hb : ∀ x ∈ l, 0 ≤ x ∧ x < (a : Int)) : cntF l a = l.length := by
  induction l with
  | nil => 
    have : ∀ k, cntF [] k = 0 := fun k => by induction k with
      | zero => rfl
      | succ k ih => rw [cntF, ih]; simp
    exact this a
  | cons x l ih =>
    rw [List.nodup_cons] at hn
    have hx := hb x List.mem_cons_self
    rw [cnt_cons hn.1, cnt_one x hx.1, if_pos hx.2, ih hn.2 fun y hy => hb y (List.mem_cons_of_mem _ hy), List.length_cons]
    omega
theorem plF_snoc (of : List (List Int)) (l : List Int) : ∀ k, plF (of ++ [l]) k = plF of k + cntF l k
  | 0 => rfl
  | k + 1 => by
    rw [plF_succ, plF_succ, plF_snoc of l k, cntF, hasF_snoc, List.length_append]
    split <;> simp <;> omega
/-- What was drawn for each message block. -/
def ofL (a q : Nat) (s : UInt64) : Nat → List (List Int)
  | 0 => []
  | i + 1 => ofL a q s i ++ [someL a q (seedF [s, 1, UInt64.ofNat i])]
theorem ofL_len (a q : Nat) (s : UInt64) : ∀ i, (ofL a q s i).length = i
  | 0 => rfl
  | i + 1 => by rw [ofL, List.length_append, ofL_len a q s i]; rfl
theorem ofL_at (a q : Nat) (s : UInt64) : ∀ {n i : Nat}, i < n → (ofL a q s n)[i]? = some (someL a q (seedF [s, 1, UInt64.ofNat i]))
  | n + 1, i, h => by
    rw [ofL]
    by_cases hi : i < n
    · rw [List.getElem?_append_left (by rw [ofL_len]; exact hi), ofL_at a q s hi]
    · obtain rfl : i = n := by omega
      rw [List.getElem?_append_right (by rw [ofL_len]; exact Nat.le_refl _), ofL_len, Nat.sub_self]; rfl
theorem someL_nodup (b m : Nat) (s : UInt64) : (someL b m s).Nodup := (someL_lt b m s).imp fun h => by omega
theorem plF_ofL {a q : Nat} (h : q ≤ a) (s : UInt64) : ∀ n, plF (ofL a q s n) a = n * q + a
  | 0 => by
    rw [ofL, Nat.zero_mul, Nat.zero_add]
    have : ∀ k, plF [] k = k := fun k => by induction k with
      | zero => rfl
      | succ k ih => rw [plF_succ, ih, hasF_nil]; rfl
    exact this a
  | n + 1 => by
    rw [ofL, plF_snoc, plF_ofL h s n, cnt_all (someL_nodup _ _ _) fun x hx => someL_bd h _ hx, someL_len, Nat.succ_mul]
    omega
/-- An equation. -/
def eqnF (of : List (List Int)) (j : Nat) : List Int := hasF of (j : Int) ++ [((of.length + j : Nat) : Int)]
theorem eqnF_lt (of : List (List Int)) (j : Nat) : (eqnF of j).Pairwise (· < ·) := by
  unfold eqnF
  rw [List.pairwise_append]
  refine ⟨hasF_lt of _, by simp, fun x hx y hy => ?_⟩
  rw [List.mem_singleton.1 hy]
  have := hasF_bd hx
  omega
theorem eqnF_len (of : List (List Int)) (j : Nat) : (eqnF of j).length = (hasF of (j : Int)).length + 1 := by simp [eqnF]
end Go.Proofs.Ytfkofhdgokhodaa
