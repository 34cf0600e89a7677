/- Equations solved pass by pass: what does not fit is passed over; a row that is turned. -/
import Derived.Test.YtdppjhfndolbjaaBatPure2
set_option linter.unusedVariables false
set_option linter.unusedSimpArgs false
namespace Go.Proofs.Ytdppjhfndolbjaa

theorem stepF_odd {all size : Int} {o : EqB} (ho : okE all size o = false) (p : Vals × Bool) : stepF all size p o = p := by
  have hf : firesB all size p.1 o = false := by rw [firesB, ho]; rfl
  rw [stepF, step_not hf, hf, Bool.or_false]
theorem passF_odd {all size : Int} {o : EqB} (ho : okE all size o = false) (l r : List EqB) (vs : Vals) : passF all size (l ++ o :: r) vs = passF all size (l ++ r) vs := by
  rw [passF, passF, List.foldl_append, List.foldl_append, List.foldl_cons, stepF_odd ho]
theorem iter_odd {all size : Int} {o : EqB} (ho : okE all size o = false) (l r : List EqB) (vs : Vals) : ∀ k, iter all size (l ++ o :: r) vs k = iter all size (l ++ r) vs k
  | 0 => rfl
  | k + 1 => by
    show (passF all size (l ++ o :: r) (iter all size (l ++ o :: r) vs k)).1 = (passF all size (l ++ r) (iter all size (l ++ r) vs k)).1
    rw [iter_odd ho l r vs k, passF_odd ho]
theorem confB_odd {all size : Nat} {o : EqB} (ho : okE all size o = false) (l r : List EqB) (vs : Vals) : confB all size (l ++ o :: r) vs = confB all size (l ++ r) vs := by
  rw [confB, confB, List.any_append, List.any_append, List.any_cons, ho]
  simp
/-- One that does not fit, put anywhere, changes nothing. -/
theorem fin_odd {all size : Nat} {o : EqB} (ho : okE all size o = false) {l r : List EqB} {vs vs' : Vals} (h : Fin all size (l ++ r) vs) (h' : Fin all size (l ++ o :: r) vs') :
    vs' = vs ∧ confB all size (l ++ o :: r) vs' = confB all size (l ++ r) vs := by
  have h2 : Fin all size (l ++ r) vs' := by
    obtain ⟨k, hk⟩ := h'.it
    refine ⟨⟨k, by rw [hk, iter_odd ho]⟩, ?_⟩
    rw [← passF_odd ho]
    exact h'.no
  have e := Fin.one h2 h
  rw [e, confB_odd ho]
  exact ⟨rfl, rfl⟩
/-- Which one stands at i in the turned row. -/
def turnI (n b i : Nat) : Nat := (i * (2 * b + 1) + b) % n
theorem turnI_lt {n b i : Nat} (h : 0 < n) : turnI n b i < n := Nat.mod_lt _ h
def turnIx (n b j : Nat) : List Nat := (List.range j).map (turnI n b)
theorem turnIx_succ (n b j : Nat) : turnIx n b (j + 1) = turnIx n b j ++ [turnI n b j] := by
  rw [turnIx, List.range_succ, List.map_append]; rfl
def turnE (l : List EqB) (b j : Nat) : List EqB := (turnIx l.length b j).map fun i => l.getD i ([], [])
theorem turnE_succ (l : List EqB) (b j : Nat) : turnE l b (j + 1) = turnE l b j ++ [l.getD (turnI l.length b j) ([], [])] := by
  rw [turnE, turnIx_succ, List.map_append]; rfl
theorem turnE_len (l : List EqB) (b j : Nat) : (turnE l b j).length = j := by simp [turnE, turnIx]
/-- As many keys as equations: each stands there. -/
theorem full_mem {n : Nat} {K : List Nat} (hn : K.Nodup) (hl : K.length = n) (hlt : ∀ x ∈ K, x < n) {j : Nat} (hj : j < n) : j ∈ K := by
  by_cases h : j ∈ K
  · exact h
  · have hnd : (j :: K).Nodup := List.nodup_cons.2 ⟨h, hn⟩
    have := List.Nodup.length_le_of_subset hnd (l₂ := List.range n) (fun x hx => by
      rcases List.mem_cons.1 hx with rfl | hx
      · exact List.mem_range.2 hj
      · exact List.mem_range.2 (hlt x hx))
    simp at this
    omega
theorem turnE_mem {l : List EqB} {b : Nat} {K : List Nat} (hn : K.Nodup) (hl : K.length = l.length) (hK : ∀ x, x ∈ K ↔ x ∈ turnIx l.length b l.length) (e : EqB) : e ∈ l ↔ e ∈ turnE l b l.length := by
  constructor
  · intro he
    obtain ⟨j, hj, rfl⟩ := List.getElem_of_mem he
    have hlt : ∀ x ∈ K, x < l.length := fun x hx => by
      obtain ⟨i, -, rfl⟩ := List.mem_map.1 ((hK x).1 hx)
      exact turnI_lt (by omega)
    refine List.mem_map.2 ⟨j, (hK j).1 (full_mem hn hl hlt hj), ?_⟩
    rw [List.getD_eq_getElem?_getD, List.getElem?_eq_getElem hj]; rfl
  · intro he
    obtain ⟨i, hi, rfl⟩ := List.mem_map.1 he
    obtain ⟨k, hk, rfl⟩ := List.mem_map.1 hi
    have hn0 : 0 < l.length := by have := List.mem_range.1 hk; omega
    rw [List.getD_eq_getElem?_getD, List.getElem?_eq_getElem (turnI_lt hn0)]
    exact List.getElem_mem _
/-- Two that change places. -/
def swapE (l : List EqB) (i k : Nat) : List EqB := (l.set i (l.getD k ([], []))).set k (l.getD i ([], []))
theorem swapE_len (l : List EqB) (i k : Nat) : (swapE l i k).length = l.length := by simp [swapE]
theorem swapE_mem {l : List EqB} {i k : Nat} (hi : i < l.length) (hk : k < l.length) (e : EqB) : e ∈ l ↔ e ∈ swapE l i k := by
  have gi : l.getD i ([], []) = l[i] := by rw [List.getD_eq_getElem?_getD, List.getElem?_eq_getElem hi]; rfl
  have gk : l.getD k ([], []) = l[k] := by rw [List.getD_eq_getElem?_getD, List.getElem?_eq_getElem hk]; rfl
  have hk' : k < (l.set i l[k]).length := by rw [List.length_set]; exact hk
  rw [swapE, gi, gk]
  constructor
  · intro he
    obtain ⟨j, hj, rfl⟩ := List.getElem_of_mem he
    by_cases e1 : j = i
    · subst e1
      exact List.mem_iff_getElem.2 ⟨k, by simpa using hk, by rw [List.getElem_set_self]⟩
    · by_cases e2 : j = k
      · subst e2
        refine List.mem_iff_getElem.2 ⟨i, by simpa using hi, ?_⟩
        rw [List.getElem_set_ne (by omega), List.getElem_set_self]
      · refine List.mem_iff_getElem.2 ⟨j, by simpa using hj, ?_⟩
        rw [List.getElem_set_ne (by omega), List.getElem_set_ne (by omega)]
  · intro he
    rcases List.mem_or_eq_of_mem_set he with he | rfl
    · rcases List.mem_or_eq_of_mem_set he with he | rfl
      · exact he
      · exact List.getElem_mem _
    · exact List.getElem_mem _
end Go.Proofs.Ytdppjhfndolbjaa
