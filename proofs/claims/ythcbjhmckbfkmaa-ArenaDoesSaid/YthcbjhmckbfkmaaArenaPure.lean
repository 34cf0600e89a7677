/- What the arena holds and what the reference's row holds: the plain law. -/
import Derived.Test.YthcbjhmckbfkmaaSame04
import Derived.Test.YthcbjhmckbfkmaaBlkDrop
set_option linter.unusedVariables false
set_option linter.unusedSimpArgs false
namespace Go.Proofs.Ythcbjhmckbfkmaa

abbrev LBlk := List (Int × List UInt8)
/-- The row l holds the blocks that are given out. -/
structure LI (l : LBlk) (bl : List (List UInt8)) (us : List Bool) : Prop where
  nd : l.Pairwise fun p q => p.1 ≠ q.1
  el : ∀ p ∈ l, ∃ k : Nat, p.1 = (k : Int) ∧ us[k]? = some true ∧ bl[k]? = some p.2
  al : ∀ k : Nat, us[k]? = some true → ∃ p ∈ l, p.1 = (k : Int)
/-- What is free. -/
structure FI (us : List Bool) (fr : List Nat) (live room peak : Nat) : Prop where
  fl : ∀ i ∈ fr, us[i]? = some false
  nd : fr.Nodup
  cnt : live + fr.length = us.length
  rm : us.length ≤ room
  pk : live ≤ peak
theorem findB_cases (l : LBlk) (i : Int) : (findB l i = -1 ∧ ∀ p ∈ l, p.1 ≠ i) ∨ ∃ (f : Nat) (hf : f < l.length), findB l i = (f : Int) ∧ l[f].1 = i := by
  unfold findB
  cases h : l.findIdx? (fun p => p.1 == i) with
  | none => exact .inl ⟨rfl, by rw [List.findIdx?_eq_none_iff] at h; intro p hp; simpa using h p hp⟩
  | some f =>
    obtain ⟨hf, h1, -⟩ := List.findIdx?_eq_some_iff_getElem.1 h
    exact .inr ⟨f, hf, rfl, by simpa using h1⟩
theorem hasB_true {us : List Bool} {k : Nat} : hasB us (k : Int) = true ↔ us[k]? = some true := by
  unfold hasB
  rw [Bool.and_eq_true, decide_eq_true_eq, Int.toNat_natCast, List.getD]
  cases h : us[k]? with
  | none => simp
  | some b => simp
section
variable {l : LBlk} {bl : List (List UInt8)} {us : List Bool}
theorem LI.find (h : LI l bl us) (i : Int) : (findB l i = -1 ∧ hasB us i = false ∧ got bl us i = []) ∨ ∃ (f : Nat) (hf : f < l.length) (k : Nat), findB l i = (f : Int) ∧ i = (k : Int) ∧ l[f].1 = i ∧ hasB us i = true ∧ bl[k]? = some l[f].2 ∧ got bl us i = l[f].2 := by
  rcases findB_cases l i with ⟨h1, h2⟩ | ⟨f, hf, h1, h2⟩
  · have hh : hasB us i = false := by
      cases hb : hasB us i with
      | false => rfl
      | true =>
        obtain ⟨k, rfl, hk, hu⟩ := hasB_nat hb
        obtain ⟨p, hp, e⟩ := h.al k (by rw [List.getElem?_eq_getElem hk, hu])
        exact absurd e (h2 p hp)
    exact .inl ⟨h1, hh, by simp [got, hh]⟩
  · obtain ⟨k, e, hu, hb⟩ := h.el l[f] (List.getElem_mem hf)
    have hh : hasB us i = true := by rw [← h2, e]; exact hasB_true.2 hu
    refine .inr ⟨f, hf, k, h1, h2 ▸ e, h2, hh, hb, ?_⟩
    rw [got, hh, if_pos rfl, ← h2, e, Int.toNat_natCast, List.getD, hb]; rfl
theorem LI.agree (h : LI l bl us) (room : Nat) : Agree l bl us room := fun i _ => by
  rcases h.find (i : Int) with ⟨h1, h2, h3⟩ | ⟨f, hf, k, h1, -, -, h4, -, h6⟩
  · exact .inl ⟨h2, h1, h3⟩
  · exact .inr ⟨h4, f, hf, h1, h6.symm⟩
theorem LI.nil : LI [] [] [] := ⟨List.Pairwise.nil, (fun p hp => by cases hp), fun k hk => by simp at hk⟩
theorem FI.nil {room : Nat} : FI [] [] 0 room 0 := ⟨(fun i hi => by cases hi), List.nodup_nil, rfl, Nat.zero_le _, Nat.le_refl _⟩
theorem LI.fresh (h : LI l bl us) (hul : us.length = bl.length) (x : List UInt8) : LI (l ++ [((bl.length : Int), x)]) (bl ++ [x]) (us ++ [true]) := by
  refine ⟨List.pairwise_append.2 ⟨h.nd, List.pairwise_singleton .., fun p hp q hq => ?_⟩, fun p hp => ?_, fun k hk => ?_⟩
  · simp at hq; subst hq
    obtain ⟨k, e, hu, hb⟩ := h.el p hp
    have := (List.getElem?_eq_some_iff.1 hb).1
    rw [e]; simp; omega
  · rcases List.mem_append.1 hp with hp | hp
    · obtain ⟨k, e, hu, hb⟩ := h.el p hp
      exact ⟨k, e, by rw [List.getElem?_append_left (List.getElem?_eq_some_iff.1 hu).1]; exact hu, by rw [List.getElem?_append_left (List.getElem?_eq_some_iff.1 hb).1]; exact hb⟩
    · simp at hp; subst hp
      exact ⟨bl.length, rfl, by rw [← hul]; simp, by simp⟩
  · by_cases hk' : k < us.length
    · rw [List.getElem?_append_left hk'] at hk
      obtain ⟨p, hp, e⟩ := h.al k hk
      exact ⟨p, List.mem_append.2 (.inl hp), e⟩
    · rw [List.getElem?_append_right (by omega)] at hk
      have : k = us.length := by
        have := (List.getElem?_eq_some_iff.1 hk).1
        simp at this; omega
      subst this
      exact ⟨_, List.mem_append.2 (.inr (List.mem_singleton.2 rfl)), by simp [hul]⟩
theorem LI.old (h : LI l bl us) (hul : us.length = bl.length) {i : Nat} (hi : us[i]? = some false) (x : List UInt8) : LI (l ++ [((i : Int), x)]) (bl.set i x) (us.set i true) := by
  have hlt := (List.getElem?_eq_some_iff.1 hi).1
  have hne : ∀ p ∈ l, p.1 ≠ (i : Int) := fun p hp e => by
    obtain ⟨k, e', hu, hb⟩ := h.el p hp
    rw [e'] at e
    obtain rfl : k = i := by omega
    rw [hu] at hi; cases hi
  refine ⟨List.pairwise_append.2 ⟨h.nd, List.pairwise_singleton .., fun p hp q hq => ?_⟩, fun p hp => ?_, fun k hk => ?_⟩
  · simp at hq; subst hq
    exact hne p hp
  · rcases List.mem_append.1 hp with hp | hp
    · obtain ⟨k, e, hu, hb⟩ := h.el p hp
      have hk : i ≠ k := fun e' => hne p hp (by rw [e, e'])
      exact ⟨k, e, by rw [List.getElem?_set_ne hk]; exact hu, by rw [List.getElem?_set_ne hk]; exact hb⟩
    · simp at hp; subst hp
      exact ⟨i, rfl, by rw [List.getElem?_set_self hlt], by rw [List.getElem?_set_self (by omega)]⟩
  · by_cases e : i = k
    · subst e
      exact ⟨_, List.mem_append.2 (.inr (List.mem_singleton.2 rfl)), rfl⟩
    · rw [List.getElem?_set_ne e] at hk
      obtain ⟨p, hp, e⟩ := h.al k hk
      exact ⟨p, List.mem_append.2 (.inl hp), e⟩
theorem dropB_mem {l : LBlk} {n : Int} {p : Int × List UInt8} : p ∈ dropB l n ↔ p ∈ l ∧ p.1 ≠ n := by
  simp [dropB, List.mem_filter]
theorem dropB_none {l : LBlk} {n : Int} (h : ∀ p ∈ l, p.1 ≠ n) : dropB l n = l := by
  rw [dropB, List.filter_eq_self]
  intro p hp
  simpa using h p hp
theorem dropB_length : ∀ {l : LBlk} {n : Int}, (l.Pairwise fun p q => p.1 ≠ q.1) → (∃ p ∈ l, p.1 = n) → (dropB l n).length + 1 = l.length
  | [], n, _, h => by obtain ⟨p, hp, _⟩ := h; cases hp
  | p :: r, n, hnd, h => by
    obtain ⟨h1, h2⟩ := List.pairwise_cons.1 hnd
    by_cases e : p.1 = n
    · have : dropB (p :: r) n = r := by
        have hb : (p.1 != n) = false := by simp [e]
        show (p :: r).filter _ = r
        rw [List.filter_cons_of_neg (by simp [e])]
        exact dropB_none fun q hq => fun e' => h1 q hq (by rw [e, e'])
      rw [this, List.length_cons]
    · obtain ⟨q, hq, hqn⟩ := h
      have hq' : q ∈ r := by
        rcases List.mem_cons.1 hq with rfl | hq
        · exact absurd hqn e
        · exact hq
      have ih := dropB_length h2 ⟨q, hq', hqn⟩
      have : dropB (p :: r) n = p :: dropB r n := by
        show (p :: r).filter _ = _
        rw [List.filter_cons_of_pos (by simp [e])]; rfl
      rw [this, List.length_cons, List.length_cons]; omega
theorem LI.free (h : LI l bl us) (i : Nat) : LI (dropB l (i : Int)) bl (us.set i false) := by
  refine ⟨h.nd.sublist List.filter_sublist, fun p hp => ?_, fun k hk => ?_⟩
  · obtain ⟨hp, hne⟩ := dropB_mem.1 hp
    obtain ⟨k, e, hu, hb⟩ := h.el p hp
    have hk : i ≠ k := fun e' => hne (by rw [e, e'])
    exact ⟨k, e, by rw [List.getElem?_set_ne hk]; exact hu, hb⟩
  · by_cases e : i = k
    · subst e
      rw [List.getElem?_set] at hk
      simp at hk
    · rw [List.getElem?_set_ne e] at hk
      obtain ⟨p, hp, e'⟩ := h.al k hk
      exact ⟨p, dropB_mem.2 ⟨hp, by rw [e']; omega⟩, e'⟩
theorem LI.put (h : LI l bl us) {f i : Nat} (hf : f < l.length) (hi : l[f].1 = (i : Int)) (x : List UInt8) : LI (l.set f ((i : Int), x)) (bl.set i x) us := by
  obtain ⟨k, e, hu, hb⟩ := h.el l[f] (List.getElem_mem hf)
  obtain rfl : k = i := by omega
  have hkl := (List.getElem?_eq_some_iff.1 hb).1
  have hpw := List.pairwise_iff_getElem.1 h.nd
  refine ⟨List.pairwise_iff_getElem.2 fun a b ha hb' hab => ?_, fun p hp => ?_, fun m hm => ?_⟩
  · rw [List.length_set] at ha hb'
    have h1 := hpw a b ha hb' hab
    rw [List.getElem_set, List.getElem_set]
    split
    · rename_i e1; subst e1
      rw [if_neg (by omega)]
      rw [hi] at h1; exact h1
    · split
      · rename_i e1; subst e1
        rw [hi] at h1; exact h1
      · exact h1
  · obtain ⟨m, hm, rfl⟩ := List.getElem_of_mem hp
    rw [List.length_set] at hm
    rw [List.getElem_set]
    split
    · exact ⟨k, rfl, hu, by rw [List.getElem?_set_self hkl]⟩
    · rename_i hne
      obtain ⟨q, e', hu', hb'⟩ := h.el l[m] (List.getElem_mem hm)
      have : k ≠ q := fun e2 => by
        subst e2
        rcases Nat.lt_or_gt_of_ne hne with h3 | h3
        · exact hpw f m hf hm h3 (by rw [hi, e'])
        · exact hpw m f hm hf h3 (by rw [hi, e'])
      exact ⟨q, e', hu', by rw [List.getElem?_set_ne this]; exact hb'⟩
  · obtain ⟨p, hp, e'⟩ := h.al m hm
    obtain ⟨a, ha, rfl⟩ := List.getElem_of_mem hp
    by_cases hfa : f = a
    · subst hfa
      exact ⟨_, List.mem_iff_getElem.2 ⟨f, by rw [List.length_set]; exact hf, List.getElem_set_self _⟩, by show (k : Int) = m; rw [← hi, e']⟩
    · exact ⟨_, List.mem_iff_getElem.2 ⟨a, by rw [List.length_set]; exact ha, by rw [List.getElem_set_ne hfa]⟩, e'⟩
end
section
variable {us : List Bool} {fr : List Nat} {live room peak : Nat}
theorem FI.fresh (h : FI us [] live room peak) (hr : us.length < room) : FI (us ++ [true]) [] (live + 1) room (max peak (live + 1)) :=
  ⟨(fun i hi => by cases hi), List.nodup_nil, by have := h.cnt; simp at this ⊢; omega, by simp; omega, by omega⟩
theorem FI.old {fr' : List Nat} {i : Nat} (h : FI us (fr' ++ [i]) live room peak) : us[i]? = some false ∧ FI (us.set i true) fr' (live + 1) room (max peak (live + 1)) := by
  have hi := h.fl i (by simp)
  obtain ⟨n1, -, n2⟩ := List.nodup_append.1 h.nd
  refine ⟨hi, fun k hk => ?_, n1, by have := h.cnt; simp at this ⊢; omega, by rw [List.length_set]; exact h.rm, by omega⟩
  have hne : i ≠ k := fun e => n2 k hk i (by simp) e.symm
  rw [List.getElem?_set_ne hne]
  exact h.fl k (by simp [hk])
theorem FI.free (h : FI us fr (live + 1) room peak) {i : Nat} (hi : us[i]? = some true) : FI (us.set i false) (fr ++ [i]) live room peak := by
  have hlt := (List.getElem?_eq_some_iff.1 hi).1
  refine ⟨fun k hk => ?_, List.nodup_append.2 ⟨h.nd, by simp, fun a ha b hb => ?_⟩, by have := h.cnt; simp; omega, by rw [List.length_set]; exact h.rm, by have := h.pk; omega⟩
  · by_cases e : i = k
    · subst e; rw [List.getElem?_set_self hlt]
    · rw [List.getElem?_set_ne e]
      rcases List.mem_append.1 hk with hk | hk
      · exact h.fl k hk
      · simp at hk; exact absurd hk.symm e
  · simp at hb; subst hb
    exact fun e => by subst e; have := h.fl a ha; rw [hi] at this; cases this
end
end Go.Proofs.Ythcbjhmckbfkmaa
