/- Blocks peeled off one by one: the plain law. -/
import Derived.Test.YtdppjhfndolbjaaBatPure2
set_option linter.unusedVariables false
set_option linter.unusedSimpArgs false
namespace Go.Proofs.Ytdppjhfndolbjaa

/-- How many of an equation's blocks aren't among those that were looked at. -/
def restP (P of : List Int) : List Int := of.filter fun x => !decide (x ∈ P)
theorem restP_nil (of : List Int) : restP [] of = of := by
  unfold restP
  exact List.filter_eq_self.2 fun x _ => by simp
theorem restP_snoc (P : List Int) (b : Int) (of : List Int) : restP (P ++ [b]) of = (restP P of).filter fun x => !decide (x = b) := by
  unfold restP
  rw [List.filter_filter]
  congr 1
  funext x
  by_cases h1 : x ∈ P <;> by_cases h2 : x = b <;> simp [h1, h2]
theorem filter_ne_len : ∀ {l : List Int} {b : Int}, l.Nodup → b ∈ l → (l.filter fun x => !decide (x = b)).length + 1 = l.length
  | [], b, _, h => by cases h
  | x :: r, b, hn, h => by
    obtain ⟨h1, h2⟩ := List.nodup_cons.1 hn
    by_cases e : x = b
    · subst e
      have : (r.filter fun y => !decide (y = x)) = r := List.filter_eq_self.2 fun y hy => by
        have : y ≠ x := fun e => h1 (e ▸ hy)
        simp [this]
      rw [List.filter_cons_of_neg (by simp), this]; rfl
    · have hb : b ∈ r := (List.mem_cons.1 h).resolve_left fun e' => e e'.symm
      rw [List.filter_cons_of_pos (by simp [e]), List.length_cons, List.length_cons, filter_ne_len h2 hb]
theorem restP_out {P of : List Int} {b : Int} (h : b ∉ of) : restP (P ++ [b]) of = restP P of := by
  rw [restP_snoc]
  exact List.filter_eq_self.2 fun x hx => by
    have h1 : x ∈ of := (List.mem_filter.1 (show x ∈ of.filter (fun x => !decide (x ∈ P)) from hx)).1
    have : x ≠ b := fun e => h (e ▸ h1)
    simp [this]
theorem restP_in {P of : List Int} {b : Int} (hn : of.Nodup) (h : b ∈ of) (hb : b ∉ P) : (restP (P ++ [b]) of).length + 1 = (restP P of).length := by
  rw [restP_snoc]
  exact filter_ne_len (hn.filter _) (List.mem_filter.2 ⟨h, by simp [hb]⟩)
/-- What is to be known of the equations, and of all blocks that follow. -/
structure Peel (m : Nat) (of : List (List Int)) (vs : Vals) : Prop where
  shut : ∀ (k : Nat) (h : k < of.length), fitsI m of[k] = true → (leftV vs of[k]).length ≠ 1
  der : ∃ (n : Nat) (es : List EqB), Der m n (· ∈ es) vs ∧ ∀ e ∈ es, ∃ (k : Nat) (h : k < of.length), e.1 = of[k]
  len : vs.length = m
/-- While it is peeled: what came, what was looked at, how many are left. q tells how many of the equations know of the last one. -/
structure PI (m : Nat) (of : List (List Int)) (vs : Vals) (E : List Int) (P : Nat → List Int) (lv : Nat → Int) : Prop where
  nd : E.Nodup
  kn : ∀ x ∈ E, knB vs x = true
  sub : ∀ k, ∀ x ∈ P k, x ∈ E
  left : ∀ (k : Nat) (h : k < of.length), lv k = if fitsI m of[k] = true then ((restP (P k) of[k]).length : Int) else -1
  full : ∀ (k : Nat) (h : k < of.length), fitsI m of[k] = true → (restP (P k) of[k]).length ≤ 1 → ∀ x ∈ of[k], x ∈ E
def pushE (E xs : List Int) : List Int := xs.foldl (fun e x => if x ∈ e then e else e ++ [x]) E
theorem pushE_mem {x : Int} : ∀ {xs E : List Int}, x ∈ pushE E xs ↔ x ∈ E ∨ x ∈ xs
  | [], E => by simp [pushE]
  | y :: r, E => by
    show x ∈ pushE (if y ∈ E then E else E ++ [y]) r ↔ _
    rw [pushE_mem]
    split
    · rename_i h
      constructor
      · rintro (h1 | h1)
        · exact .inl h1
        · exact .inr (List.mem_cons_of_mem _ h1)
      · rintro (h1 | h1)
        · exact .inl h1
        · rcases List.mem_cons.1 h1 with rfl | h1
          · exact .inl h
          · exact .inr h1
    · simp [or_assoc]
theorem pushE_nodup : ∀ {xs E : List Int}, E.Nodup → (pushE E xs).Nodup
  | [], E, h => h
  | y :: r, E, h => by
    show (pushE (if y ∈ E then E else E ++ [y]) r).Nodup
    refine pushE_nodup ?_
    split
    · exact h
    · rename_i hy
      exact List.nodup_append.2 ⟨h, by simp, fun a ha c hc => by
        simp at hc; rw [hc]; exact fun e => hy (e ▸ ha)⟩
theorem pushE_take : ∀ {xs E : List Int} {p : Nat}, p ≤ E.length → (pushE E xs).take p = E.take p ∧ E.length ≤ (pushE E xs).length
  | [], E, p, h => ⟨rfl, Nat.le_refl _⟩
  | y :: r, E, p, h => by
    show (pushE (if y ∈ E then E else E ++ [y]) r).take p = _ ∧ _ ≤ (pushE (if y ∈ E then E else E ++ [y]) r).length
    split
    · exact pushE_take h
    · obtain ⟨h1, h2⟩ := pushE_take (xs := r) (E := E ++ [y]) (p := p) (by rw [List.length_append]; omega)
      refine ⟨by rw [h1, List.take_append_of_le_length h], ?_⟩
      rw [List.length_append] at h2
      omega
section
variable {m : Nat} {of : List (List Int)} {vs : Vals} {E : List Int} {P : Nat → List Int} {lv : Nat → Int}
theorem kn_range (h : vs.length = m) {x : Int} (hx : knB vs x = true) : ∃ k : Nat, x = (k : Int) ∧ k < m := by
  obtain ⟨k, b, rfl, hb⟩ := knB_iff.1 hx
  exact ⟨k, rfl, by have := (List.getElem?_eq_some_iff.1 hb).1; omega⟩
theorem PI.small (h : PI m of vs E P lv) (hl : vs.length = m) : E.length ≤ m := by
  have hm : ∀ x ∈ E, x ∈ (List.range m).map fun (i : Nat) => (i : Int) := fun x hx => by
    obtain ⟨k, rfl, hk⟩ := kn_range hl (h.kn x hx)
    exact List.mem_map.2 ⟨k, List.mem_range.2 hk, rfl⟩
  have := List.Nodup.length_le_of_subset h.nd hm
  simpa using this
/-- Where one is left at most of a closed row, all are known. -/
theorem all_kn (hp : Peel m of vs) {k : Nat} (hk : k < of.length) (hf : fitsI m of[k] = true) {Q : List Int} (hQ : ∀ x ∈ Q, knB vs x = true) (hl : (restP Q of[k]).length ≤ 1) : ∀ x ∈ of[k], knB vs x = true := fun x hx => by
  have hsub : (leftV vs of[k]).length ≤ (restP Q of[k]).length := by
    have e : leftV vs of[k] = (restP Q of[k]).filter fun i => !knB vs i := by
      unfold leftV restP
      rw [List.filter_filter]
      refine List.filter_congr fun i hi => ?_
      by_cases h1 : i ∈ Q
      · simp [h1, hQ i h1]
      · simp [h1]
    rw [e]; exact List.length_filter_le _ _
  have hne := hp.shut k hk hf
  have h0 : leftV vs of[k] = [] := List.length_eq_zero_iff.1 (by omega)
  cases hkx : knB vs x with
  | true => rfl
  | false =>
    have : x ∈ leftV vs of[k] := List.mem_filter.2 ⟨hx, by simp [hkx]⟩
    rw [h0] at this; cases this
/-- One equation's turn: b is looked at. -/
theorem PI.skip (h : PI m of vs E P lv) {j : Nat} (hj : j < of.length) {b : Int} (hb : b ∈ E) (hs : fitsI m of[j] = false ∨ b ∉ of[j]) : PI m of vs E (fun k => if k = j then P j ++ [b] else P k) lv := by
  refine ⟨h.nd, h.kn, fun k x hx => ?_, fun k hk => ?_, fun k hk hf hl => ?_⟩
  · split at hx
    · rcases List.mem_append.1 hx with hx | hx
      · exact h.sub j x hx
      · rw [List.mem_singleton.1 hx]; exact hb
    · exact h.sub k x hx
  · by_cases e : k = j
    · subst e
      rw [if_pos rfl, h.left k hk]
      rcases hs with hs | hs
      · rw [hs]; rfl
      · rw [restP_out hs]
    · rw [if_neg e]; exact h.left k hk
  · by_cases e : k = j
    · subst e
      rw [if_pos rfl] at hl
      rcases hs with hs | hs
      · rw [hs] at hf; cases hf
      · rw [restP_out hs] at hl
        exact h.full k hk hf hl
    · rw [if_neg e] at hl
      exact h.full k hk hf hl
theorem PI.turn (h : PI m of vs E P lv) (hp : Peel m of vs) {j : Nat} (hj : j < of.length) {b : Int} (hb : b ∈ E) (hbP : b ∉ P j) (hf : fitsI m of[j] = true) (hm : b ∈ of[j]) :
    lv j - 1 = ((restP (P j ++ [b]) of[j]).length : Int) ∧
    PI m of vs (if lv j - 1 = 1 then pushE E of[j] else E) (fun k => if k = j then P j ++ [b] else P k) (fun k => if k = j then lv j - 1 else lv k) := by
  have hn := fitsI_nodup hf
  have hc := restP_in hn hm hbP
  have hl : lv j = ((restP (P j) of[j]).length : Int) := by rw [h.left j hj, if_pos hf]
  have hl1 : lv j - 1 = ((restP (P j ++ [b]) of[j]).length : Int) := by omega
  have hsubE : ∀ x ∈ E, x ∈ (if lv j - 1 = 1 then pushE E of[j] else E) := fun x hx => by
    split
    · exact pushE_mem.2 (.inl hx)
    · exact hx
  refine ⟨hl1, ⟨?_, fun x hx => ?_, fun k x hx => ?_, fun k hk => ?_, fun k hk hf' hl' x hx => ?_⟩⟩
  · split
    · exact pushE_nodup h.nd
    · exact h.nd
  · split at hx
    · rename_i h1
      rcases pushE_mem.1 hx with hx | hx
      · exact h.kn x hx
      · refine all_kn hp hj hf (Q := P j ++ [b]) (fun y hy => ?_) (by omega) x hx
        rcases List.mem_append.1 hy with hy | hy
        · exact h.kn y (h.sub j y hy)
        · rw [List.mem_singleton.1 hy]; exact h.kn b hb
    · exact h.kn x hx
  · refine hsubE x ?_
    split at hx
    · rcases List.mem_append.1 hx with hx | hx
      · exact h.sub j x hx
      · rw [List.mem_singleton.1 hx]; exact hb
    · exact h.sub k x hx
  · by_cases e : k = j
    · subst e
      simp only [if_true]
      rw [if_pos hf]; exact hl1
    · simp only [if_neg e]; exact h.left k hk
  · by_cases e : k = j
    · subst e
      rw [if_pos rfl] at hl'
      by_cases h1 : lv k - 1 = 1
      · rw [if_pos h1]; exact pushE_mem.2 (.inr hx)
      · rw [if_neg h1]
        exact h.full k hk hf (by omega) x hx
    · rw [if_neg e] at hl'
      exact hsubE x (h.full k hk hf' hl' x hx)
theorem PI.pext (h : PI m of vs E P lv) {P' : Nat → List Int} (e : ∀ k, k < of.length → P' k = P k) (hs : ∀ k, ∀ x ∈ P' k, x ∈ E) : PI m of vs E P' lv :=
  ⟨h.nd, h.kn, hs, fun k hk => by rw [e k hk]; exact h.left k hk, fun k hk => by rw [e k hk]; exact h.full k hk⟩
/-- All were looked at: what came is what follows. -/
theorem PI.fin (h : PI m of vs E (fun _ => E) lv) (hp : Peel m of vs) (i : Int) : decide (i ∈ E) = knB vs i := by
  have hc : ∀ (n : Nat) (es : List EqB), (∀ e ∈ es, ∃ (k : Nat) (h : k < of.length), e.1 = of[k]) → ∀ vs', Der m n (· ∈ es) vs' → ∀ x, knB vs' x = true → x ∈ E := by
    intro n es hes vs' hd
    induction hd with
    | init =>
      intro x hx
      obtain ⟨k, b, rfl, hb⟩ := knB_iff.1 hx
      have := List.eq_of_mem_replicate (List.mem_of_getElem? hb)
      cases this
    | @step vs' e hd he hf ih =>
      intro y hy
      obtain ⟨h1, x, hx, hxm, hk, h0, hlt⟩ := fires_one hf
      rw [step_fire hf hx] at hy
      obtain ⟨kx, rfl⟩ := Int.eq_ofNat_of_zero_le h0
      rw [Int.toNat_natCast, (kn_set (by rw [hd.wv.len]; omega) _ y).1, Bool.or_eq_true, decide_eq_true_eq] at hy
      rcases hy with rfl | hy
      · obtain ⟨k, hk', hek⟩ := hes e he
        have hfit : fitsI m of[k] = true := by rw [← hek]; exact (okE_len h1).1
        have hsub : (restP E of[k]).length ≤ (leftV vs' e.1).length := by
          have e1 : restP E of[k] = (leftV vs' e.1).filter fun i => !decide (i ∈ E) := by
            unfold leftV restP
            rw [List.filter_filter, hek]
            refine List.filter_congr fun i hi => ?_
            cases hki : knB vs' i with
            | true => simp [ih i hki]
            | false => simp
          rw [e1]; exact List.length_filter_le _ _
        rw [hx] at hsub
        exact h.full k hk' hfit hsub _ (by rw [← hek]; exact hxm)
      · exact ih y hy
  obtain ⟨n, es, hd, hes⟩ := hp.der
  rw [Bool.eq_iff_iff, decide_eq_true_eq]
  exact ⟨fun hi => h.kn i hi, fun hi => hc n es hes vs hd i hi⟩
end
end Go.Proofs.Ytdppjhfndolbjaa
