/- Equations solved pass by pass: order is of no matter. -/
import Derived.Test.YtdppjhfndolbjaaBatPure
set_option linter.unusedVariables false
set_option linter.unusedSimpArgs false
namespace Go.Proofs.Ytdppjhfndolbjaa

theorem xorL_swap : ∀ (a b c : List UInt8), xorL (xorL a b) c = xorL (xorL a c) b
  | [], _, _ => rfl
  | x :: a, [], c => by cases c <;> rfl
  | x :: a, y :: b, [] => rfl
  | x :: a, y :: b, z :: c => by
    have := xorL_swap a b c
    show ((x ^^^ y) ^^^ z) :: xorL (xorL a b) c = ((x ^^^ z) ^^^ y) :: xorL (xorL a c) b
    rw [this, UInt8.xor_assoc, UInt8.xor_comm y z, ← UInt8.xor_assoc]
theorem sumL_swap : ∀ (l : List (List UInt8)) (v b : List UInt8), sumL (xorL v b) l = xorL (sumL v l) b
  | [], _, _ => rfl
  | c :: r, v, b => by
    show sumL (xorL (xorL v b) c) r = xorL (sumL (xorL v c) r) b
    rw [xorL_swap, sumL_swap r]
theorem sumL_split (p : Int → Bool) (f : Int → List UInt8) : ∀ (l : List Int) (v : List UInt8), sumL v (l.map f) = sumL (sumL v ((l.filter p).map f)) ((l.filter fun i => !p i).map f)
  | [], _ => rfl
  | x :: r, v => by
    have ih := sumL_split p f r (xorL v (f x))
    cases hp : p x with
    | true =>
      rw [List.filter_cons_of_pos hp, List.filter_cons_of_neg (by simp [hp])]
      exact ih
    | false =>
      rw [List.filter_cons_of_neg (by simp [hp]), List.filter_cons_of_pos (by simp [hp])]
      refine ih.trans ?_
      show sumL (sumL (xorL v (f x)) _) _ = sumL (xorL (sumL v _) (f x)) _
      rw [sumL_swap]
theorem xor_self8 (a : UInt8) : a ^^^ a = 0 := UInt8.xor_self
theorem xor_zero8 {a b : UInt8} (h : a ^^^ b = 0) : a = b := by
  have : a ^^^ b ^^^ b = 0 ^^^ b := by rw [h]
  rw [UInt8.xor_assoc, UInt8.xor_self] at this
  simpa using this
theorem zeroB_cons (x : UInt8) (l : List UInt8) : zeroB (x :: l) = (decide (x = 0) && zeroB l) := by
  show ((x == 0) && l.all (· == 0)) = _
  cases h : (x == 0) <;> simp at h <;> simp [h, zeroB]
theorem zero_eq : ∀ (a b : List UInt8), a.length = b.length → zeroB (xorL a b) = true → a = b
  | [], [], _, _ => rfl
  | [], y :: b, h, _ => by simp at h
  | x :: a, [], h, _ => by simp at h
  | x :: a, y :: b, h, hz => by
    have hz' : zeroB ((x ^^^ y) :: xorL a b) = true := hz
    rw [zeroB_cons, Bool.and_eq_true, decide_eq_true_eq] at hz'
    rw [xor_zero8 hz'.1, zero_eq a b (by simpa using h) hz'.2]
theorem zero_self : ∀ (a : List UInt8), zeroB (xorL a a) = true
  | [] => rfl
  | x :: a => by
    show zeroB ((x ^^^ x) :: xorL a a) = true
    rw [zeroB_cons, xor_self8, zero_self a]; rfl
theorem kn_set {vs : Vals} {k : Nat} (hk : k < vs.length) (b : List UInt8) (i : Int) : knB (vs.set k (some b)) i = (decide (i = (k : Int)) || knB vs i) ∧ valAt (vs.set k (some b)) i = if i = (k : Int) then b else if 0 ≤ i then valAt vs i else valAt (vs.set k (some b)) i := by
  by_cases h0 : 0 ≤ i
  · obtain ⟨j, rfl⟩ := Int.eq_ofNat_of_zero_le h0
    by_cases e : j = k
    · subst e
      refine ⟨?_, ?_⟩
      · rw [knB_nat, List.getD_eq_getElem?_getD, List.getElem?_set_self hk]; simp
      · rw [if_pos rfl, valAt_of (List.getElem?_set_self hk)]
    · refine ⟨?_, ?_⟩
      · rw [knB_nat, knB_nat, List.getD_eq_getElem?_getD, List.getElem?_set_ne (Ne.symm e), ← List.getD_eq_getElem?_getD]
        simp; omega
      · rw [if_neg (by omega), if_pos h0, valAt, valAt, Int.toNat_natCast, List.getD_eq_getElem?_getD, List.getElem?_set_ne (Ne.symm e), ← List.getD_eq_getElem?_getD]
  · refine ⟨?_, ?_⟩
    · have h1 : decide (0 ≤ i) = false := by simp; omega
      have h2 : decide (i = (k : Int)) = false := by simp; omega
      simp [knB, h1, h2]
    · rw [if_neg (by omega), if_neg h0]
section
variable {all size : Nat} {E : EqB → Prop} {vs vs' : Vals}
theorem kn_nonneg {i : Int} (h : knB vs i = true) : 0 ≤ i := by
  obtain ⟨k, b, rfl, -⟩ := knB_iff.1 h
  omega
theorem leftV_sub {of : List Int} (h : ∀ i, knB vs i = true → knB vs' i = true) : leftV vs' of = (leftV vs of).filter fun i => !knB vs' i := by
  unfold leftV
  rw [List.filter_filter]
  congr 1
  funext i
  cases h1 : knB vs i with
  | true => rw [h i h1]; rfl
  | false => simp
theorem der_sub (h : Der all size E vs) (hc : ∀ e, E e → firesB all size vs' e = false) : ∀ i, knB vs i = true → knB vs' i = true := by
  induction h with
  | init =>
    intro i hi
    obtain ⟨k, b, rfl, hb⟩ := knB_iff.1 hi
    have := List.eq_of_mem_replicate (List.mem_of_getElem? hb)
    cases this
  | @step vs e hd he hf ih =>
    intro i hi
    obtain ⟨h1, x, hx, hxm, hk, h0, hlt⟩ := fires_one hf
    rw [step_fire hf hx] at hi
    obtain ⟨k, rfl⟩ := Int.eq_ofNat_of_zero_le h0
    rw [Int.toNat_natCast, (kn_set (by rw [hd.wv.len]; omega) _ i).1, Bool.or_eq_true, decide_eq_true_eq] at hi
    rcases hi with rfl | hi
    · cases hk' : knB vs' (k : Int) with
      | true => rfl
      | false =>
        have hl : leftV vs' e.1 = [(k : Int)] := by rw [leftV_sub ih, hx]; simp [hk']
        have := hc e he
        rw [firesB, h1, hl] at this
        simp at this
    · exact ih i hi
theorem der_vals (h : Der all size E vs) (K : Int → Bool) (V : Int → List UInt8) (hV : ∀ i, K i = true → (V i).length = size)
    (hE : ∀ e, E e → okE all size e = true → (∀ i ∈ e.1, K i = true) → zeroB (sumL e.2 (e.1.map V)) = true) : (∀ i, knB vs i = true → K i = true) → ∀ i, knB vs i = true → valAt vs i = V i := by
  induction h with
  | init =>
    intro _ i hi
    obtain ⟨k, b, rfl, hb⟩ := knB_iff.1 hi
    have := List.eq_of_mem_replicate (List.mem_of_getElem? hb)
    cases this
  | @step vs e hd he hf ih =>
    intro hK i hi
    obtain ⟨h1, x, hx, hxm, hk, h0, hlt⟩ := fires_one hf
    rw [step_fire hf hx] at hi hK ⊢
    obtain ⟨k, rfl⟩ := Int.eq_ofNat_of_zero_le h0
    rw [Int.toNat_natCast] at hi hK ⊢
    have hkl : k < vs.length := by rw [hd.wv.len]; omega
    have hK0 : ∀ j, knB vs j = true → K j = true := fun j hj => hK j (by rw [(kn_set hkl _ j).1, hj]; simp)
    have hKk : K (k : Int) = true := hK _ (by rw [(kn_set hkl _ _).1]; simp)
    have ih' := ih hK0
    have hi0 := kn_nonneg hi
    rw [(kn_set hkl _ i).2]
    rw [(kn_set hkl _ i).1, Bool.or_eq_true, decide_eq_true_eq] at hi
    by_cases e1 : i = (k : Int)
    · subst e1
      rw [if_pos rfl]
      have hall : ∀ j ∈ e.1, K j = true := fun j hj => by
        cases hkj : knB vs j with
        | true => exact hK0 j hkj
        | false =>
          have : j ∈ leftV vs e.1 := List.mem_filter.2 ⟨hj, by simp [hkj]⟩
          rw [hx] at this
          simp at this
          rw [this]; exact hKk
      have hz := hE e he h1 hall
      rw [sumL_split (knB vs) V e.1 e.2] at hz
      have hr : sumL e.2 ((e.1.filter (knB vs)).map V) = restV vs e.1 e.2 := by
        unfold restV
        congr 1
        refine List.map_congr_left fun j hj => (ih' j (List.mem_filter.1 hj).2).symm
      rw [hr, show (e.1.filter fun i => !knB vs i) = [(k : Int)] from hx] at hz
      exact zero_eq _ _ (by rw [rest_len hd.wv (okE_len h1).2, hV _ hKk]) hz
    · rw [if_neg e1, if_pos hi0]
      exact ih' i (hi.resolve_left e1)
def confB (all size : Int) (es : List EqB) (vs : Vals) : Bool := es.any fun e => okE all size e && (decide ((leftV vs e.1).length = 0) && !zeroB (restV vs e.1 e.2))
theorem rest_all {of : List Int} {v : List UInt8} (h : leftV vs of = []) : restV vs of v = sumL v (of.map (valAt vs)) ∧ ∀ i ∈ of, knB vs i = true := by
  have hall : ∀ i ∈ of, knB vs i = true := fun i hi => by
    cases hk : knB vs i with
    | true => rfl
    | false =>
      have : i ∈ leftV vs of := List.mem_filter.2 ⟨hi, by simp [hk]⟩
      rw [h] at this; cases this
  exact ⟨by rw [restV, List.filter_eq_self.2 hall], hall⟩
theorem left_all {of : List Int} (h : ∀ i ∈ of, knB vs i = true) : leftV vs of = [] := by
  rw [leftV, List.filter_eq_nil_iff]
  intro i hi
  simp [h i hi]
theorem vals_ext (h : WV all size vs) (h' : WV all size vs') (hk : ∀ i, knB vs i = knB vs' i) (hv : ∀ i, knB vs i = true → valAt vs i = valAt vs' i) : vs = vs' := by
  refine List.ext_getElem (by rw [h.len, h'.len]) fun k h1 h2 => ?_
  have e1 := hk (k : Int)
  have e2 := hv (k : Int)
  rw [knB_nat] at e1 e2
  rw [knB_nat] at e1
  rw [valAt, valAt, Int.toNat_natCast] at e2
  rw [List.getD_eq_getElem?_getD, List.getElem?_eq_getElem h1, Option.getD_some] at e1 e2
  rw [List.getD_eq_getElem?_getD, List.getElem?_eq_getElem h2, Option.getD_some] at e1 e2
  cases hx : vs[k] with
  | none =>
    cases hy : vs'[k] with
    | none => rfl
    | some y => rw [hx, hy] at e1; cases e1
  | some x =>
    cases hy : vs'[k] with
    | none => rw [hx, hy] at e1; cases e1
    | some y =>
      have := e2 (by rw [hx]; rfl)
      rw [hx, hy] at this
      have h3 : x = y := this
      rw [h3]
theorem noconf {es : List EqB} (h : confB all size es vs = false) {e : EqB} (he : e ∈ es) (hok : okE all size e = true) (hall : ∀ i ∈ e.1, knB vs i = true) : zeroB (sumL e.2 (e.1.map (valAt vs))) = true := by
  unfold confB at h
  rw [List.any_eq_false] at h
  have h1 := h e he
  rw [hok, left_all hall, (rest_all (left_all hall)).1] at h1
  simpa using h1
/-- More equations that hold of what was found change nothing. -/
theorem fin_more {es es' : List EqB} (h : Fin all size es vs) (hn : confB all size es vs = false) (h' : Fin all size es' vs') (hsub : ∀ e ∈ es, e ∈ es') (hex : ∀ e ∈ es', e ∈ es ∨ ∃ i, knB vs i = true ∧ e = ([i], valAt vs i)) :
    vs' = vs ∧ confB all size es' vs' = false := by
  have k1 : ∀ i, knB vs i = true → knB vs' i = true := der_sub h.der fun e he => h'.shut e (hsub e he)
  have shut : ∀ e ∈ es', firesB all size vs e = false := fun e he => by
    rcases hex e he with h1 | ⟨i, hi, rfl⟩
    · exact h.shut e h1
    · rw [firesB, left_all (fun j hj => by simp at hj; rw [hj]; exact hi)]; simp
  have k2 : ∀ i, knB vs' i = true → knB vs i = true := der_sub h'.der shut
  have zero : ∀ e ∈ es', okE all size e = true → (∀ i ∈ e.1, knB vs i = true) → zeroB (sumL e.2 (e.1.map (valAt vs))) = true := fun e he hok hall => by
    rcases hex e he with h1 | ⟨i, hi, rfl⟩
    · exact noconf hn h1 hok hall
    · exact zero_self _
  have kk : ∀ i, knB vs' i = knB vs i := fun i => by
    rw [Bool.eq_iff_iff]; exact ⟨k2 i, k1 i⟩
  have hv : vs' = vs := vals_ext h'.der.wv h.der.wv kk fun i hi => der_vals h'.der (knB vs) (valAt vs) (fun i hi => h.der.wv.val hi) zero k2 i hi
  subst hv
  refine ⟨rfl, ?_⟩
  unfold confB
  rw [List.any_eq_false]
  intro e he
  cases hok : okE all size e with
  | false => simp
  | true =>
    by_cases hl : leftV vs' e.1 = []
    · have h2 := rest_all (v := e.2) hl
      rw [h2.1, zero e he hok h2.2]; simp
    · have : ¬ (leftV vs' e.1).length = 0 := fun h0 => hl (List.length_eq_zero_iff.1 h0)
      simp [this]
/-- The same equations, however they stand. -/
theorem fin_same {es es' : List EqB} (h : Fin all size es vs) (h' : Fin all size es' vs') (hm : ∀ e, e ∈ es ↔ e ∈ es') :
    (∀ i, knB vs i = knB vs' i) ∧ confB all size es vs = confB all size es' vs' ∧ (confB all size es vs = false → vs' = vs) := by
  have k1 : ∀ i, knB vs i = true → knB vs' i = true := der_sub h.der fun e he => h'.shut e ((hm e).1 he)
  have k2 : ∀ i, knB vs' i = true → knB vs i = true := der_sub h'.der fun e he => h.shut e ((hm e).2 he)
  refine ⟨fun i => by rw [Bool.eq_iff_iff]; exact ⟨k1 i, k2 i⟩, ?_, fun hn => (fin_more h hn h' (fun e he => (hm e).1 he) fun e he => .inl ((hm e).2 he)).1⟩
  cases h1 : confB all size es vs with
  | false => exact (fin_more h h1 h' (fun e he => (hm e).1 he) fun e he => .inl ((hm e).2 he)).2.symm
  | true =>
    cases h2 : confB all size es' vs' with
    | true => rfl
    | false =>
      have := (fin_more h' h2 h (fun e he => (hm e).2 he) fun e he => .inl ((hm e).1 he)).2
      rw [h1] at this; cases this
end
end Go.Proofs.Ytdppjhfndolbjaa
