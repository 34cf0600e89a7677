/- Equations solved pass by pass: the plain law. -/
import Derived.Test.YtdppjhfndolbjaaBlockSum8
set_option linter.unusedVariables false
set_option linter.unusedSimpArgs false
namespace Go.Proofs.Ytdppjhfndolbjaa

abbrev Vals := List (Option (List UInt8))
abbrev EqB := List Int × List UInt8
def knB (vs : Vals) (i : Int) : Bool := decide (0 ≤ i) && (vs.getD i.toNat none).isSome
def okAt (all : Int) (of : List Int) (j : Nat) : Bool := decide (0 ≤ of.getD j 0) && (decide (of.getD j 0 < all) && (decide (j = 0) || decide (of.getD (j - 1) 0 < of.getD j 0)))
def fitsI (all : Int) (of : List Int) : Bool := (List.range of.length).all (okAt all of)
def leftV (vs : Vals) (of : List Int) : List Int := of.filter fun i => !knB vs i
def valAt (vs : Vals) (i : Int) : List UInt8 := (vs.getD i.toNat none).getD []
def restV (vs : Vals) (of : List Int) (v : List UInt8) : List UInt8 := sumL v ((of.filter (knB vs)).map (valAt vs))
def okE (all : Int) (size : Int) (e : EqB) : Bool := fitsI all e.1 && decide ((e.2.length : Int) = size)
def firesB (all size : Int) (vs : Vals) (e : EqB) : Bool := okE all size e && decide ((leftV vs e.1).length = 1)
def stepV (all size : Int) (vs : Vals) (e : EqB) : Vals := if firesB all size vs e then vs.set ((leftV vs e.1).headD 0).toNat (some (restV vs e.1 e.2)) else vs
def stepF (all size : Int) (p : Vals × Bool) (e : EqB) : Vals × Bool := (stepV all size p.1 e, p.2 || firesB all size p.1 e)
def passF (all size : Int) (es : List EqB) (vs : Vals) : Vals × Bool := es.foldl (stepF all size) (vs, false)
def noneN (vs : Vals) : Nat := vs.countP (·.isNone)
/-- The lengths are as they should be. -/
structure WV (all size : Nat) (vs : Vals) : Prop where
  len : vs.length = all
  el : ∀ b, some b ∈ vs → b.length = size
theorem knB_iff {vs : Vals} {i : Int} : knB vs i = true ↔ ∃ (k : Nat) (b : List UInt8), i = (k : Int) ∧ vs[k]? = some (some b) := by
  unfold knB
  rw [Bool.and_eq_true, decide_eq_true_eq, List.getD_eq_getElem?_getD]
  constructor
  · rintro ⟨h1, h2⟩
    obtain ⟨k, rfl⟩ := Int.eq_ofNat_of_zero_le h1
    rw [Int.toNat_natCast] at h2
    cases h : vs[k]? with
    | none => rw [h] at h2; simp at h2
    | some o =>
      rw [h] at h2
      cases o with
      | none => simp at h2
      | some b => exact ⟨k, b, rfl, h⟩
  · rintro ⟨k, b, rfl, h⟩
    rw [Int.toNat_natCast, h]
    exact ⟨by omega, rfl⟩
theorem valAt_of {vs : Vals} {k : Nat} {b : List UInt8} (h : vs[k]? = some (some b)) : valAt vs (k : Int) = b := by
  rw [valAt, Int.toNat_natCast, List.getD_eq_getElem?_getD, h]; rfl
theorem knB_nat {vs : Vals} {k : Nat} : knB vs (k : Int) = (vs.getD k none).isSome := by
  rw [knB, Int.toNat_natCast]
  simp
theorem WV.val {all size : Nat} {vs : Vals} (h : WV all size vs) {i : Int} (hi : knB vs i = true) : (valAt vs i).length = size := by
  obtain ⟨k, b, rfl, hb⟩ := knB_iff.1 hi
  rw [valAt_of hb]
  exact h.el b (List.mem_of_getElem? hb)
theorem fitsI_at {all : Int} {of : List Int} (h : fitsI all of = true) {j : Nat} (hj : j < of.length) : 0 ≤ of[j] ∧ of[j] < all ∧ (0 < j → of[j - 1]'(by omega) < of[j]) := by
  have := List.all_eq_true.1 h j (List.mem_range.2 hj)
  unfold okAt at this
  simp only [Bool.and_eq_true, Bool.or_eq_true, decide_eq_true_eq, List.getD_eq_getElem?_getD, List.getElem?_eq_getElem hj, List.getElem?_eq_getElem (show j - 1 < of.length by omega), Option.getD_some] at this
  exact ⟨this.1, this.2.1, fun h0 => this.2.2.resolve_left (by omega)⟩
theorem fitsI_mem {all : Int} {of : List Int} (h : fitsI all of = true) {i : Int} (hi : i ∈ of) : 0 ≤ i ∧ i < all := by
  obtain ⟨j, hj, rfl⟩ := List.getElem_of_mem hi
  exact ⟨(fitsI_at h hj).1, (fitsI_at h hj).2.1⟩
theorem fitsI_lt {all : Int} {of : List Int} (h : fitsI all of = true) : ∀ (j i : Nat) (hj : j < of.length) (hi : i < j), of[i] < of[j]
  | 0, i, _, hi => by omega
  | j + 1, i, hj, hi => by
    have h1 := (fitsI_at h hj).2.2 (by omega)
    simp only [Nat.add_sub_cancel] at h1
    rcases Nat.lt_or_ge i j with h2 | h2
    · exact Int.lt_trans (fitsI_lt h j i (by omega) h2) h1
    · obtain rfl : i = j := by omega
      exact h1
theorem fitsI_nodup {all : Int} {of : List Int} (h : fitsI all of = true) : of.Nodup :=
  List.pairwise_iff_getElem.2 fun i j hi hj hij => Int.ne_of_lt (fitsI_lt h j i hj hij)
theorem fires_one {all size : Int} {vs : Vals} {e : EqB} (h : firesB all size vs e = true) : okE all size e = true ∧ ∃ x, leftV vs e.1 = [x] ∧ x ∈ e.1 ∧ knB vs x = false ∧ 0 ≤ x ∧ x < all := by
  unfold firesB at h
  rw [Bool.and_eq_true, decide_eq_true_eq] at h
  obtain ⟨x, hx⟩ := List.length_eq_one_iff.1 h.2
  have hm : x ∈ leftV vs e.1 := by rw [hx]; simp
  obtain ⟨h1, h2⟩ := List.mem_filter.1 hm
  have hf : fitsI all e.1 = true := by
    have := h.1
    unfold okE at this
    rw [Bool.and_eq_true] at this
    exact this.1
  exact ⟨h.1, x, hx, h1, by simpa using h2, fitsI_mem hf h1⟩
theorem step_fire {all size : Int} {vs : Vals} {e : EqB} (h : firesB all size vs e = true) {x : Int} (hx : leftV vs e.1 = [x]) : stepV all size vs e = vs.set x.toNat (some (restV vs e.1 e.2)) := by
  rw [stepV, if_pos h, hx]; rfl
theorem step_not {all size : Int} {vs : Vals} {e : EqB} (h : firesB all size vs e = false) : stepV all size vs e = vs := by
  rw [stepV, h]; rfl
theorem rest_len {all size : Nat} {vs : Vals} (h : WV all size vs) {of : List Int} {v : List UInt8} (hv : v.length = size) : (restV vs of v).length = size := by
  refine sumL_len size _ _ hv fun b hb => ?_
  obtain ⟨i, hi, rfl⟩ := List.mem_map.1 hb
  exact h.val (List.mem_filter.1 hi).2
theorem okE_len {all size : Nat} {e : EqB} (h : okE all size e = true) : fitsI all e.1 = true ∧ e.2.length = size := by
  unfold okE at h
  rw [Bool.and_eq_true, decide_eq_true_eq] at h
  exact ⟨h.1, by have := h.2; omega⟩
theorem WV.step {all size : Nat} {vs : Vals} (h : WV all size vs) (e : EqB) : WV all size (stepV all size vs e) := by
  cases hf : firesB all size vs e with
  | false => rw [step_not hf]; exact h
  | true =>
    obtain ⟨h1, x, hx, -⟩ := fires_one hf
    rw [step_fire hf hx]
    refine ⟨by rw [List.length_set]; exact h.len, fun b hb => ?_⟩
    rcases List.mem_or_eq_of_mem_set hb with hb | hb
    · exact h.el b hb
    · injection hb with hb
      rw [hb]
      exact rest_len h (okE_len h1).2
/-- Where an equation fires one more is known. -/
theorem count_fire {all size : Nat} {vs : Vals} (h : WV all size vs) {e : EqB} (hf : firesB all size vs e = true) : noneN (stepV all size vs e) + 1 = noneN vs := by
  obtain ⟨h1, x, hx, -, hk, h0, hlt⟩ := fires_one hf
  rw [step_fire hf hx]
  obtain ⟨k, rfl⟩ := Int.eq_ofNat_of_zero_le h0
  rw [Int.toNat_natCast]
  have hkl : k < vs.length := by rw [h.len]; omega
  have hn : vs[k] = none := by
    rw [knB_nat, List.getD_eq_getElem?_getD, List.getElem?_eq_getElem hkl] at hk
    simpa using hk
  unfold noneN
  rw [List.countP_set hkl, hn]
  simp
  have : 0 < vs.countP (·.isNone) := List.countP_pos_iff.2 ⟨none, by rw [← hn]; exact List.getElem_mem hkl, rfl⟩
  omega
theorem WV.init (all size : Nat) : WV all size (List.replicate all none) := ⟨List.length_replicate .., fun b hb => by have := List.eq_of_mem_replicate hb; cases this⟩
/-- What is reached. -/
inductive Der (all size : Nat) (E : EqB → Prop) : Vals → Prop
  | init : Der all size E (List.replicate all none)
  | step {vs : Vals} {e : EqB} : Der all size E vs → E e → firesB all size vs e = true → Der all size E (stepV all size vs e)
theorem Der.wv {all size : Nat} {E : EqB → Prop} {vs : Vals} (h : Der all size E vs) : WV all size vs := by
  induction h with
  | init => exact WV.init all size
  | step _ _ _ ih => exact ih.step _
theorem Der.mono {all size : Nat} {E E' : EqB → Prop} {vs : Vals} (h : Der all size E vs) (hE : ∀ e, E e → E' e) : Der all size E' vs := by
  induction h with
  | init => exact .init
  | step _ he hf ih => exact .step ih (hE _ he) hf
theorem Der.steps {all size : Nat} {E : EqB → Prop} : ∀ (es : List EqB) (p : Vals × Bool), (∀ e ∈ es, E e) → Der all size E p.1 → Der all size E (es.foldl (stepF all size) p).1
  | [], p, _, h => h
  | e :: r, p, hE, h => by
    refine Der.steps r (stepF all size p e) (fun x hx => hE x (List.mem_cons_of_mem _ hx)) ?_
    show Der all size E (stepV all size p.1 e)
    cases hf : firesB all size p.1 e with
    | false => rw [step_not hf]; exact h
    | true => exact .step h (hE e (List.mem_cons_self ..)) hf
theorem pass_flag {all size : Int} : ∀ (es : List EqB) (p : Vals × Bool), (es.foldl (stepF all size) p).2 = false → p.2 = false ∧ (es.foldl (stepF all size) p).1 = p.1 ∧ ∀ e ∈ es, firesB all size p.1 e = false
  | [], p, h => ⟨h, rfl, fun e he => by cases he⟩
  | e :: r, p, h => by
    obtain ⟨h1, h2, h3⟩ := pass_flag r (stepF all size p e) h
    have h4 : p.2 = false ∧ firesB all size p.1 e = false := by
      have : (p.2 || firesB all size p.1 e) = false := h1
      simpa using this
    have h5 : (stepF all size p e).1 = p.1 := step_not h4.2
    rw [h5] at h2 h3
    exact ⟨h4.1, h2, fun x hx => by
      rcases List.mem_cons.1 hx with rfl | hx
      · exact h4.2
      · exact h3 x hx⟩
/-- Passes over and over. -/
def iter (all size : Int) (es : List EqB) (vs : Vals) : Nat → Vals
  | 0 => vs
  | k + 1 => (passF all size es (iter all size es vs k)).1
theorem iter_stay {all size : Int} {es : List EqB} {vs : Vals} {k : Nat} (h : (passF all size es (iter all size es vs k)).2 = false) : ∀ m, k ≤ m → iter all size es vs m = iter all size es vs k
  | m, hm => by
    induction m with
    | zero => obtain rfl : k = 0 := by omega
              rfl
    | succ m ih =>
      rcases Nat.lt_or_ge k (m + 1) with h1 | h1
      · have h2 := ih (by omega)
        show (passF all size es (iter all size es vs m)).1 = _
        rw [h2]
        exact (pass_flag es _ h).2.1
      · obtain rfl : k = m + 1 := by omega
        rfl
/-- What all passes find. -/
structure Fin (all size : Nat) (es : List EqB) (vs : Vals) : Prop where
  it : ∃ k, vs = iter all size es (List.replicate all none) k
  no : (passF all size es vs).2 = false
theorem Fin.one {all size : Nat} {es : List EqB} {vs vs' : Vals} (h : Fin all size es vs) (h' : Fin all size es vs') : vs = vs' := by
  obtain ⟨k, rfl⟩ := h.it
  obtain ⟨m, rfl⟩ := h'.it
  rcases Nat.le_total k m with hk | hk
  · exact (iter_stay h.no m hk).symm
  · exact iter_stay h'.no k hk
theorem Fin.der {all size : Nat} {es : List EqB} {vs : Vals} (h : Fin all size es vs) : Der all size (· ∈ es) vs := by
  obtain ⟨k, rfl⟩ := h.it
  clear h
  induction k with
  | zero => exact .init
  | succ k ih => exact Der.steps es _ (fun _ h => h) ih
theorem Fin.shut {all size : Nat} {es : List EqB} {vs : Vals} (h : Fin all size es vs) : ∀ e ∈ es, firesB all size vs e = false := (pass_flag es _ h.no).2.2
end Go.Proofs.Ytdppjhfndolbjaa
