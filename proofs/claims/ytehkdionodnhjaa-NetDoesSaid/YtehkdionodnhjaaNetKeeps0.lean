/- What comes of harmless Ops: how often each frame came. -/
import Derived.Test.YtehkdionodnhjaaNet5
import Derived.Maps.Own
import Derived.Maps.OwnOps
import Derived.Maps.OwnSet
import Derived.Maps.Views
import Derived.StringKeys
import Derived.WalkKit
set_option linter.unusedVariables false
set_option linter.unusedSimpArgs false
namespace Go.Proofs.Ytehkdionodnhjaa
open Go.RowKit Go.Maps

abbrev OpT := Int × (Int × (UInt32 × List UInt8))
def Kd.op : Kd OpT := Kd.seq (Kd.int .i64) (Kd.seq (Kd.int .i64) (Kd.seq Kd.u32 (Kd.sl Kd.byte)))
/-- Element i of a row of Ops. -/
theorem RdL.op {S : Nat → Prop} {w : World} {B : Option Addr} {xs : List OpT} (h : RdL Kd.op S w B xs) {i : Nat} (hi : i < xs.length) : ∃ b off A c, B = some ⟨b, off, none⟩ ∧ S b ∧
    (w.cell? ⟨b, off + i * 4, none⟩ = some (.int .i64 xs[i].1) ∧ w.cell? ⟨b, off + i * 4 + 1, none⟩ = some (.int .i64 xs[i].2.1) ∧ w.cell? ⟨b, off + i * 4 + 2, none⟩ = some (.int .u32 (xs[i].2.2.1.toNat : Int)) ∧ w.cell? ⟨b, off + i * 4 + 3, none⟩ = some (.slice A xs[i].2.2.2.length c)) ∧
    (Lit.int .i64 xs[i].2.1).wf = true ∧ xs[i].2.2.2.length ≤ c ∧ c ≤ maxLen ∧ RdL Kd.byte S w A xs[i].2.2.2 := by
  obtain ⟨b, off, e, hs, hc⟩ := h (by omega)
  obtain ⟨cs, hr, hcell⟩ := hc i xs[i] (List.getElem?_eq_getElem hi)
  obtain ⟨_, _, rfl, ⟨_, rfl, rfl, wk⟩, _, _, rfl, ⟨_, rfl, rfl, wp⟩, _, _, rfl, ⟨_, rfl, rfl⟩, A, c, rfl, h1, h2, h3⟩ := hr
  exact ⟨b, off, A, c, e, hs, ⟨hcell 0 _ rfl, hcell 1 _ rfl, hcell 2 _ rfl, hcell 3 _ rfl⟩, wp, h1, h2, h3⟩
/-- The frame number j. -/
def keyL (j : Nat) : List UInt8 := [UInt8.ofNat j, 9]
theorem keyL_inj {i j : Nat} (hi : i < 60) (hj : j < 60) (h : keyL i = keyL j) : i = j := by
  have h1 : UInt8.ofNat i = UInt8.ofNat j := by injection h
  have := congrArg UInt8.toNat h1
  rw [UInt8.toNat_ofNat', UInt8.toNat_ofNat'] at this
  omega
def kLit (j : Nat) : Lit := .string (keyL j)
theorem kLit_key (j : Nat) : WideAt.IsKeyLit (kLit j) := trivial
theorem kLit_ne {i j : Nat} (hi : i < 60) (hj : j < 60) (h : i ≠ j) : kLit i ≠ kLit j := fun e => h (keyL_inj hi hj (by injection e))
def numK (p : Nat → Bool) : Nat → Nat
  | 0 => 0
  | n + 1 => numK p n + if p n then 1 else 0
theorem numK_le (p : Nat → Bool) (n : Nat) : numK p n ≤ n := by
  induction n with
  | zero => simp [numK]
  | succ n ih => rw [numK]; split <;> omega
theorem numK_ext {p q : Nat → Bool} {n : Nat} (h : ∀ j, j < n → p j = q j) : numK p n = numK q n := by
  induction n with
  | zero => rfl
  | succ n ih => rw [numK, numK, ih fun j hj => h j (by omega), h n (by omega)]
theorem numK_put {p q : Nat → Bool} {n i : Nat} (hi : i < n) (hp : p i = false) (hq : q i = true) (h : ∀ j, j ≠ i → p j = q j) : numK q n = numK p n + 1 := by
  induction n with
  | zero => omega
  | succ n ih =>
    rw [numK, numK]
    by_cases e : i = n
    · subst e
      rw [hp, hq, numK_ext fun j hj => (h j (by omega)).symm]
      simp
    · rw [ih (by omega), h n (fun e' => e e'.symm)]; omega
theorem numK_lt (m n : Nat) (hm : m ≤ n) : numK (fun j => decide (j < m)) n = m := by
  induction n with
  | zero => simp [numK]; omega
  | succ n ih =>
    rw [numK]
    by_cases h : m ≤ n
    · rw [ih h, if_neg (by simp; omega)]; omega
    · obtain rfl : m = n + 1 := by omega
      rw [if_pos (by simp), numK_ext (q := fun j => decide (j < n)) fun j hj => by simp; omega]
      have : ∀ n, numK (fun j => decide (j < n)) n = n := by
        intro n
        have h1 : ∀ k, k ≤ n → numK (fun j => decide (j < n)) k = k := by
          intro k
          induction k with
          | zero => intro _; rfl
          | succ k ihk => intro hk; rw [numK, ihk (by omega), if_pos (by simp; omega)]
        exact h1 n (Nat.le_refl _)
      rw [this]
/-- The map in block B: how often each frame came. -/
def MapK (w : World) (B : Nat) (f : Nat → Nat) : Prop :=
  ∃ D : DataW Unit, w.ownsMap Try.prog 9 (plainElem Try.prog 3) B 60 D ∧ Tidy D ∧ (∀ j, j < 60 → D.atKey (kLit j) (.lit (.int .i64 0)) = .lit (.int .i64 (f j : Int))) ∧ (∀ j, j < 60 → Maps.has D (kLit j) = decide (0 < f j)) ∧ Maps.size D = numK (fun j => decide (0 < f j)) 60
theorem MapK.keep {w w' : World} {B : Nat} {f : Nat → Nat} (h : MapK w B f) (hk : w'.heap[B]? = w.heap[B]?) : MapK w' B f := by
  obtain ⟨D, ⟨es, clock, h1, h2⟩, h3⟩ := h
  exact ⟨D, ⟨es, clock, hk.trans h1, h2⟩, h3⟩
theorem MapK.lt {w : World} {B : Nat} {f : Nat → Nat} (h : MapK w B f) : B < w.heap.size := by
  obtain ⟨D, ⟨es, clock, h1, h2⟩, h3⟩ := h
  exact (Array.getElem?_eq_some_iff.1 h1).1
theorem MapK.ext {w : World} {B : Nat} {f f' : Nat → Nat} (h : MapK w B f) (hf : ∀ j, j < 60 → f j = f' j) : MapK w B f' := by
  obtain ⟨D, h1, h2, h3, h4, h5⟩ := h
  exact ⟨D, h1, h2, fun j hj => by rw [← hf j hj]; exact h3 j hj, fun j hj => by rw [← hf j hj]; exact h4 j hj, by rw [h5]; exact numK_ext fun j hj => by rw [hf j hj]⟩
theorem mapK_new (w : World) : MapK (w.alloc (.map #[] 0)) w.heap.size fun _ => 0 := by
  obtain ⟨es, clock, q1, q2, q3, q4⟩ := World.ownsMap_made w Try.prog 9 (plainElem (H := Unit) Try.prog 3)
  exact ⟨_, ⟨es, clock, q1, q2, by omega, q4⟩, tidy_empty, fun j hj => rfl, fun j hj => rfl, rfl⟩
theorem MapK.put {w' : World} {B n i : Nat} {f : Nat → Nat} {D : DataW Unit} (hT : Tidy D) (hv : ∀ j, j < 60 → D.atKey (kLit j) (.lit (.int .i64 0)) = .lit (.int .i64 (f j : Int))) (hh : ∀ j, j < 60 → Maps.has D (kLit j) = decide (0 < f j)) (hs : Maps.size D = numK (fun j => decide (0 < f j)) 60) (hi : i < 60)
    (h : w'.ownsMap Try.prog 9 (plainElem Try.prog 3) B n (D.put (kLit i) (.lit (.int .i64 ((f i + 1 : Nat) : Int))))) : MapK w' B (fun j => f j + if j = i then 1 else 0) := by
  have hsz : Maps.size (D.put (kLit i) (.lit (.int .i64 ((f i + 1 : Nat) : Int)))) = numK (fun j => decide (0 < f j + if j = i then 1 else 0)) 60 := by
    rw [size_put hT, hh i hi, hs]
    by_cases h0 : 0 < f i
    · rw [if_pos (by simpa using h0)]
      refine numK_ext fun j hj => ?_
      by_cases e : j = i
      · subst e; simp [h0]
      · simp [e]
    · rw [if_neg (by simpa using h0)]
      refine (numK_put (i := i) hi (by simpa using h0) (by simp) fun j hj => by simp [hj]).symm
  refine ⟨_, ?_, hT.put (kLit_key i) _, fun j hj => ?_, fun j hj => ?_, hsz⟩
  · obtain ⟨es, clock, q1, q2, q3, q4⟩ := h
    refine ⟨es, clock, q1, q2, ?_, q4⟩
    rw [q4] at hsz
    have := numK_le (fun j => decide (0 < f j + if j = i then 1 else 0)) 60
    rw [← hsz] at this
    simpa [Maps.size, length_sorted] using this
  · by_cases e : j = i
    · subst e
      rw [atKey_put_same hT.isMap (kLit_key j)]; simp
    · rw [atKey_put_other (kLit_ne hj hi e), hv j hj]; simp [e]
  · by_cases e : j = i
    · subst e
      rw [has_put_same hT.isMap (kLit_key j)]; simp
    · rw [has_put_other (kLit_ne hj hi e), hh j hj]; simp [e]
theorem zeroI (w : World) : (zeroValue 3).run Try.prog w = .ok (.int .i64 0) w := by kernel_rfl
theorem lawS : Keyed Try.prog 9 := string_keyed Try.underlying9
theorem keyS (j : Nat) : keyOf Try.prog 9 (.string (bstr (keyL j))) = some (kLit j) := by
  rw [Go.WideMaps.keyOf_string_mk Try.underlying9 (by
    show (keyL j).toArray.size ≤ maxLen
    simp [keyL, maxLen])]
  rfl
/-! ### What is held and what comes, by numbers -/
/-- How often a frame has come, or is held, behind k rounds. -/
def dblB (acts : List OpT) (j : Nat) : Bool := (acts[j]?).any fun a => decide (a.1 = 2)
def totK (acts : List OpT) (k j : Nat) : Nat := if j < k then (if dblB acts j then 2 else 1) else 0
def effK (acts : List OpT) (k : Nat) : Int := ((acts[k]?).map fun a => if harmB a.1 && a.1 != 1 then a.1 else 0).getD 0
/-- By numbers: what is held then, and what comes. -/
def stepI (is : List Nat) (kind : Int) (k : Nat) : List Nat × List Nat := if kind = 2 then (is, [k, k]) else if kind = 3 then (is ++ [k], []) else if kind = 4 then ([], k :: is.reverse) else (is, [k])
theorem doL_step (is : List Nat) (kind pt : Int) (m : UInt32) (bs : List UInt8) (k : Nat) (h : harmB kind = true) (h1 : kind ≠ 1) :
    doL (is.map keyL) kind pt m bs (keyL k) = ((stepI is kind k).1.map keyL, (stepI is kind k).2.map keyL) := by
  have h5 : kind ≠ 5 := fun e => by subst e; simp [harmB] at h
  have h6 : kind ≠ 6 := fun e => by subst e; simp [harmB] at h
  have h7 : kind ≠ 7 := fun e => by subst e; simp [harmB] at h
  unfold doL stepI
  rw [if_neg h1, if_neg h5, if_neg h6, if_neg h7]
  split
  · simp
  · split
    · simp
    · split <;> simp
theorem step_count (is : List Nat) (kind : Int) (k j : Nat) : (stepI is kind k).1.count j + (stepI is kind k).2.count j = is.count j + if j = k then (if kind = 2 then 2 else 1) else 0 := by
  unfold stepI
  by_cases h2 : kind = 2
  · rw [if_pos h2, if_pos h2]
    by_cases e : j = k
    · subst e; simp
    · simp [List.count_cons, e, Ne.symm e]
  · rw [if_neg h2, if_neg h2]
    by_cases h3 : kind = 3
    · rw [if_pos h3]
      by_cases e : j = k
      · subst e; simp
      · simp [List.count_cons, e, Ne.symm e]
    · rw [if_neg h3]
      by_cases h4 : kind = 4
      · rw [if_pos h4]
        by_cases e : j = k
        · subst e; simp [List.count_reverse]
        · simp [List.count_cons, e, Ne.symm e, List.count_reverse]
      · rw [if_neg h4]
        by_cases e : j = k
        · subst e; simp
        · simp [List.count_cons, e, Ne.symm e]
theorem step_mem {is : List Nat} {kind : Int} {k n : Nat} (h : ∀ i ∈ is, i < n) (hk : k < n) : (∀ i ∈ (stepI is kind k).1, i < n) ∧ ∀ i ∈ (stepI is kind k).2, i < n := by
  unfold stepI
  split
  · exact ⟨h, fun i hi => by simp at hi; omega⟩
  · split
    · refine ⟨fun i hi => ?_, fun i hi => by simp at hi⟩
      simp at hi
      rcases hi with hi | hi
      · exact h i hi
      · omega
    · split
      · refine ⟨fun i hi => by simp at hi, fun i hi => ?_⟩
        simp at hi
        rcases hi with hi | hi
        · omega
        · exact h i hi
      · exact ⟨h, fun i hi => by simp at hi; omega⟩
theorem step_len (is : List Nat) (kind : Int) (k : Nat) : (stepI is kind k).1.length ≤ is.length + 1 ∧ (stepI is kind k).2.length ≤ is.length + 2 := by
  unfold stepI
  split
  · simp
  · split
    · simp
    · split <;> simp
theorem eff_ok (acts : List OpT) (k : Nat) : harmB (effK acts k) = true ∧ effK acts k ≠ 1 := by
  unfold effK
  cases acts[k]? with
  | none => exact ⟨rfl, by decide⟩
  | some a =>
    simp only [Option.map_some, Option.getD_some]
    split
    · rename_i h
      simp at h
      exact ⟨h.1, h.2⟩
    · exact ⟨rfl, by decide⟩
theorem eff_dbl (acts : List OpT) (k : Nat) : (effK acts k = 2) = (dblB acts k = true) := by
  unfold effK dblB
  cases acts[k]? with
  | none => simp
  | some a =>
    simp only [Option.map_some, Option.getD_some, Option.any_some, decide_eq_true_eq, eq_iff_iff]
    split
    · exact Iff.rfl
    · rename_i h
      refine ⟨fun h => by simp at h, fun e => ?_⟩
      rw [e] at h
      exact absurd rfl h
theorem tot_succ (acts : List OpT) (k j : Nat) : totK acts (k + 1) j = totK acts k j + if j = k then (if effK acts k = 2 then 2 else 1) else 0 := by
  unfold totK
  by_cases e : j = k
  · subst e
    rw [if_pos (show j < j + 1 by omega), if_neg (show ¬ j < j by omega), if_pos rfl]
    simp only [eff_dbl]
    simp
  · rw [if_neg e]
    by_cases h : j < k
    · rw [if_pos (show j < k + 1 by omega), if_pos h]; rfl
    · rw [if_neg (show ¬ j < k + 1 by omega), if_neg h]
end Go.Proofs.Ytehkdionodnhjaa
