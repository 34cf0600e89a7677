/- A region that draws its order: an invariant that every operation keeps, whichever comes up. -/
import Derived.Test.YtoiojkjmldlhcaaBase
import Derived.Deep.RegionHeldLaw
set_option linter.unusedVariables false
set_option linter.unusedSimpArgs false
namespace Go.Proofs.Ytoiojkjmldlhcaa

section
variable {P : Program} {ops : Array Oper} {Q : Exit → Act → World → Prop} {md : Region.Mode}
theorem count_set : ∀ (l : List Bool) (i : Nat), l[i]? = some false → (l.set i true).count false + 1 = l.count false
  | [], i, h => by simp at h
  | b :: r, 0, h => by simp at h; subst h; simp [List.set]
  | b :: r, i + 1, h => by
    have := count_set r i (by simpa using h)
    simp only [List.set_cons_succ, List.count_cons]
    omega
theorem wpAny_inv (I : Array Bool → Act → World → Prop) (hlex : ∀ (i : Nat) (o : Oper), ops[i]? = some o → ∀ e ∈ o.after, Region.binds md e = true → e.on < i)
    (hstep : ∀ (i : Nat) (o : Oper) (listed : Array Bool) (a : Act) (w : World), ops[i]? = some o → listed.size = ops.size → I listed a w → (∀ e ∈ o.after, Region.binds md e = true → listed.getD e.on false = true) → wpOp P ops Q i (I (listed.setIfInBounds i true)) a w)
    (hend : ∀ listed a w, I listed a w → (∀ i, i < ops.size → listed.getD i false = true) → Q .normal a w) :
    ∀ fuel listed a w, listed.size = ops.size → listed.toList.count false ≤ fuel → I listed a w → wpAny P md ops Q fuel listed a w := by
  have all : ∀ listed : Array Bool, listed.size = ops.size → Region.ready md ops listed = [] → ∀ i, i < ops.size → listed.getD i false = true := fun listed hs hr i => by
    induction i using Nat.strongRecOn with
    | _ i ih =>
      intro hi
      cases hb : listed.getD i false with
      | true => rfl
      | false =>
        have : i ∈ Region.ready md ops listed := mem_ready.2 ⟨by
          have hi' : i < listed.size := by omega
          simp [Array.getD, hi'] at hb ⊢
          exact hb, ops[i], Array.getElem?_eq_getElem hi, fun e he hb' => ih e.on (hlex i _ (Array.getElem?_eq_getElem hi) e he hb') (by have := hlex i _ (Array.getElem?_eq_getElem hi) e he hb'; omega)⟩
        rw [hr] at this; cases this
  intro fuel
  induction fuel with
  | zero =>
    intro listed a w hs hc hI
    have hr : Region.ready md ops listed = [] := by
      cases h : Region.ready md ops listed with
      | nil => rfl
      | cons i r =>
        exfalso
        have hm : i ∈ Region.ready md ops listed := by rw [h]; simp
        obtain ⟨h1, o, h2, -⟩ := mem_ready.1 hm
        have hi : i < listed.size := by have := (Array.getElem?_eq_some_iff.1 h2).1; omega
        simp [Array.getD, hi] at h1
        have : false ∈ listed.toList := by rw [← h1]; simp
        have := List.count_pos_iff.2 this
        omega
    exact ⟨hr, hend _ _ _ hI (all _ hs hr)⟩
  | succ fuel ih =>
    intro listed a w hs hc hI
    refine ⟨fun hr => hend _ _ _ hI (all _ hs hr), fun i hi => ?_⟩
    obtain ⟨h1, o, h2, h3⟩ := mem_ready.1 hi
    have hil : i < listed.size := by have := (Array.getElem?_eq_some_iff.1 h2).1; omega
    refine wpOp_mono (fun a' w' h => ih _ _ _ (by simpa using hs) ?_ h) (hstep i o listed a w h2 hs hI h3)
    have h4 : listed.toList[i]? = some false := by
      simp [Array.getD, hil] at h1
      simp [hil, h1]
    have := count_set _ _ h4
    rw [Array.toList_setIfInBounds]
    omega
/-- The frame between two operations: those that came up hold what they should. -/
structure Fr (ops : Array Oper) (t0 : Array Value) (d0 : List Deferred) (V : Nat → Value → World → Prop) (Wd : World → Prop) (listed : Array Bool) (a : Act) (w : World) : Prop where
  size : a.tmps.size = t0.size
  defers : a.defers = d0
  old : ∀ k : Nat, (∀ (i : Nat) (o : Oper), ops[i]? = some o → o.dst ≠ some k) → a.tmps.getD k undef = t0.getD k undef
  wd : Wd w
  new : ∀ (i : Nat) (o : Oper) (k : Nat), ops[i]? = some o → o.dst = some k → listed.getD i false = true → V i (a.tmps.getD k undef) w
theorem getD_put_ne {a : Act} {k j : Nat} {v : Value} (h : k ≠ j) : (a.put (some j) v).tmps.getD k undef = a.tmps.getD k undef := by
  show (a.tmps.setIfInBounds j v).getD k undef = _
  simp only [Array.getD_eq_getD_getElem?]
  rw [Array.getElem?_setIfInBounds_ne (Ne.symm h)]
theorem getD_put_self {a : Act} {j : Nat} {v : Value} (h : j < a.tmps.size) : (a.put (some j) v).tmps.getD j undef = v := by
  show (a.tmps.setIfInBounds j v).getD j undef = _
  simp only [Array.getD_eq_getD_getElem?]
  rw [Array.getElem?_setIfInBounds_self_of_lt h]; rfl
theorem wpAny_frame {t0 : Array Value} {d0 : List Deferred} (V : Nat → Value → World → Prop) (Wd : World → Prop) (hlex : ∀ (i : Nat) (o : Oper), ops[i]? = some o → ∀ e ∈ o.after, Region.binds md e = true → e.on < i)
    (hdst : ∀ (i : Nat) (o : Oper), ops[i]? = some o → ∃ k, o.dst = some k ∧ k < t0.size ∧ o.guard = none) (hinj : ∀ (i j : Nat) (o o' : Oper), ops[i]? = some o → ops[j]? = some o' → o.dst = o'.dst → i = j)
    (hop : ∀ (i : Nat) (o : Oper) (k : Nat) (a : Act) (w : World) (listed : Array Bool), ops[i]? = some o → o.dst = some k → Fr ops t0 d0 V Wd listed a w → (∀ e ∈ o.after, Region.binds md e = true → listed.getD e.on false = true) →
      ∀ K' : Act → World → Prop, (∀ v w', V i v w' → Wd w' → (∀ j v, V j v w → V j v w') → K' (a.put (some k) v) w') → Oper.wp P o a w K' Q)
    (hend : ∀ listed a w, Fr ops t0 d0 V Wd listed a w → (∀ i, i < ops.size → listed.getD i false = true) → Q .normal a w) {w : World} (hw : Wd w) :
    wpAny P md ops Q ops.size (Array.replicate ops.size false) ⟨t0, d0⟩ w := by
  refine wpAny_inv (Fr ops t0 d0 V Wd) hlex (fun i o listed a w ho hs hI hdep => ?_) hend _ _ _ _ (by simp) (by simp) ⟨rfl, rfl, fun _ _ => rfl, hw, fun i o k ho hk hl => by
    simp [Array.getD] at hl⟩
  obtain ⟨k, hk, hkt, hg⟩ := hdst i o ho
  refine wpOp_step ho fun K' hK => ?_
  rw [if_pos (by simp [Region.wanted, hg])]
  refine hop i o k a w listed ho hk hI hdep K' fun v w' hv hw' hmono => hK _ _ ⟨?_, ?_, ?_, hw', ?_⟩
  · show (a.tmps.setIfInBounds k v).size = _
    rw [Array.size_setIfInBounds]; exact hI.size
  · exact hI.defers
  · intro j hj
    rw [getD_put_ne (fun e => hj i o ho (by rw [e]; exact hk))]
    exact hI.old j hj
  · intro j o' k' ho' hk' hl
    by_cases e : j = i
    · subst e
      rw [ho] at ho'
      injection ho' with ho'
      subst ho'
      rw [hk] at hk'
      injection hk' with hk'
      subst hk'
      rw [getD_put_self (by rw [hI.size]; exact hkt)]
      exact hv
    · have hne : k' ≠ k := fun e' => e (hinj j i o' o ho' ho (by rw [hk, hk', e']))
      rw [getD_put_ne hne]
      refine hmono j _ (hI.new j o' k' ho' hk' ?_)
      have : (listed.setIfInBounds i true).getD j false = listed.getD j false := by
        simp only [Array.getD_eq_getD_getElem?]
        rw [Array.getElem?_setIfInBounds_ne (Ne.symm e)]
      rwa [this] at hl
def slotOf (ops : Array Oper) (j : Nat) : Nat := ((ops[j]?).bind (·.dst)).getD 0
/-- No guard, each writes a slot of its own, and waits for earlier ones alone. -/
def regOk (ops : Array Oper) (n : Nat) : Bool :=
  (List.range ops.size).all fun i => match ops[i]? with
    | none => false
    | some o => o.guard.isNone && o.dst.isSome && decide (slotOf ops i < n) && o.after.all (fun e => decide (e.on < i)) && (List.range i).all fun j => slotOf ops j != slotOf ops i
theorem regOk_at {ops : Array Oper} {n : Nat} (h : regOk ops n = true) {i : Nat} {o : Oper} (ho : ops[i]? = some o) : o.guard = none ∧ o.dst = some (slotOf ops i) ∧ slotOf ops i < n ∧ (∀ e ∈ o.after, e.on < i) ∧ ∀ j, j < i → slotOf ops j ≠ slotOf ops i := by
  have hi := (Array.getElem?_eq_some_iff.1 ho).1
  have h1 := List.all_eq_true.1 h i (List.mem_range.2 hi)
  rw [ho] at h1
  simp only [Bool.and_eq_true, decide_eq_true_eq, Array.all_eq_true_iff_forall_mem, List.all_eq_true, List.mem_range, bne_iff_ne] at h1
  obtain ⟨⟨⟨⟨a1, a2⟩, a3⟩, a4⟩, a5⟩ := h1
  refine ⟨by simpa using a1, ?_, a3, a4, a5⟩
  obtain ⟨k, hk⟩ := Option.isSome_iff_exists.1 a2
  rw [slotOf, ho]
  simp [hk]
def allFrom (H : Nat → Oper → Prop) : Nat → List Oper → Prop
  | _, [] => True
  | k, o :: r => H k o ∧ allFrom H (k + 1) r
theorem allFrom_at {H : Nat → Oper → Prop} : ∀ (l : List Oper) (k i : Nat) (o : Oper), allFrom H k l → l[i]? = some o → H (k + i) o
  | [], k, i, o, _, h => by simp at h
  | x :: r, k, 0, o, hl, h => by simp at h; subst h; exact hl.1
  | x :: r, k, i + 1, o, hl, h => by
    have := allFrom_at r (k + 1) i o hl.2 (by simpa using h)
    rwa [show k + 1 + i = k + (i + 1) by omega] at this
/-- The region's walk: each operation once, in whatever frame and world. -/
theorem wp_region_frame {id : Nat} {t0 : Array Value} {d0 : List Deferred} {w : World} (V : Nat → Value → World → Prop) (Wd : World → Prop) (hm : P.follows .mixedOrders = true) (n : Nat) (hn : t0.size = n) (hok : regOk ops n = true)
    (hops : allFrom (fun i o => ∀ (a : Act) (w : World), a.tmps.size = n → Wd w → (∀ k : Nat, ops.all (fun o => o.dst != some k) = true → a.eval (.tmp k) = t0.getD k undef) → (∀ j : Nat, (o.after.any fun e => Region.binds .any e && e.on == j) = true → V j (a.eval (.tmp (slotOf ops j))) w) →
      ∀ K' : Act → World → Prop, (∀ v w', V i v w' → Wd w' → (∀ j v, V j v w → V j v w') → K' (a.put o.dst v) w') → Oper.wp P o a w K' Q) 0 ops.toList)
    (hend : ∀ (a : Act) (w : World), a.tmps.size = n → a.defers = d0 → Wd w → (∀ k : Nat, ops.all (fun o => o.dst != some k) = true → a.eval (.tmp k) = t0.getD k undef) → (∀ j : Nat, j < ops.size → V j (a.eval (.tmp (slotOf ops j))) w) → Q .normal a w) (hw : Wd w.drew) :
    (Code.region id ops true).wp P Q ⟨t0, d0⟩ w := by
  refine wp_region_any hm ?_
  have old : ∀ {listed : Array Bool} {a : Act} {w : World}, Fr ops t0 d0 V Wd listed a w → ∀ k : Nat, ops.all (fun o => o.dst != some k) = true → a.eval (.tmp k) = t0.getD k undef := fun hF k hk => hF.old k fun i o ho hd => by
    rw [Array.all_eq_true_iff_forall_mem] at hk
    have := hk o (Array.mem_of_getElem? ho)
    simp [hd] at this
  have new : ∀ {listed : Array Bool} {a : Act} {w : World}, Fr ops t0 d0 V Wd listed a w → ∀ j : Nat, j < ops.size → listed.getD j false = true → V j (a.eval (.tmp (slotOf ops j))) w := fun hF j hj hl =>
    hF.new j ops[j] (slotOf ops j) (Array.getElem?_eq_getElem hj) (regOk_at hok (Array.getElem?_eq_getElem hj)).2.1 hl
  refine wpAny_frame V Wd (fun i o ho e he _ => (regOk_at hok ho).2.2.2.1 e he) (fun i o ho => ⟨_, (regOk_at hok ho).2.1, by rw [hn]; exact (regOk_at hok ho).2.2.1, (regOk_at hok ho).1⟩) (fun i j o o' ho ho' hd => ?_) (fun i o k a w listed ho hk hF hdep K' hK => ?_) (fun listed a w hF hall => ?_) hw
  · rw [(regOk_at hok ho).2.1, (regOk_at hok ho').2.1] at hd
    injection hd with hd
    rcases Nat.lt_trichotomy i j with h | h | h
    · exact absurd hd ((regOk_at hok ho').2.2.2.2 i h)
    · exact h
    · exact absurd hd.symm ((regOk_at hok ho).2.2.2.2 j h)
  · have := allFrom_at ops.toList 0 i o hops (by simpa using ho)
    rw [Nat.zero_add] at this
    refine this a w (by rw [hF.size, hn]) hF.wd (old hF) (fun j hj => ?_) K' (by rw [hk]; exact hK)
    simp only [Array.any_eq_true, Bool.and_eq_true, beq_iff_eq] at hj
    obtain ⟨x, hx, h1, h2⟩ := hj
    have hl := hdep _ (Array.getElem_mem hx) h1
    rw [h2] at hl
    have hlt := (regOk_at hok ho).2.2.2.1 _ (Array.getElem_mem hx)
    rw [h2] at hlt
    have := (Array.getElem?_eq_some_iff.1 ho).1
    exact new hF j (by omega) hl
  · exact hend a w (by rw [hF.size, hn]) hF.defers hF.wd (old hF) fun j hj => new hF j hj (hall j hj)
end
end Go.Proofs.Ytoiojkjmldlhcaa
