/- A region that draws its order and stores, at its end, into what it loads: the loads are taken first under a condition that holds up to operation k. -/
import Derived.Test.YthcbjhmckbfkmaaBase
import Derived.Deep.RegionHeldLaw
set_option linter.unusedVariables false
set_option linter.unusedSimpArgs false
namespace Go.Proofs.Ythcbjhmckbfkmaa

section
variable {P : Program} {ops : Array Oper} {Q : Exit → Act → World → Prop} {md : Region.Mode} {S : World → Prop} {k : Nat}
/-- Whatever order is picked, S holding behind every operation till number k has come up. -/
def wpAnyK (P : Program) (md : Region.Mode) (ops : Array Oper) (Q : Exit → Act → World → Prop) (k : Nat) (S : World → Prop) : Nat → Array Bool → Act → World → Prop
  | 0, listed, a, w => Region.ready md ops listed = [] ∧ Q .normal a w
  | fuel + 1, listed, a, w =>
    (Region.ready md ops listed = [] → Q .normal a w) ∧
    ∀ i ∈ Region.ready md ops listed, wpOp P ops Q i (fun a' w' => ((listed.setIfInBounds i true).getD k true = false → S w') ∧ wpAnyK P md ops Q k S fuel (listed.setIfInBounds i true) a' w') a w
theorem wpAny_of_K : ∀ (fuel : Nat) (listed : Array Bool) (a : Act) (w : World), wpAnyK P md ops Q k S fuel listed a w → wpAny P md ops Q fuel listed a w
  | 0, _, _, _, h => h
  | fuel + 1, _, _, _, h => ⟨h.1, fun i hi => wpOp_mono (fun a' w' h' => wpAny_of_K fuel _ a' w' h'.2) (h.2 i hi)⟩
/-- Number k waits for number i. -/
def waitsOn (md : Region.Mode) (ops : Array Oper) (k i : Nat) : Bool := ((ops[k]?).map fun o => o.after.any fun e => Region.binds md e && e.on == i).getD false
theorem waitsOn_listed {listed : Array Bool} {i : Nat} (h : waitsOn md ops k i = true) (hk : k ∈ Region.ready md ops listed) : listed.getD i false = true := by
  obtain ⟨-, o, ho, hall⟩ := mem_ready.1 hk
  unfold waitsOn at h
  rw [ho] at h
  simp only [Option.map_some, Option.getD_some, Array.any_eq_true] at h
  obtain ⟨x, hx, he⟩ := h
  simp only [Bool.and_eq_true, beq_iff_eq] at he
  have := hall _ (Array.getElem_mem hx) he.1
  rwa [he.2] at this
theorem ready_not {listed : Array Bool} {i : Nat} (hr : i ∈ Region.ready md ops listed) (h : listed.getD i false = true) : False := by
  have h0 := (mem_ready.1 hr).1
  rcases Nat.lt_or_ge i listed.size with h' | h'
  · simp [h'] at h0 h; rw [h0] at h; cases h
  · simp [Array.getElem?_eq_none h'] at h
theorem wpAnyK_first {T : World → Prop} {i : Nat} {oi : Oper} {v : Value} (hi : ops[i]? = some oi) (hsel : ∀ (j : Nat) (o : Oper) cs b, ops[j]? = some o → o.op ≠ .select cs b)
    (hQ : ∀ c a w, Q (.panic c) (a.put oi.dst v) w → Q (.panic c) a w) (hki : k ≠ i) (hT : ∀ w, S w → T w) (hw : (∀ w, T w) ∨ waitsOn md ops k i = true) :
    ∀ (fuel : Nat) (listed : Array Bool) (a : Act) (w : World), ((∀ w, T w) ∨ listed.getD k true = false) →
      (∀ j oj, ops[j]? = some oj → j ≠ i → listed.getD j true = false → (∀ e ∈ oj.after, Region.binds md e = true → e.on ≠ i) → oi.apart ops oj = true) →
      i ∈ Region.ready md ops listed → YieldsIf P ops T oi v a → T w → (listed.getD k true = false → S w) →
      wpAnyK P md ops Q k S fuel (listed.setIfInBounds i true) (a.put oi.dst v) w → wpAnyK P md ops Q k S (fuel + 1) listed a w := by
  have hset : ∀ listed : Array Bool, (listed.setIfInBounds i true).getD k true = listed.getD k true := fun listed => getD_set_ne true (Ne.symm hki)
  intro fuel
  induction fuel with
  | zero =>
    intro listed a w _ _ hr hy hTw hS H
    refine ⟨fun h => (by rw [h] at hr; cases hr), fun j hj => ?_⟩
    by_cases hji : j = i
    · subst hji; exact hy.wpOp hi hTw ⟨fun h => hS (by rwa [hset] at h), H⟩
    · have := ready_mono hj hji
      rw [H.1] at this
      cases this
  | succ fuel ih =>
    intro listed a w hkl hfree hr hy hTw hS H
    refine ⟨fun h => (by rw [h] at hr; cases hr), fun j hj => ?_⟩
    by_cases hji : j = i
    · subst hji; exact hy.wpOp hi hTw ⟨fun h => hS (by rwa [hset] at h), H⟩
    · have h1 := H.2 j (ready_mono hj hji)
      obtain ⟨hjun, oj, hoj, hall⟩ := mem_ready.1 hj
      have hnot : ∀ e ∈ oj.after, Region.binds md e = true → e.on ≠ i := fun e he hb heq => by
        have h1 := hall e he hb
        rw [heq] at h1
        exact ready_not hr h1
      have h2 := wpOp_putIf hoj (hfree j oj hoj hji hjun hnot) (fun cs b => hsel i oi cs b hi) (fun cs b => hsel j oj cs b hoj) hQ hy h1
      have hfree' : ∀ k ok, ops[k]? = some ok → k ≠ i → (listed.setIfInBounds j true).getD k true = false →
          (∀ e ∈ ok.after, Region.binds md e = true → e.on ≠ i) → oi.apart ops ok = true := fun k ok hk hki hun hno => by
        refine hfree k ok hk hki ?_ hno
        by_cases hjk : j = k
        · subst hjk; exact hjun
        · rw [getD_set_ne true hjk] at hun; exact hun
      have hkl' : (∀ w, T w) ∨ (listed.setIfInBounds j true).getD k true = false := by
        rcases hw with hw | hw
        · exact .inl hw
        rcases hkl with hkl | hkl
        · exact .inl hkl
        · refine .inr ?_
          have : j ≠ k := fun e => ready_not hr (waitsOn_listed hw (e ▸ hj))
          rw [getD_set_ne true this]; exact hkl
      have hsw : ∀ w', (((listed.setIfInBounds i true).setIfInBounds j true).getD k true = false → S w') → (listed.setIfInBounds j true).getD k true = false → S w' := fun w' h3 h4 => by
        refine h3 ?_
        rw [Array.setIfInBounds_comm _ _ (Ne.symm hji), hset]; exact h4
      refine wpOp_mono (fun a' w' h3 => ?_) h2
      have hT' : T w' := by
        rcases hkl' with h4 | h4
        · exact h4 w'
        · exact hT w' (hsw w' h3.2.1 h4)
      refine ⟨hsw w' h3.2.1, ih (listed.setIfInBounds j true) a' w' hkl' hfree' (ready_mono hr (Ne.symm hji)) h3.1 hT' (hsw w' h3.2.1) ?_⟩
      rw [Array.setIfInBounds_comm _ _ hji]
      exact h3.2.2
/-- A load is taken first: number k waits for it. -/
theorem wpAnyK_take {i : Nat} {oi : Oper} {rest : List Oper} {v : Value} {fuel : Nat} {listed : Array Bool} {a : Act} {w : World} (hd : ops.toList.drop i = oi :: rest)
    (hs : Region.noSelect ops = true) (hf : Region.free md ops listed i = true) (hr : (Region.ready md ops listed).contains i = true) (hw : (waitsOn md ops k i && !listed.getD k true && decide (k ≠ i)) = true)
    (hQ : ∀ c a w, Q (.panic c) (a.put oi.dst v) w → Q (.panic c) a w) (hy : YieldsIf P ops S oi v a) (hS : S w)
    (h : wpAnyK P md ops Q k S fuel (listed.setIfInBounds i true) (a.put oi.dst v) w) : wpAnyK P md ops Q k S (fuel + 1) listed a w := by
  have hi : ops[i]? = some oi := by
    have := congrArg List.head? hd
    simpa using this
  simp only [Bool.and_eq_true, decide_eq_true_eq, Bool.not_eq_true'] at hw
  exact wpAnyK_first (T := S) hi (Region.noSelect_spec hs) hQ hw.2 (fun _ h => h) (.inr hw.1.1) fuel listed a w (.inr hw.1.2) (Region.free_spec hi hf) (by simpa using hr) hy hS (fun _ => hS) h
/-- What yields its value in whatever world is taken first. -/
theorem wpAnyK_take0 {i : Nat} {oi : Oper} {rest : List Oper} {v : Value} {fuel : Nat} {listed : Array Bool} {a : Act} {w : World} (hd : ops.toList.drop i = oi :: rest)
    (hs : Region.noSelect ops = true) (hf : Region.free md ops listed i = true) (hr : (Region.ready md ops listed).contains i = true) (hki : k ≠ i)
    (hQ : ∀ c a w, Q (.panic c) (a.put oi.dst v) w → Q (.panic c) a w) (hy : YieldsIf P ops (fun _ => True) oi v a) (hS : listed.getD k true = false → S w)
    (h : wpAnyK P md ops Q k S fuel (listed.setIfInBounds i true) (a.put oi.dst v) w) : wpAnyK P md ops Q k S (fuel + 1) listed a w := by
  have hi : ops[i]? = some oi := by
    have := congrArg List.head? hd
    simpa using this
  exact wpAnyK_first (T := fun _ => True) hi (Region.noSelect_spec hs) hQ hki (fun _ _ => trivial) (.inl fun _ => trivial) fuel listed a w (.inl fun _ => trivial) (Region.free_spec hi hf) (by simpa using hr) hy trivial hS h
def AllReadyK (P : Program) (md : Region.Mode) (ops : Array Oper) (Q : Exit → Act → World → Prop) (k : Nat) (S : World → Prop) (fuel : Nat) (listed : Array Bool) (a : Act) (w : World) (rs : List Nat) : Prop :=
  ∀ i ∈ rs, wpOp P ops Q i (fun a' w' => ((listed.setIfInBounds i true).getD k true = false → S w') ∧ wpAnyK P md ops Q k S fuel (listed.setIfInBounds i true) a' w') a w
theorem AllReadyK.nil {fuel : Nat} {listed : Array Bool} {a : Act} {w : World} : AllReadyK P md ops Q k S fuel listed a w [] := fun _ h => by cases h
/-- Number i comes up ahead of number k. -/
theorem AllReadyK.cons {fuel : Nat} {listed : Array Bool} {a : Act} {w : World} {i : Nat} {o : Oper} {rs : List Nat} (ho : ops[i]? = some o)
    (h : ∀ K' : Act → World → Prop, Shut (∀ a w, S w → (S w → wpAnyK P md ops Q k S fuel (listed.setIfInBounds i true) a w) → K' a w) → if Region.wanted o (yielded ops a.tmps) = true then Oper.wp P o a w K' Q else K' (a.put o.dst undef) w)
    (hs : AllReadyK P md ops Q k S fuel listed a w rs) : AllReadyK P md ops Q k S fuel listed a w (i :: rs) := fun j hj => by
  rcases List.mem_cons.1 hj with rfl | hj
  · exact wpOp_step ho (fun K' hK => h K' (fun a w hS hW => hK a w ⟨fun _ => hS, hW hS⟩))
  · exact hs j hj
/-- Number i comes up, number k having come up, or being it. -/
theorem AllReadyK.late {fuel : Nat} {listed : Array Bool} {a : Act} {w : World} {i : Nat} {o : Oper} {rs : List Nat} (ho : ops[i]? = some o) (hk : (listed.setIfInBounds i true).getD k true = true)
    (h : ∀ K' : Act → World → Prop, Shut (∀ a w, wpAnyK P md ops Q k S fuel (listed.setIfInBounds i true) a w → K' a w) → if Region.wanted o (yielded ops a.tmps) = true then Oper.wp P o a w K' Q else K' (a.put o.dst undef) w)
    (hs : AllReadyK P md ops Q k S fuel listed a w rs) : AllReadyK P md ops Q k S fuel listed a w (i :: rs) := fun j hj => by
  rcases List.mem_cons.1 hj with rfl | hj
  · exact wpOp_step ho (fun K' hK => h K' (fun a w hW => hK a w ⟨fun h0 => (by rw [hk] at h0; cases h0), hW⟩))
  · exact hs j hj
theorem wpAnyK_ready {rs : List Nat} {fuel : Nat} {listed : Array Bool} {a : Act} {w : World} (hr : Region.ready md ops listed = rs) (hne : rs ≠ [])
    (h : AllReadyK P md ops Q k S fuel listed a w rs) : wpAnyK P md ops Q k S (fuel + 1) listed a w := ⟨fun h0 => absurd (hr ▸ h0) hne, hr ▸ h⟩
theorem wpAnyK_done {listed : Array Bool} {a : Act} {w : World} (hr : Region.ready md ops listed = []) (h : Q .normal a w) :
    ∀ fuel, wpAnyK P md ops Q k S fuel listed a w
  | 0 => ⟨hr, h⟩
  | _ + 1 => ⟨fun _ => h, by rw [hr]; simp⟩
theorem wp_region_K {id : Nat} {a : Act} {w : World} (k : Nat) (S : World → Prop) (hm : P.follows .mixedOrders = true) (hS : S w.drew)
    (h : S w.drew → wpAnyK P .any ops Q k S ops.size (Array.replicate ops.size false) a w.drew) : (Code.region id ops true).wp P Q a w :=
  wp_region_any hm (wpAny_of_K _ _ _ _ (h hS))
end
end Go.Proofs.Ythcbjhmckbfkmaa
