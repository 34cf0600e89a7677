/- Maps of the call's own with numbers as keys: which keys, what each leads to; made, looked up, stored, deleted, counted. -/
import Derived.Test.YtfkofhdgokhodaaCh
import Derived.Maps.Own
import Derived.Maps.OwnOps
import Derived.Maps.OwnSet
import Derived.Maps.Views
import Derived.Maps.StringElems
import Derived.WalkKit
set_option linter.unusedVariables false
set_option linter.unusedSimpArgs false
namespace Go.Proofs.Ytfkofhdgokhodaa
open Go.RowKit Go.Maps Go.MapKept Go.ChangeMaps

/-- How an element reads. -/
structure ElK {α : Type} (R : Value → Option (DataW Unit × List MemPlace)) (ok : α → Prop) (mk : α → Value) (dt : α → DataW Unit) : Prop where
  mkR : ∀ a, ok a → R (mk a) = some (dt a, [])
  inv : ∀ v a ps, R v = some (dt a, ps) → v = mk a
def okI (n : Int) : Prop := (Lit.int .i64 n).wf = true
theorem okI_of {n : Int} (h : -9223372036854775808 ≤ n ∧ n ≤ 9223372036854775807) : okI n := WalkArith.wf_i64 h
theorem elI : ElK (plainElem Try.prog 3) okI (fun n => .int .i64 n) (fun n => .lit (.int .i64 n)) :=
  ⟨fun a h => plainElem_int Try.underlying3 h, fun v a ps h => by
    obtain ⟨c, rfl, hc, -⟩ := plainElem_int_inv Try.underlying3 h
    rw [(Lit.int.inj (DataW.lit.inj (Prod.mk.inj hc).1)).2]⟩
theorem elU : ElK unitElem (fun _ : Unit => True) (fun _ => .agg #[]) (fun _ => .agg []) :=
  ⟨fun a h => unitElem_mk, fun v a ps h => (unitElem_inv h).1⟩
/-- A map as an element: told by its block. -/
def rM : Value → Option (DataW Unit × List MemPlace)
  | .map (some b) => some (.lit (.int .i64 (b : Int)), [])
  | .map none => some (.lit (.int .i64 (-1)), [])
  | _ => none
def dM : Option Nat → DataW Unit
  | some b => .lit (.int .i64 (b : Int))
  | none => .lit (.int .i64 (-1))
theorem elM : ElK rM (fun _ : Option Nat => True) (fun m => .map m) dM :=
  ⟨fun a h => by cases a <;> rfl, fun v a ps h => by
    unfold rM at h
    split at h
    · injection h with h; injection h with h1 h2
      cases a with
      | none => unfold dM at h1; injection h1 with h1; injection h1 with h1 h2; omega
      | some c => unfold dM at h1; injection h1 with h1; injection h1 with h1 h2; rw [Int.ofNat.inj h2]
    · injection h with h; injection h with h1 h2
      cases a with
      | none => rfl
      | some c => unfold dM at h1; injection h1 with h1; injection h1 with h1 h2; omega
    · cases h⟩

/-- Block b is a map with the keys K; x leads to f x. -/
def MapF {α : Type} (R : Value → Option (DataW Unit × List MemPlace)) (dt : α → DataW Unit) (w : World) (b : Nat) (K : List Int) (f : Int → α) : Prop :=
  ∃ D, w.ownsMap Try.prog 3 R b K.length D ∧ Tidy D ∧ size D = K.length ∧ (∀ x : Int, has D (.int .i64 x) = decide (x ∈ K)) ∧ ∀ x ∈ K, ∀ z, D.atKey (.int .i64 x) z = dt (f x)
/-- Numbers to numbers; a set; numbers to maps. -/
def MapI (w : World) (b : Nat) (K : List Int) (f : Int → Int) : Prop := MapF (plainElem Try.prog 3) (fun n : Int => .lit (.int .i64 n)) w b K f
def MapU (w : World) (b : Nat) (K : List Int) : Prop := MapF unitElem (fun _ : Unit => .agg []) w b K fun _ => ()
def MapM (w : World) (b : Nat) (K : List Int) (f : Int → Option Nat) : Prop := MapF rM dM w b K f
def putK (K : List Int) (x : Int) : List Int := if x ∈ K then K else K ++ [x]
def delK (K : List Int) (x : Int) : List Int := K.filter fun y => y != x
def putV {α : Type} (f : Int → α) (x : Int) (a : α) : Int → α := fun y => if y = x then a else f y
theorem putK_mem {K : List Int} {x y : Int} : y ∈ putK K x ↔ y ∈ K ∨ y = x := by
  unfold putK
  split
  · rename_i h
    constructor
    · exact .inl
    · rintro (h' | rfl)
      · exact h'
      · exact h
  · simp
theorem putK_nodup {K : List Int} {x : Int} (h : K.Nodup) : (putK K x).Nodup := by
  unfold putK
  split
  · exact h
  · rename_i hx
    refine List.nodup_append.2 ⟨h, by simp, fun a ha c hc => ?_⟩
    simp at hc
    rw [hc]
    exact fun e => hx (e ▸ ha)
theorem putK_len (K : List Int) (x : Int) : (putK K x).length ≤ K.length + 1 := by
  unfold putK; split <;> simp
theorem delK_mem {K : List Int} {x y : Int} : y ∈ delK K x ↔ y ∈ K ∧ y ≠ x := by simp [delK]
theorem delK_nodup {K : List Int} {x : Int} (h : K.Nodup) : (delK K x).Nodup := h.filter _
theorem delK_len (K : List Int) (x : Int) : (delK K x).length ≤ K.length := List.length_filter_le _ _
theorem delK_none {K : List Int} {x : Int} (h : x ∉ K) : delK K x = K := by
  unfold delK
  rw [List.filter_eq_self]
  intro a ha
  have : a ≠ x := fun e => h (e ▸ ha)
  simp [this]
theorem delK_nodup_len {K : List Int} {x : Int} (h : K.Nodup) (hx : x ∈ K) : (delK K x).length + 1 = K.length := by
  induction K with
  | nil => cases hx
  | cons a K ih =>
    obtain ⟨h1, h2⟩ := List.nodup_cons.1 h
    by_cases e : a = x
    · subst e
      have : delK (a :: K) a = delK K a := by simp [delK]
      rw [this, delK_none h1]; rfl
    · have hx' : x ∈ K := by
        rcases List.mem_cons.1 hx with e' | e'
        · exact absurd e'.symm e
        · exact e'
      have : delK (a :: K) x = a :: delK K x := by simp [delK, e]
      rw [this, List.length_cons, List.length_cons, ih h2 hx']
theorem putK_len_new {K : List Int} {x : Int} (h : x ∉ K) : (putK K x).length = K.length + 1 := by simp [putK, h]
theorem putK_len_old {K : List Int} {x : Int} (h : x ∈ K) : putK K x = K := by simp [putK, h]
theorem lawK : Keyed Try.prog 3 := int_keyed Try.underlying3
theorem isKey (x : Int) : WideAt.IsKeyLit (.int .i64 x) := trivial
theorem keyLit_ne {x y : Int} (h : y ≠ x) : (Lit.int .i64 y) ≠ .int .i64 x := fun e => h (by injection e)
theorem own_tight {R : Value → Option (DataW Unit × List MemPlace)} {w : World} {b n : Nat} {D : DataW Unit} (h : w.ownsMap Try.prog 3 R b n D) : w.ownsMap Try.prog 3 R b (size D) D := by
  obtain ⟨es, clock, h1, h2, h3, h4⟩ := h
  exact ⟨es, clock, h1, h2, by rw [h4]; simp [size, length_sorted], h4⟩
section
variable {α : Type} {R : Value → Option (DataW Unit × List MemPlace)} {dt : α → DataW Unit} {w w' : World} {b n : Nat} {K : List Int} {f : Int → α} {x : Int} {a : α} {D : DataW Unit}
theorem MapF.lt (h : MapF R dt w b K f) : b < w.heap.size := by
  obtain ⟨D, ⟨es, clock, h1, h2⟩, h3⟩ := h
  exact (Array.getElem?_eq_some_iff.1 h1).1
theorem MapF.keep (h : MapF R dt w b K f) (hk : w'.heap[b]? = w.heap[b]?) : MapF R dt w' b K f := by
  obtain ⟨D, ⟨es, clock, h1, h2⟩, h3⟩ := h
  exact ⟨D, ⟨es, clock, hk.trans h1, h2⟩, h3⟩
theorem MapF.made (w : World) (f : Int → α) : MapF R dt (w.alloc (.map #[] 0)) w.heap.size [] f :=
  ⟨_, World.ownsMap_made _ _ _ _, tidy_empty, rfl, fun x => rfl, fun x h => by cases h⟩
theorem MapF.mkPut (hT : Tidy D) (hs : size D = K.length) (hh : ∀ x : Int, has D (.int .i64 x) = decide (x ∈ K)) (ha : ∀ x ∈ K, ∀ z, D.atKey (.int .i64 x) z = dt (f x)) (h : w'.ownsMap Try.prog 3 R b n (D.put (.int .i64 x) (dt a))) : MapF R dt w' b (putK K x) (putV f x a) := by
  have hsz : size (D.put (.int .i64 x) (dt a)) = (putK K x).length := by
    rw [size_put hT, hh x, hs]
    unfold putK
    by_cases hx : x ∈ K <;> simp [hx]
  refine ⟨_, hsz ▸ own_tight h, hT.put (isKey x) _, hsz, fun y => ?_, fun y hy z => ?_⟩
  · by_cases e : y = x
    · subst e
      rw [has_put_same hT.isMap (isKey y)]
      simp [putK_mem]
    · rw [has_put_other (keyLit_ne e), hh y]
      simp [putK_mem, e]
  · unfold putV
    by_cases e : y = x
    · subst e
      rw [if_pos rfl]
      exact atKey_put_same hT.isMap (isKey y) _ _
    · rw [if_neg e, atKey_put_other (keyLit_ne e)]
      exact ha y ((putK_mem.1 hy).resolve_right e) z
theorem MapF.mkDel (hT : Tidy D) (hs : size D = K.length) (hh : ∀ x : Int, has D (.int .i64 x) = decide (x ∈ K)) (ha : ∀ x ∈ K, ∀ z, D.atKey (.int .i64 x) z = dt (f x)) (hn : K.Nodup) (h : w'.ownsMap Try.prog 3 R b n (D.del (.int .i64 x))) : MapF R dt w' b (delK K x) f := by
  have hsz : size (D.del (.int .i64 x)) = (delK K x).length := by
    have := size_del (k := .int .i64 x) hT
    rw [hh x, hs] at this
    by_cases hx : x ∈ K
    · have h2 := delK_nodup_len hn hx
      simp [hx] at this
      omega
    · rw [delK_none hx]
      simpa [hx] using this
  refine ⟨_, hsz ▸ own_tight h, hT.del _, hsz, fun y => ?_, fun y hy z => ?_⟩
  · by_cases e : y = x
    · subst e
      rw [has_del_same]
      simp [delK_mem]
    · rw [has_del_other (keyLit_ne e), hh y]
      simp [delK_mem, e]
  · obtain ⟨h1, h2⟩ := delK_mem.1 hy
    rw [atKey_del_other (keyLit_ne h2)]
    exact ha y h1 z
/-- What a look-up finds. -/
def getV (K : List Int) (f : Int → α) (z : α) (x : Int) : α := if x ∈ K then f x else z
theorem atKey_getV {z : α} (hh : ∀ x : Int, has D (.int .i64 x) = decide (x ∈ K)) (ha : ∀ x ∈ K, ∀ z, D.atKey (.int .i64 x) z = dt (f x)) (x : Int) : D.atKey (.int .i64 x) (dt z) = dt (getV K f z x) := by
  unfold getV
  by_cases h : x ∈ K
  · rw [if_pos h]; exact ha x h _
  · rw [if_neg h]; exact atKey_of_not_has (by rw [hh x]; simp [h]) _
variable {ok : α → Prop} {mk : α → Value} {t e : TypeId} {z : α}
/-- v, ok := m[x]. -/
theorem MapF.look2 (h : MapF R dt w b K f) (El : ElK R ok mk dt) (ht : Try.prog.underlying t = some (.map 3 e)) (hz : (zeroValue e).run Try.prog w = .ok (mk z) w) (hzo : ok z) (hx : okI x) :
    (Instr.lookup t (.map (some b)) (.int .i64 x) true).run Try.prog w = .ok (.tuple #[mk (getV K f z x), .bool (decide (x ∈ K))]) w := by
  obtain ⟨D, ho, -, -, hh, ha⟩ := h
  obtain ⟨v, ps, hrun, hv⟩ := ho.look_ok lawK ht hz (El.mkR z hzo) (keyOf_int_mk Try.underlying3 hx)
  rw [atKey_getV hh ha x] at hv
  rw [El.inv _ _ _ hv, hh x] at hrun
  exact hrun
/-- m[x]. -/
theorem MapF.look1 (h : MapF R dt w b K f) (El : ElK R ok mk dt) (ht : Try.prog.underlying t = some (.map 3 e)) (hz : (zeroValue e).run Try.prog w = .ok (mk z) w) (hzo : ok z) (hx : okI x) :
    (Instr.lookup t (.map (some b)) (.int .i64 x) false).run Try.prog w = .ok (mk (getV K f z x)) w := by
  obtain ⟨D, ho, -, -, hh, ha⟩ := h
  obtain ⟨v, ps, hrun, hv⟩ := ho.lookup lawK ht hz (El.mkR z hzo) (keyOf_int_mk Try.underlying3 hx)
  rw [atKey_getV hh ha x] at hv
  rw [El.inv _ _ _ hv] at hrun
  exact hrun
/-- m[x] = a. -/
theorem MapF.upd (h : MapF R dt w b K f) (El : ElK R ok mk dt) (ht : Try.prog.underlying t = some (.map 3 e)) (hl : K.length ≤ 1000000000) (hx : okI x) (ha : ok a) :
    ∃ w', (Instr.mapUpdate t (.map (some b)) (.int .i64 x) (mk a)).run Try.prog w = .ok () w' ∧ MapF R dt w' b (putK K x) (putV f x a) ∧ w.grownBy w' (some b) ∧ w'.heap.size = w.heap.size := by
  obtain ⟨D, ho, hT, hs, hh, hat⟩ := h
  obtain ⟨w', hrun, h1, h2⟩ := ho.store lawK ht (by unfold maxLen; omega) (keyOf_int_mk Try.underlying3 hx) (El.mkR a ha)
  refine ⟨w', hrun, MapF.mkPut hT hs hh hat h1, h2.grown, ?_⟩
  obtain ⟨es, clock, es', clock', hb, rfl⟩ := h2
  simp [setBlock]
/-- delete(m, x). -/
theorem MapF.del (h : MapF R dt w b K f) (hn : K.Nodup) (ht : Try.prog.underlying t = some (.map 3 e)) (hx : okI x) (ty : TypeId) :
    ∃ w', (Builtin.delete_ #[t, 3] ty #[.map (some b), .int .i64 x]).run Try.prog w = .ok (.tuple #[]) w' ∧ MapF R dt w' b (delK K x) f ∧ w.grownBy w' (some b) ∧ w'.heap.size = w.heap.size := by
  obtain ⟨D, ho, hT, hs, hh, hat⟩ := h
  obtain ⟨w', hrun, h1, h2⟩ := ho.drop lawK ht (keyOf_int_mk Try.underlying3 hx) ty
  refine ⟨w', hrun, MapF.mkDel hT hs hh hat hn h1, h2.grown, ?_⟩
  obtain ⟨es, clock, es', clock', hb, rfl⟩ := h2
  simp [setBlock]
/-- len(m). -/
theorem MapF.len (h : MapF R dt w b K f) (ht : Try.prog.underlying t = some (.map 3 e)) (ty : TypeId) : (Builtin.len_ #[t] ty #[.map (some b)]).run Try.prog w = .ok (.int .i64 (K.length : Int)) w := by
  obtain ⟨D, ho, hT, hs, hh, hat⟩ := h
  rw [← hs]; exact ho.len ht ty
end

/-! ### at the operation, for the walk -/
section
variable {α : Type} {R : Value → Option (DataW Unit × List MemPlace)} {dt : α → DataW Unit} {ok : α → Prop} {mk : α → Value} {w : World} {ops : Array Oper} {rest : List Oper} {o : Oper} {a : Act} {Q : Exit → Act → World → Prop}
theorem wp_del (hg : o.guard = none) (m x : Operand) (t e : TypeId) (hop : o.op = Op.call { callee := Callee.builtin Builtin.delete, args := #[m, x], argTypes := #[t, 3] }) (ht : Try.prog.underlying t = some (.map 3 e)) {b : Nat} {K : List Int} {f : Int → α} {n : Int}
    (hm : a.eval m = .map (some b)) (h : MapF R dt w b K f) (hd : K.Nodup) (hx : a.eval x = .int .i64 n) (hn : okI n)
    (hK : ∀ w', MapF R dt w' b (delK K n) f → w.grownBy w' (some b) → w'.heap.size = w.heap.size → wpList Try.prog ops Q rest (a.put o.dst (.tuple #[])) w') : wpList Try.prog ops Q (o :: rest) a w := by
  refine wpList_plain hg fun K' hK' => ?_
  obtain ⟨w', hrun, r1, r2, r3⟩ := h.del hd ht hn o.type
  unfold Oper.wp
  simp [execOp, hop, resolve, invoke, builtin, hm, hx, hrun, Result.andThen]
  exact hK' _ _ (hK w' r1 r2 r3)
theorem wp_len (hg : o.guard = none) (m : Operand) (t e : TypeId) (hop : o.op = Op.call { callee := Callee.builtin Builtin.len, args := #[m], argTypes := #[t] }) (ht : Try.prog.underlying t = some (.map 3 e)) {b : Nat} {K : List Int} {f : Int → α}
    (hm : a.eval m = .map (some b)) (h : MapF R dt w b K f) (hK : wpList Try.prog ops Q rest (a.put o.dst (.int .i64 (K.length : Int))) w) : wpList Try.prog ops Q (o :: rest) a w := by
  refine wpList_plain hg fun K' hK' => ?_
  unfold Oper.wp
  simp [execOp, hop, resolve, invoke, builtin, hm, h.len ht o.type, Result.andThen]
  exact hK' _ _ hK
variable (El : ElK R ok mk dt)
include El
theorem wp_look1 (hg : o.guard = none) (m x : Operand) (t e : TypeId) (hop : o.op = Op.lookup t m x false) (ht : Try.prog.underlying t = some (.map 3 e)) {z : α} (hz : (zeroValue e).run Try.prog w = .ok (mk z) w) (hzo : ok z) {b : Nat} {K : List Int} {f : Int → α} {n : Int}
    (hm : a.eval m = .map (some b)) (h : MapF R dt w b K f) (hx : a.eval x = .int .i64 n) (hn : okI n) (hK : wpList Try.prog ops Q rest (a.put o.dst (mk (getV K f z n))) w) : wpList Try.prog ops Q (o :: rest) a w := by
  refine wpList_plain hg fun K' hK' => ?_
  unfold Oper.wp
  simp [execOp, hop, hm, hx, h.look1 El ht hz hzo hn, Result.andThen]
  exact hK' _ _ hK
theorem wp_look2 (hg : o.guard = none) (m x : Operand) (t e : TypeId) (hop : o.op = Op.lookup t m x true) (ht : Try.prog.underlying t = some (.map 3 e)) {z : α} (hz : (zeroValue e).run Try.prog w = .ok (mk z) w) (hzo : ok z) {b : Nat} {K : List Int} {f : Int → α} {n : Int}
    (hm : a.eval m = .map (some b)) (h : MapF R dt w b K f) (hx : a.eval x = .int .i64 n) (hn : okI n) (hK : wpList Try.prog ops Q rest (a.put o.dst (.tuple #[mk (getV K f z n), .bool (decide (n ∈ K))])) w) : wpList Try.prog ops Q (o :: rest) a w := by
  refine wpList_plain hg fun K' hK' => ?_
  unfold Oper.wp
  simp [execOp, hop, hm, hx, h.look2 El ht hz hzo hn, Result.andThen]
  exact hK' _ _ (by simpa using hK)
theorem wp_upd (hg : o.guard = none) (m x v : Operand) (t e : TypeId) (hop : o.op = Op.mapUpdate t m x v) (ht : Try.prog.underlying t = some (.map 3 e)) {b : Nat} {K : List Int} {f : Int → α} {n : Int} {c : α}
    (hm : a.eval m = .map (some b)) (h : MapF R dt w b K f) (hl : K.length ≤ 1000000000) (hx : a.eval x = .int .i64 n) (hn : okI n) (hv : a.eval v = mk c) (hc : ok c)
    (hK : ∀ w', MapF R dt w' b (putK K n) (putV f n c) → w.grownBy w' (some b) → w'.heap.size = w.heap.size → wpList Try.prog ops Q rest (a.put o.dst undef) w') : wpList Try.prog ops Q (o :: rest) a w := by
  refine wpList_plain hg fun K' hK' => ?_
  obtain ⟨w', hrun, r1, r2, r3⟩ := h.upd El ht hl hn hc
  unfold Oper.wp
  simp [execOp, hop, hm, hx, hv, hrun, Result.andThen]
  exact hK' _ _ (hK w' r1 r2 r3)
end
end Go.Proofs.Ytfkofhdgokhodaa
