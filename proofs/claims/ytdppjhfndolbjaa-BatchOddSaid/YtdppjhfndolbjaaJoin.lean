/- append of one row to another one, of elements of whatever size. -/
import Derived.Test.YtdppjhfndolbjaaCat
set_option linter.unusedVariables false
set_option linter.unusedSimpArgs false
namespace Go.Proofs.Ytdppjhfndolbjaa
open Go.RowKit

section
variable {P : Program} {w : World} {α : Type} {d : Kd α} {S : Nat → Prop}
theorem run_app_none' (t ty e : TypeId) (i : TypeInfo) (ht : P.underlying t = some (.slice e)) (hi : P.info? e = some i) {size n : Nat} {v : Value} {us : List Value} (hown : w.ownsRow 0 e size v n us) (c : Nat) :
    (Builtin.append_ #[t, t] ty #[v, .slice none 0 c]).run P w = .ok v w := by
  rcases hown.2 with ⟨rfl, _⟩ | ⟨g, cap, cur, rfl, _, _, hnc, _⟩
  · simp [Builtin.append_, run_underlying ht, sizeOf, typeInfo, hi, Builtin.lenOf, Builtin.firstCells]
  · simp [Builtin.append_, run_underlying ht, sizeOf, typeInfo, hi, Builtin.lenOf, Builtin.firstCells, hnc, storeCells]
/-- The cells of a row that is read, one behind the other. -/
theorem RdL.flat {A : Option Addr} {ys : List α} (h : RdL d S w A ys) : ∃ us : List Value, us.length = ys.length * d.sz ∧ (0 < us.length → ∃ ad, A = some ad ∧ ∀ j u, us[j]? = some u → w.cell? (ad.add j) = some u) ∧
    (∀ u ∈ us, ∃ y ∈ ys, ∃ cs, d.R S w y cs ∧ u ∈ cs) ∧ ∀ (i : Nat) (y : α), ys[i]? = some y → ∃ cs, d.R S w y cs ∧ ∀ (j : Nat) (u : Value), cs[j]? = some u → us[i * d.sz + j]? = some u := by
  have hpos := d.pos
  rcases Nat.eq_zero_or_pos ys.length with h0 | hp
  · have : ys = [] := List.eq_nil_of_length_eq_zero h0
    subst this
    exact ⟨[], by simp, fun h => by simp at h, fun u hu => by simp at hu, fun i y hy => by simp at hy⟩
  · obtain ⟨b, off, rfl, hs, hc⟩ := h hp
    -- one choice of cells for each element
    obtain ⟨css, hcl, hcs⟩ := list_of ys.length (fun i (cs : List Value) => ∃ y, ys[i]? = some y ∧ d.R S w y cs ∧ ∀ j u, cs[j]? = some u → w.cell? ⟨b, off + (i * d.sz + j), none⟩ = some u) fun i hi => by
      obtain ⟨cs, h1, h2⟩ := hc i ys[i] (List.getElem?_eq_getElem hi)
      exact ⟨cs, ys[i], List.getElem?_eq_getElem hi, h1, h2⟩
    have hlen : ∀ (i : Nat) (cs : List Value), css[i]? = some cs → cs.length = d.sz := fun i cs hi => by
      obtain ⟨y, -, h2, -⟩ := hcs i cs hi
      exact d.len h2
    obtain ⟨us, hul, hus⟩ := list_of (ys.length * d.sz) (fun q (u : Value) => ∃ cs, css[q / d.sz]? = some cs ∧ cs[q % d.sz]? = some u) fun q hq => by
      have hqd : q / d.sz < css.length := by rw [hcl]; exact Nat.div_lt_of_lt_mul (by rw [Nat.mul_comm]; exact hq)
      have hl := hlen _ _ (List.getElem?_eq_getElem hqd)
      exact ⟨(css[q / d.sz])[q % d.sz]'(by rw [hl]; exact Nat.mod_lt _ hpos), _, List.getElem?_eq_getElem hqd, List.getElem?_eq_getElem _⟩
    refine ⟨us, hul, fun _ => ⟨_, rfl, fun j u hu => ?_⟩, fun u hu => ?_, fun i y hy => ?_⟩
    · obtain ⟨cs, h1, h2⟩ := hus j u hu
      obtain ⟨y, -, -, h4⟩ := hcs _ _ h1
      have := h4 _ _ h2
      rw [Nat.div_add_mod' j d.sz] at this
      unfold Addr.add
      split
      · rename_i e; rw [e] at this; simpa using this
      · exact this
    · obtain ⟨q, hq, rfl⟩ := List.getElem_of_mem hu
      obtain ⟨cs, h1, h2⟩ := hus q _ (List.getElem?_eq_getElem hq)
      obtain ⟨y, h3, h4, -⟩ := hcs _ _ h1
      exact ⟨y, List.mem_of_getElem? h3, cs, h4, List.mem_of_getElem? h2⟩
    · have hi : i < css.length := by rw [hcl]; exact (List.getElem?_eq_some_iff.1 hy).1
      obtain ⟨y', h1, h2, -⟩ := hcs i _ (List.getElem?_eq_getElem hi)
      rw [hy] at h1
      injection h1 with h1
      subst h1
      have hl := hlen i _ (List.getElem?_eq_getElem hi)
      refine ⟨css[i], h2, fun j u hu => ?_⟩
      have hj : j < d.sz := by rw [← hl]; exact (List.getElem?_eq_some_iff.1 hu).1
      have hq : i * d.sz + j < us.length := by
        rw [hul]
        have : (i + 1) * d.sz ≤ ys.length * d.sz := Nat.mul_le_mul_right _ (by omega)
        rw [Nat.succ_mul] at this
        omega
      obtain ⟨cs, h5, h6⟩ := hus _ _ (List.getElem?_eq_getElem hq)
      rw [show (i * d.sz + j) / d.sz = i by rw [Nat.mul_comm, Nat.mul_add_div hpos, Nat.div_eq_of_lt hj, Nat.add_zero], List.getElem?_eq_getElem hi] at h5
      injection h5 with h5
      subst h5
      rw [show (i * d.sz + j) % d.sz = j by rw [Nat.mul_comm, Nat.mul_add_mod, Nat.mod_eq_of_lt hj], hu] at h6
      rw [List.getElem?_eq_getElem hq, ← h6]
theorem run_join {t : TypeId} (ty : TypeId) {e : TypeId} {z : Value} {bytes : Nat} (ht : P.underlying t = some (.slice e)) (hi : (P.info? e).map (fun i => (i.zero, i.size, i.bytes)) = some (some z, d.sz, bytes)) (hz : z.cells.size = d.sz)
    {v : Value} {xs : List α} (hown : ORow d S w e v xs) {A : Option Addr} (c : Nat) {ys : List α} (hs : RdL d S w A ys) (h1 : ∀ y ∈ ys, ∀ cs, d.R S w y cs → ∀ u ∈ cs, u.oneCell' = true)
    (hb : (xs.length + ys.length) * bytes ≤ 140737488355328) (hl : xs.length + ys.length ≤ maxLen) (hS : ∀ k, S k → k < w.heap.size ∧ some k ≠ v.ownBlock) :
    ∃ v' w', (Builtin.append_ #[t, t] ty #[v, .slice A ys.length c]).run P w = .ok v' w' ∧ ORow d S w' e v' (xs ++ ys) ∧ w.grownBy w' v.ownBlock ∧ (v'.ownBlock = v.ownBlock ∨ v'.ownBlock = some w.heap.size) := by
  obtain ⟨i, hi, hzz⟩ := Option.map_eq_some_iff.1 hi
  simp only [Prod.mk.injEq] at hzz
  obtain ⟨hz0, hz1, hz2⟩ := hzz
  obtain ⟨us2, f1, f2, f3, f4⟩ := hs.flat
  have hpos := d.pos
  obtain ⟨us, o1, o2⟩ := hown
  have hone : ∀ u ∈ us2, u.oneCell' = true := fun u hu => by
    obtain ⟨y, hy, cs, hr, hm⟩ := f3 u hu
    exact h1 y hy cs hr u hm
  cases A with
  | none =>
    have hn : ys = [] := by
      rcases Nat.eq_zero_or_pos ys.length with h0 | h0
      · exact List.eq_nil_of_length_eq_zero h0
      · obtain ⟨b, off, h, _⟩ := hs h0
        cases h
    subst hn
    exact ⟨v, w, run_app_none' t ty e i ht hi o1 c, by rw [List.append_nil]; exact ⟨us, o1, o2⟩, World.grownBy.refl w _, .inl rfl⟩
  | some ad =>
    have hc : ∀ j u, us2[j]? = some u → w.cell? (ad.add j) = some u := fun j u hu => by
      obtain ⟨ad', h, hh⟩ := f2 (by have := (List.getElem?_eq_some_iff.1 hu).1; omega)
      injection h with h
      subst h
      exact hh j u hu
    obtain ⟨v', w', hrun, h2, h3, _, h5⟩ := run_append_own_at (P := P) w 0 t ty e i z d.sz bytes ht hi hz0 hz1 hz2 hz hpos v xs.length us o1 ad ys.length c us2 f1 hc hone hl hb (Nat.zero_le _)
    refine ⟨v', w', hrun, ⟨us ++ us2, by rw [List.length_append]; exact h2, fun i' y hy => ?_⟩, h3, h5⟩
    have hk : ∀ k, S k → w'.heap[k]? = w.heap[k]? := fun k hk => h3.block k (hS k hk).1 (hS k hk).2
    by_cases hi' : i' < xs.length
    · rw [List.getElem?_append_left hi'] at hy
      obtain ⟨cs, hr, hc'⟩ := o2 i' y hy
      refine ⟨cs, d.keep hk hr, fun j u hu => ?_⟩
      have := hc' j u hu
      rw [List.getElem?_append_left (List.getElem?_eq_some_iff.1 this).1]
      exact this
    · rw [List.getElem?_append_right (by omega)] at hy
      obtain ⟨cs, hr, hc'⟩ := f4 _ y hy
      refine ⟨cs, d.keep hk hr, fun j u hu => ?_⟩
      have := hc' j u hu
      have hul := o1.1
      have e1 : i' * d.sz = xs.length * d.sz + (i' - xs.length) * d.sz := by rw [← Nat.add_mul]; congr 1; omega
      rw [List.getElem?_append_right (by omega), hul, show i' * d.sz + j - xs.length * d.sz = (i' - xs.length) * d.sz + j by omega]
      exact this
theorem op_join {o : Oper} {a : Act} {K : Act → World → Prop} {Q : Exit → Act → World → Prop} (N : Tmp) (_hN : o.dst = some N) (s x : Operand) (t : TypeId)
    (ho : o.op = .call { callee := .builtin .append, args := #[s, x], argTypes := #[t, t] }) {e : TypeId} {z : Value} {bytes : Nat} (ht : P.underlying t = some (.slice e)) (hi : (P.info? e).map (fun i => (i.zero, i.size, i.bytes)) = some (some z, d.sz, bytes)) (hz : z.cells.size = d.sz)
    {v : Value} {xs : List α} (hv : a.eval s = v) (hown : ORow d S w e v xs) {A : Option Addr} {c : Nat} {ys : List α} (hx : a.eval x = .slice A ys.length c) (hs : RdL d S w A ys) (h1 : ∀ y ∈ ys, ∀ cs, d.R S w y cs → ∀ u ∈ cs, u.oneCell' = true)
    (hb : (xs.length + ys.length) * bytes ≤ 140737488355328) (hl : xs.length + ys.length ≤ maxLen) (hS : ∀ k, S k → k < w.heap.size ∧ some k ≠ v.ownBlock)
    (h : ∀ v' w', ORow d S w' e v' (xs ++ ys) → w.grownBy w' v.ownBlock → (v'.ownBlock = v.ownBlock ∨ v'.ownBlock = some w.heap.size) → K (a.put (some N) v') w') : o.wp P a w K Q := by
  obtain ⟨v', w', hrun, h2, h3, h4⟩ := run_join (P := P) o.type ht hi hz hown c hs h1 hb hl hS
  unfold Oper.wp execOp
  simp only [ho, resolve, invoke, builtin, Sem.run_bind, Sem.run_pure, Result.andThen_ok, List.map_toArray, List.map_cons, List.map_nil, hv, hx, hrun]
  rw [← _hN] at h
  exact h v' w' h2 h3 h4
/-- The same; all but the row's own block may be led to. -/
theorem op_join8 {o : Oper} {a : Act} {K : Act → World → Prop} {Q : Exit → Act → World → Prop} (N : Tmp) (_hN : o.dst = some N) (s x : Operand) (t : TypeId)
    (ho : o.op = .call { callee := .builtin .append, args := #[s, x], argTypes := #[t, t] }) {e : TypeId} {z : Value} {bytes : Nat} (ht : P.underlying t = some (.slice e)) (hi : (P.info? e).map (fun i => (i.zero, i.size, i.bytes)) = some (some z, d.sz, bytes)) (hz : z.cells.size = d.sz)
    {v : Value} {xs : List α} (hv : a.eval s = v) (hown : ∃ S0 : Nat → Prop, ORow d S0 w e v xs ∧ ∀ k, S0 k → k < w.heap.size ∧ some k ≠ v.ownBlock) {A : Option Addr} {c : Nat} {ys : List α} (hx : a.eval x = .slice A ys.length c) (hs : RdL d (fun k => k < w.heap.size ∧ some k ≠ v.ownBlock) w A ys) (h1 : ∀ y ∈ ys, ∀ (T : Nat → Prop) cs, d.R T w y cs → ∀ u ∈ cs, u.oneCell' = true)
    (hb : (xs.length + ys.length) * bytes ≤ 140737488355328) (hl : xs.length + ys.length ≤ maxLen)
    (h : ∀ v' w', (∃ S' : Nat → Prop, ORow d S' w' e v' (xs ++ ys) ∧ (∀ k, k < w.heap.size → some k ≠ v.ownBlock → S' k) ∧ ∀ k, S' k → k < w'.heap.size ∧ some k ≠ v'.ownBlock) → w.grownBy w' v.ownBlock → (v'.ownBlock = v.ownBlock ∨ v'.ownBlock = some w.heap.size) → K (a.put (some N) v') w') : o.wp P a w K Q := by
  obtain ⟨S0, h2, h3⟩ := hown
  have h4 : ORow d (fun k => k < w.heap.size ∧ some k ≠ v.ownBlock) w e v xs := by
    obtain ⟨us, a1, a2⟩ := h2
    exact ⟨us, a1, fun i x hx => by
      obtain ⟨cs, hr, hc⟩ := a2 i x hx
      exact ⟨cs, d.mono (fun k hk => h3 k hk) hr, hc⟩⟩
  refine op_join N _hN s x t ho ht hi hz hv h4 hx hs (fun y hy cs => h1 y hy _ cs) hb hl (fun k hk => hk) fun v' w' a1 a2 a3 => h v' w' ⟨_, a1, fun k hk hn => ⟨hk, hn⟩, fun k hk => ⟨Nat.lt_of_lt_of_le hk.1 a2.size, fun e => ?_⟩⟩ a2 a3
  rcases a3 with e' | e'
  · exact hk.2 (e.trans e')
  · rw [e'] at e
    injection e with e
    omega
theorem step_join {X : Prop} {ops : Array Oper} {o : Oper} {a : Act} {K : Act → World → Prop} {Q : Exit → Act → World → Prop} (hg : o.guard = none) (N : Tmp) (_hN : o.dst = some N) (s x : Operand) (t : TypeId)
    (ho : o.op = .call { callee := .builtin .append, args := #[s, x], argTypes := #[t, t] }) {e : TypeId} {z : Value} {bytes : Nat} (ht : P.underlying t = some (.slice e)) (hi : (P.info? e).map (fun i => (i.zero, i.size, i.bytes)) = some (some z, d.sz, bytes)) (hz : z.cells.size = d.sz)
    {v : Value} {xs : List α} (hv : a.eval s = v) (hown : ORow d S w e v xs) {A : Option Addr} {c : Nat} {ys : List α} (hx : a.eval x = .slice A ys.length c) (hs : RdL d S w A ys) (h1 : ∀ y ∈ ys, ∀ cs, d.R S w y cs → ∀ u ∈ cs, u.oneCell' = true)
    (hb : (xs.length + ys.length) * bytes ≤ 140737488355328) (hl : xs.length + ys.length ≤ maxLen) (hS : ∀ k, S k → k < w.heap.size ∧ some k ≠ v.ownBlock)
    (h : ∀ v' w', ORow d S w' e v' (xs ++ ys) → w.grownBy w' v.ownBlock → (v'.ownBlock = v.ownBlock ∨ v'.ownBlock = some w.heap.size) → K (a.put (some N) v') w') : if Region.wanted o (yielded ops a.tmps) = true then Oper.wp P o a w K Q else X := by
  rw [if_pos (by simp [Region.wanted, hg])]
  exact op_join N _hN s x t ho ht hi hz hv hown hx hs h1 hb hl hS h
end
end Go.Proofs.Ytdppjhfndolbjaa
