/- append onto a row of the call's own, of one-cell elements, from whatever slice. -/
import Derived.Test.YtfkofhdgokhodaaBase
set_option linter.unusedVariables false
set_option linter.unusedSimpArgs false
namespace Go.Proofs.Ytfkofhdgokhodaa
open Go.RowKit

/-- The cells that an address leads to. -/
def Src (w : World) (A : Option Addr) (us : List Value) : Prop := 0 < us.length → ∃ ad, A = some ad ∧ ∀ j u, us[j]? = some u → w.cell? (ad.add j) = some u
theorem Src.nil {w : World} {A : Option Addr} : Src w A [] := fun h => absurd h (by simp)
/-- A row that reads as the values us, of one cell each. -/
def Row (w : World) (e : TypeId) (v : Value) (us : List Value) : Prop := w.ownsRow 0 e 1 v us.length us
theorem Row.nil {w : World} {e : TypeId} : Row w e (.slice none 0 0) [] := ⟨by simp, .inl ⟨rfl, rfl⟩⟩
theorem Row.lit {w : World} {e : TypeId} (us : List Value) (hl : us.length ≤ maxLen) : Row (w.alloc (.cells us.toArray e)) e (.slice (some ⟨w.heap.size, 0, none⟩) us.length us.length) us :=
  ⟨by simp, .inr ⟨_, _, _, rfl, Nat.zero_le _, heap_alloc_new w _, Nat.le_refl _, hl, by simp, by simp⟩⟩
theorem Row.lt {w : World} {e : TypeId} {v : Value} {us : List Value} (h : Row w e v us) {k : Nat} (hk : v.ownBlock = some k) : k < w.heap.size := (World.ownsRow.lt h k hk).2
theorem Row.keep {w w' : World} {e : TypeId} {v : Value} {us : List Value} (h : Row w e v us) (hk : ∀ k, v.ownBlock = some k → w'.heap[k]? = w.heap[k]?) : Row w' e v us := by
  refine ⟨h.1, ?_⟩
  rcases h.2 with h2 | ⟨g, cap, cur, rfl, hg, hh, r⟩
  · exact .inl h2
  · exact .inr ⟨g, cap, cur, rfl, hg, (hk g (by simp [Value.ownBlock])).trans hh, r⟩
theorem Row.shape {w : World} {e : TypeId} {v : Value} {us : List Value} (h : Row w e v us) : ∃ A c, v = .slice A us.length c ∧ us.length ≤ c ∧ c ≤ maxLen := by
  rcases h.2 with ⟨rfl, hn⟩ | ⟨g, cap, cur, rfl, _, _, h1, h2, _⟩
  · exact ⟨none, 0, by rw [hn], by omega, by simp⟩
  · exact ⟨_, cap, rfl, h1, h2⟩
theorem Row.src {w : World} {e : TypeId} {A : Option Addr} {n c : Nat} {us : List Value} (h : Row w e (.slice A n c) us) : Src w A us := fun hp => by
  rcases h.2 with ⟨he, hn⟩ | ⟨g, cap, cur, he, _, hh, _⟩
  · omega
  · injection he with h1 h2 h3
    exact ⟨_, h1, World.ownsRow.cells h (g := g) (by rw [h1]; rfl)⟩

section
variable {P : Program} {w : World}
theorem run_app_none (t ty e : TypeId) (i : TypeInfo) (ht : P.underlying t = some (.slice e)) (hi : P.info? e = some i) {v : Value} {us : List Value} (hown : Row w e v us) (c : Nat) :
    (Builtin.append_ #[t, t] ty #[v, .slice none 0 c]).run P w = .ok v w := by
  rcases hown.2 with ⟨rfl, _⟩ | ⟨g, cap, cur, rfl, _, _, hnc, _⟩
  · simp [Builtin.append_, run_underlying ht, sizeOf, typeInfo, hi, Builtin.lenOf, Builtin.firstCells]
  · simp [Builtin.append_, run_underlying ht, sizeOf, typeInfo, hi, Builtin.lenOf, Builtin.firstCells, hnc, storeCells]

theorem run_app {t : TypeId} (ty : TypeId) {e : TypeId} {z : Value} {bytes : Nat} (ht : P.underlying t = some (.slice e)) (hi : (P.info? e).map (fun i => (i.zero, i.size, i.bytes)) = some (some z, 1, bytes)) (hz : z.cells.size = 1)
    {v : Value} {us : List Value} (hown : Row w e v us) {A : Option Addr} (c : Nat) {news : List Value} (hs : Src w A news) (h1 : ∀ u ∈ news, u.oneCell' = true)
    (hb : (us.length + news.length) * bytes ≤ 140737488355328) (hl : us.length + news.length ≤ maxLen) :
    ∃ v' w', (Builtin.append_ #[t, t] ty #[v, .slice A news.length c]).run P w = .ok v' w' ∧ Row w' e v' (us ++ news) ∧ w.grownBy w' v.ownBlock ∧ (v'.ownBlock = v.ownBlock ∨ v'.ownBlock = some w.heap.size) := by
  obtain ⟨i, hi, hzz⟩ := Option.map_eq_some_iff.1 hi
  simp only [Prod.mk.injEq] at hzz
  obtain ⟨hz0, hz1, hz2⟩ := hzz
  cases A with
  | none =>
    have hn : news = [] := by
      rcases Nat.eq_zero_or_pos news.length with h0 | h0
      · exact List.eq_nil_of_length_eq_zero h0
      · obtain ⟨ad, h, _⟩ := hs h0
        cases h
    subst hn
    exact ⟨v, w, run_app_none t ty e i ht hi hown c, by simpa [Row] using hown, World.grownBy.refl w _, .inl rfl⟩
  | some ad =>
    have hc : ∀ j u, news[j]? = some u → w.cell? (ad.add j) = some u := fun j u hu => by
      have hp : 0 < news.length := by
        have := (List.getElem?_eq_some_iff.1 hu).1
        omega
      obtain ⟨ad', h, hh⟩ := hs hp
      injection h with h
      subst h
      exact hh j u hu
    obtain ⟨v', w', hrun, h2, h3, _, h5⟩ := run_append_own_at (P := P) w 0 t ty e i z 1 bytes ht hi hz0 hz1 hz2 hz (by omega) v us.length us hown ad news.length c news (by simp) hc h1 hl hb (Nat.zero_le _)
    exact ⟨v', w', hrun, by simpa [Row] using h2, h3, h5⟩

/-- One operation. -/
theorem op_app {o : Oper} {a : Act} {K : Act → World → Prop} {Q : Exit → Act → World → Prop} (N : Tmp) (_hN : o.dst = some N) (s x : Operand) (t : TypeId)
    (ho : o.op = .call { callee := .builtin .append, args := #[s, x], argTypes := #[t, t] }) {e : TypeId} {z : Value} {bytes : Nat} (ht : P.underlying t = some (.slice e)) (hi : (P.info? e).map (fun i => (i.zero, i.size, i.bytes)) = some (some z, 1, bytes)) (hz : z.cells.size = 1)
    {v : Value} {us : List Value} (hv : a.eval s = v) (hown : Row w e v us) {A : Option Addr} {c : Nat} {news : List Value} (hx : a.eval x = .slice A news.length c) (hs : Src w A news) (h1 : ∀ u ∈ news, u.oneCell' = true)
    (hb : (us.length + news.length) * bytes ≤ 140737488355328) (hl : us.length + news.length ≤ maxLen)
    (h : ∀ v' w', Row w' e v' (us ++ news) → w.grownBy w' v.ownBlock → (v'.ownBlock = v.ownBlock ∨ v'.ownBlock = some w.heap.size) → K (a.put (some N) v') w') : o.wp P a w K Q := by
  obtain ⟨v', w', hrun, h2, h3, h4⟩ := run_app (P := P) o.type ht hi hz hown c hs h1 hb hl
  unfold Oper.wp execOp
  simp only [ho, resolve, invoke, builtin, Sem.run_bind, Sem.run_pure, Result.andThen_ok, List.map_toArray, List.map_cons, List.map_nil, hv, hx, hrun]
  rw [← _hN] at h
  exact h v' w' h2 h3 h4
theorem wp_app {ops : Array Oper} {rest : List Oper} {o : Oper} {a : Act} {Q : Exit → Act → World → Prop} (N : Tmp) (_hN : o.dst = some N) (hgd : o.guard = none) (s x : Operand) (t : TypeId)
    (ho : o.op = .call { callee := .builtin .append, args := #[s, x], argTypes := #[t, t] }) {e : TypeId} {z : Value} {bytes : Nat} (ht : P.underlying t = some (.slice e)) (hi : (P.info? e).map (fun i => (i.zero, i.size, i.bytes)) = some (some z, 1, bytes)) (hz : z.cells.size = 1)
    {v : Value} {us : List Value} (hv : a.eval s = v) (hown : Row w e v us) {A : Option Addr} {c : Nat} {news : List Value} (hx : a.eval x = .slice A news.length c) (hs : Src w A news) (h1 : ∀ u ∈ news, u.oneCell' = true)
    (hb : (us.length + news.length) * bytes ≤ 140737488355328) (hl : us.length + news.length ≤ maxLen)
    (h : ∀ v' w', Row w' e v' (us ++ news) → w.grownBy w' v.ownBlock → (v'.ownBlock = v.ownBlock ∨ v'.ownBlock = some w.heap.size) → wpList P ops Q rest (a.put (some N) v') w') : wpList P ops Q (o :: rest) a w :=
  wpList_plain hgd fun K hK => by
    obtain ⟨v', w', hrun, h2, h3, h4⟩ := run_app (P := P) o.type ht hi hz hown c hs h1 hb hl
    unfold Oper.wp execOp
    simp only [ho, resolve, invoke, builtin, Sem.run_bind, Sem.run_pure, Result.andThen_ok, List.map_toArray, List.map_cons, List.map_nil, hv, hx, hrun]
    rw [← _hN] at h
    exact hK _ _ (h v' w' h2 h3 h4)
end

theorem grown_set' {w w' : World} {g : Nat} (h : w.grownBy w' (some g)) {p : Addr} (hp : p.block = g) (u : Value) : w.grownBy (w'.setCell p u) (some g) :=
  ⟨h.os, h.tape, h.output, by simpa [World.setCell] using h.size, fun i hi hne => (Below.heap_setCell w' _ u i (by rintro rfl; exact hne (by rw [hp]))).trans (h.block i hi hne)⟩

/-! ### Rows of words -/
def encB (x : UInt8) : Value := .int .u8 (x.toNat : Int)
def enc64 (x : UInt64) : Value := .int .u64 (x.toNat : Int)
def encI (x : Int) : Value := .int .i64 x
theorem encB_one (xs : List UInt8) : ∀ u ∈ xs.map encB, u.oneCell' = true := fun u hu => by
  obtain ⟨x, _, rfl⟩ := List.mem_map.1 hu; rfl
theorem enc64_one (xs : List UInt64) : ∀ u ∈ xs.map enc64, u.oneCell' = true := fun u hu => by
  obtain ⟨x, _, rfl⟩ := List.mem_map.1 hu; rfl
theorem encI_one (xs : List Int) : ∀ u ∈ xs.map encI, u.oneCell' = true := fun u hu => by
  obtain ⟨x, _, rfl⟩ := List.mem_map.1 hu; rfl
/-- A slice of words that is read: the cells behind its address. -/
theorem RdL.src {α : Type} {d : Kd α} {S : Nat → Prop} {w : World} {A : Option Addr} {xs : List α} {enc : α → Value} (h : RdL d S w A xs) (h1 : d.sz = 1) (he : ∀ x u, d.R S w x [u] → u = enc x) : Src w A (xs.map enc) := fun hp => by
  obtain ⟨b, off, hA, hs, hc⟩ := h (by simpa using hp)
  refine ⟨_, hA, fun j u hu => ?_⟩
  rw [List.getElem?_map] at hu
  obtain ⟨x, hx, rfl⟩ := Option.map_eq_some_iff.1 hu
  obtain ⟨cs, hr, hcell⟩ := hc j x hx
  have hl := d.len hr
  rw [h1] at hl
  match cs, hl with
  | [u], _ =>
    rw [← he x u hr]
    have := hcell 0 u rfl
    rw [h1, Nat.mul_one, Nat.add_zero] at this
    unfold Addr.add
    split
    · rename_i h0; subst h0; simpa using this
    · exact this
theorem RdL.srcB {S : Nat → Prop} {w : World} {A : Option Addr} {xs : List UInt8} (h : RdL Kd.byte S w A xs) : Src w A (xs.map encB) := h.src rfl fun _ _ hr => Kd.byte_cell hr
theorem RdL.src64 {S : Nat → Prop} {w : World} {A : Option Addr} {xs : List UInt64} (h : RdL Kd.u64 S w A xs) : Src w A (xs.map enc64) := h.src rfl fun _ _ hr => Kd.u64_cell hr
/-- A row of words of the call's own, read. -/
theorem Row.rd {α : Type} {d : Kd α} {enc : α → Value} {w : World} {e : TypeId} {A : Option Addr} {n c : Nat} {xs : List α} (h : Row w e (.slice A n c) (xs.map enc)) (h1 : d.sz = 1) (S : Nat → Prop) (hS : ∀ b, (Value.slice A n c).ownBlock = some b → S b) (he : ∀ x, d.R S w x [enc x]) : RdL d S w A xs := fun hp => by
  rcases h.2 with ⟨he, hn⟩ | ⟨g, cap, cur, hv, _, hh, _, _, _, htake⟩
  · simp at hn; subst hn; simp at hp
  · injection hv with h1' h2 h3
    have hc := World.ownsRow.cells h (g := g) (by rw [h1']; rfl)
    refine ⟨g, 0, h1', hS g (by rw [h1']; rfl), fun i x hx => ⟨[enc x], he x, fun j u hu => ?_⟩⟩
    cases j with
    | zero =>
      simp at hu; subst hu
      have := hc i (enc x) (by rw [List.getElem?_map, hx]; rfl)
      rw [h1, Nat.mul_one, Nat.zero_add, Nat.add_zero]
      unfold Addr.add at this
      split at this
      · rename_i h0; subst h0; exact this
      · simpa using this
    | succ j => simp at hu
end Go.Proofs.Ytfkofhdgokhodaa
