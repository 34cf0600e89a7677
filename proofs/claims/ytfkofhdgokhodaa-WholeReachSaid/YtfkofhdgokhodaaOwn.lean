/- A row of rows of bytes, all in memory from block B on. -/
import Derived.Test.YtfkofhdgokhodaaNew
set_option linter.unusedVariables false
set_option linter.unusedSimpArgs false
namespace Go.Proofs.Ytfkofhdgokhodaa
open Go.RowKit

/-- A mark at which a walk stops. -/
def Stopped (p : Prop) : Prop := p
theorem stopAt {P : Program} {ops : Array Oper} {rest : List Oper} {o : Oper} {a : Act} {w : World} {Q : Exit → Act → World → Prop} (N : Tmp) (_hN : o.dst = some N) (h : Stopped (wpList P ops Q (o :: rest) a w)) : wpList P ops Q (o :: rest) a w := h

structure OwnL (B : Nat) (w : World) (e : TypeId) (v : Value) (us : List Value) (xss : List (List UInt8)) : Prop where
  row : Row w e v us
  len : us.length = xss.length
  el : ∀ (i : Nat) (u : Value) (xs : List UInt8), us[i]? = some u → xss[i]? = some xs → (Kd.sl Kd.byte).R (fun k => B ≤ k ∧ k < w.heap.size ∧ some k ≠ v.ownBlock) w xs [u]
  own : ∀ k, v.ownBlock = some k → B ≤ k
theorem OwnL.nil {B : Nat} {w : World} {e : TypeId} : OwnL B w e (.slice none 0 0) [] [] :=
  ⟨Row.nil, rfl, fun i u xs hu _ => by simp at hu, fun k hk => by simp [Value.ownBlock] at hk⟩
theorem OwnL.keep {B : Nat} {w w' : World} {e : TypeId} {v : Value} {us : List Value} {xss : List (List UInt8)} (h : OwnL B w e v us xss) (hsz : w.heap.size ≤ w'.heap.size) (hk : ∀ k, B ≤ k → k < w.heap.size → w'.heap[k]? = w.heap[k]?) : OwnL B w' e v us xss :=
  ⟨h.row.keep fun k hv => hk k (h.own k hv) (h.row.lt hv), h.len, fun i u xs hu hx => (Kd.sl Kd.byte).mono (fun k hs => ⟨hs.1, Nat.lt_of_lt_of_le hs.2.1 hsz, hs.2.2⟩) ((Kd.sl Kd.byte).keep (fun k hs => hk k hs.1 hs.2.1) (h.el i u xs hu hx)), h.own⟩
theorem OwnL.below {B : Nat} {w w' : World} {e : TypeId} {v : Value} {us : List Value} {xss : List (List UInt8)} (h : OwnL B w e v us xss) (hb : Below w.heap.size w w') : OwnL B w' e v us xss := h.keep hb.size fun k _ hk => hb.block k hk
theorem OwnL.shape {B : Nat} {w : World} {e : TypeId} {v : Value} {us : List Value} {xss : List (List UInt8)} (h : OwnL B w e v us xss) : ∃ A c, v = .slice A xss.length c ∧ xss.length ≤ c ∧ c ≤ maxLen := by
  rw [← h.len]; exact h.row.shape
theorem Row.rdL {S : Nat → Prop} {w : World} {e : TypeId} {A : Option Addr} {n c : Nat} {us : List Value} {xss : List (List UInt8)} (h : Row w e (.slice A n c) us) (hl : us.length = xss.length)
    (he : ∀ (i : Nat) (u : Value) (xs : List UInt8), us[i]? = some u → xss[i]? = some xs → (Kd.sl Kd.byte).R S w xs [u]) (ho : ∀ k, (Value.slice A n c).ownBlock = some k → S k) : RdL (Kd.sl Kd.byte) S w A xss := fun hp => by
  rcases h.2 with ⟨_, hn⟩ | ⟨g, cap, cur, hv, _, hh, _⟩
  · omega
  · injection hv with hv1 hv2 hv3
    have hg : (Value.slice A n c).ownBlock = some g := by rw [hv1]; rfl
    refine ⟨g, 0, hv1, ho g hg, fun i xs hx => ?_⟩
    have hi : i < us.length := by
      have := (List.getElem?_eq_some_iff.1 hx).1
      omega
    refine ⟨[us[i]], he i us[i] xs (List.getElem?_eq_getElem hi) hx, fun j u hu => ?_⟩
    cases j with
    | zero =>
      simp at hu; subst hu
      have := World.ownsRow.cells h hg i us[i] (List.getElem?_eq_getElem hi)
      show w.cell? ⟨g, 0 + (i * 1 + 0), none⟩ = _
      rw [Nat.mul_one, Nat.zero_add, Nat.add_zero]
      unfold Addr.add at this
      split at this
      · rename_i h0; subst h0; simpa using this
      · simpa using this
    | succ j => simp at hu
theorem OwnL.rd {B : Nat} {w : World} {e : TypeId} {A : Option Addr} {n c : Nat} {us : List Value} {xss : List (List UInt8)} (h : OwnL B w e (.slice A n c) us xss) : RdL (Kd.sl Kd.byte) (fun k => B ≤ k ∧ k < w.heap.size) w A xss :=
  h.row.rdL h.len (fun i u xs hu hx => (Kd.sl Kd.byte).mono (fun k hk => ⟨hk.1, hk.2.1⟩) (h.el i u xs hu hx)) fun k hk => ⟨h.own k hk, h.row.lt hk⟩
/-- One row more. -/
theorem OwnL.push {B : Nat} {w w' : World} {e : TypeId} {v v' u : Value} {us : List Value} {xss : List (List UInt8)} {xs : List UInt8} {T : Nat → Prop} (h : OwnL B w e v us xss) (hB : B ≤ w.heap.size)
    (hu : (Kd.sl Kd.byte).R T w xs [u]) (hT : ∀ k, T k → B ≤ k ∧ k < w.heap.size ∧ some k ≠ v.ownBlock)
    (hrow : Row w' e v' (us ++ [u])) (hg : w.grownBy w' v.ownBlock) (hat : v'.ownBlock = v.ownBlock ∨ v'.ownBlock = some w.heap.size) : OwnL B w' e v' (us ++ [u]) (xss ++ [xs]) := by
  have hne : ∀ k, (B ≤ k ∧ k < w.heap.size ∧ some k ≠ v.ownBlock) → B ≤ k ∧ k < w'.heap.size ∧ some k ≠ v'.ownBlock := fun k hk => by
    refine ⟨hk.1, Nat.lt_of_lt_of_le hk.2.1 hg.size, ?_⟩
    rcases hat with hat | hat
    · rw [hat]; exact hk.2.2
    · rw [hat]; intro e; injection e with e; omega
  have hkeep : ∀ k, (B ≤ k ∧ k < w.heap.size ∧ some k ≠ v.ownBlock) → w'.heap[k]? = w.heap[k]? := fun k hk => hg.block k hk.2.1 hk.2.2
  refine ⟨hrow, by simp [h.len], fun i y ys hy hys => ?_, fun k hk => ?_⟩
  · by_cases hi : i < us.length
    · rw [List.getElem?_append_left hi] at hy
      rw [List.getElem?_append_left (by have := h.len; omega)] at hys
      exact (Kd.sl Kd.byte).mono hne ((Kd.sl Kd.byte).keep hkeep (h.el i y ys hy hys))
    · have hi' : i = us.length := by
        have := (List.getElem?_eq_some_iff.1 hy).1
        simp at this; omega
      subst hi'
      rw [List.getElem?_append_right (Nat.le_refl _)] at hy
      rw [h.len, List.getElem?_append_right (Nat.le_refl _)] at hys
      simp at hy hys
      subst hy; subst hys
      exact (Kd.sl Kd.byte).mono hne ((Kd.sl Kd.byte).keep hkeep ((Kd.sl Kd.byte).mono hT hu))
  · rcases hat with hat | hat
    · exact h.own k (hat ▸ hk)
    · rw [hat] at hk; injection hk with hk; omega
/-- New bytes, as an element. -/
theorem NewV.kd {e : TypeId} {w w' : World} {v' : Value} {xs : List UInt8} (h : NewV e w w' v' (xs.map encB)) : (Kd.sl Kd.byte).R (fun k => w.heap.size ≤ k ∧ k < w'.heap.size) w' xs [v'] ∧ Below w.heap.size w w' := by
  obtain ⟨A, c, rfl, h1, h2, hb, h3⟩ := h
  rw [List.length_map] at h1 ⊢
  refine ⟨⟨A, c, rfl, h1, h2, fun hp => ?_⟩, hb⟩
  rcases h3 with ⟨h3, rfl⟩ | ⟨rfl, hlt, rest, hr, hh⟩
  · have : xs = [] := by simpa using h3
    subst this; simp at hp
  · refine ⟨_, 0, rfl, ⟨Nat.le_refl _, hlt⟩, fun i x hx => ⟨[encB x], ⟨_, rfl, rfl⟩, fun j u hu => ?_⟩⟩
    cases j with
    | zero =>
      simp at hu; subst hu
      show w'.cell? ⟨w.heap.size, 0 + (i * 1 + 0), none⟩ = _
      rw [Nat.mul_one, Nat.zero_add, Nat.add_zero, cell_of_row w' _ i _ e (0, 0) hh, List.getElem?_toArray, List.getElem?_append_left (by have := (List.getElem?_eq_some_iff.1 hx).1; simpa using this), List.getElem?_map, hx]; rfl
    | succ j => simp at hu
theorem NewV.sl {e : TypeId} {w w' : World} {v' : Value} {xs : List UInt8} (h : NewV e w w' v' (xs.map encB)) : ∃ A c, v' = .slice A xs.length c ∧ (Kd.sl Kd.byte).R (fun k => w.heap.size ≤ k ∧ k < w'.heap.size) w' xs [.slice A xs.length c] ∧ Below w.heap.size w w' := by
  obtain ⟨⟨A, c, e, h1, h2, h3⟩, hb⟩ := h.kd
  have e : v' = .slice A xs.length c := by simpa using e
  exact ⟨A, c, e, ⟨A, c, rfl, h1, h2, h3⟩, hb⟩
theorem Src.below {w w' : World} {A : Option Addr} {us : List Value} (h : Src w A us) (hb : Below w.heap.size w w') : Src w' A us := fun hp => by
  obtain ⟨ad, hA, hc⟩ := h hp
  exact ⟨ad, hA, fun j u hu => (hb.cell (World.block_lt_of_cell? _ _ (hc j u hu))).trans (hc j u hu)⟩
theorem Src.lit1 (w : World) (u : Value) (t : TypeId) : Src (w.alloc (.cells #[u] t)) (some ⟨w.heap.size, 0, none⟩) [u] := fun _ => ⟨_, rfl, fun j v hv => by
  cases j with
  | zero =>
    simp at hv; subst hv
    exact (cell_of_row _ _ 0 _ t (0, 0) (heap_alloc_new w _)).trans rfl
  | succ j => simp at hv⟩
theorem Wr.rdB {w : World} {A : Option Addr} {g : Nat} {pre post : List Value} {e : TypeId} {ts : List UInt8} (h : Wr w A g pre post e ts) : RdL Kd.byte (· = g) w A ts := fun hp => by
  obtain ⟨hA, hh⟩ := h hp
  refine ⟨g, pre.length, hA, rfl, fun i x hx => ⟨[.int .u8 (x.toNat : Int)], ⟨_, rfl, rfl⟩, fun j u hu => ?_⟩⟩
  have hi : i < ts.length := (List.getElem?_eq_some_iff.1 hx).1
  rw [List.getElem?_eq_getElem hi] at hx
  injection hx with hx
  cases j with
  | zero =>
    simp at hu; subst hu; subst hx
    show w.cell? ⟨g, pre.length + (i * 1 + 0), none⟩ = _
    rw [Nat.mul_one, Nat.add_zero]
    exact (h.cell hi).2.1
  | succ j => simp at hu
/-- A row of rows read: its values. -/
theorem RdL.vals {S : Nat → Prop} {w : World} {A : Option Addr} {xss : List (List UInt8)} (h : RdL (Kd.sl Kd.byte) S w A xss) : ∃ vs : List Value, vs.length = xss.length ∧ Src w A vs ∧ (∀ u ∈ vs, u.oneCell' = true) ∧ ∀ (i : Nat) (u : Value) (xs : List UInt8), vs[i]? = some u → xss[i]? = some xs → (Kd.sl Kd.byte).R S w xs [u] := by
  obtain ⟨vs, hl, hv⟩ := list_of (α := Value) xss.length (fun i u => ∃ xs, xss[i]? = some xs ∧ (Kd.sl Kd.byte).R S w xs [u] ∧ ∃ b off, A = some ⟨b, off, none⟩ ∧ w.cell? ⟨b, off + i, none⟩ = some u) (fun i hi => by
    obtain ⟨b, off, u, hA, hs, hr, hc⟩ := h.at1 rfl hi
    exact ⟨u, xss[i], List.getElem?_eq_getElem hi, hr, b, off, hA, hc⟩)
  refine ⟨vs, hl, fun hp => ?_, fun u hu => ?_, fun i u xs hu hx => ?_⟩
  · obtain ⟨_, _, _, b, off, hA, _⟩ := hv 0 vs[0] (List.getElem?_eq_getElem hp)
    refine ⟨_, hA, fun j u hu => ?_⟩
    obtain ⟨_, _, _, b', off', hA', hc⟩ := hv j u hu
    rw [hA] at hA'
    injection hA' with hA'
    injection hA' with e1 e2 _
    subst e1; subst e2
    unfold Addr.add
    split
    · rename_i h0; subst h0; simpa using hc
    · exact hc
  · obtain ⟨i, hi, rfl⟩ := List.mem_iff_getElem.1 hu
    obtain ⟨xs, _, ⟨A', c, h1, _⟩, _⟩ := hv i vs[i] (List.getElem?_eq_getElem hi)
    simp at h1
    rw [h1]; rfl
  · obtain ⟨xs', hx', hr, _⟩ := hv i u hu
    rw [hx] at hx'; injection hx' with hx'
    rw [hx']; exact hr
end Go.Proofs.Ytfkofhdgokhodaa
