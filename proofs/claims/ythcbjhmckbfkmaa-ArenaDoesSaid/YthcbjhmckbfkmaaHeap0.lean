/- Blocks of a law's own: a row of slices, each with a block of its own. -/
import Derived.Test.YthcbjhmckbfkmaaArenaSpeaks
import Derived.Laws.CopyOwn
import Derived.Deep.RegionLaw
set_option linter.unusedVariables false
set_option linter.unusedSimpArgs false
namespace Go.Proofs.Ythcbjhmckbfkmaa
open Go.RowKit

/-- n bytes out of a row, noughts behind it. -/
def padN (n : Nat) (b : List UInt8) : List UInt8 := b.take n ++ zs (n - b.length)
theorem padN_len (n : Nat) (b : List UInt8) : (padN n b).length = n := by simp [padN, zs]; omega
structure OB (w : World) (v : Value) (qs : List Nat) (n : Nat) (xs : List (List UInt8)) : Prop where
  row : Row w 22 v (qs.map fun q => .slice (some ⟨q, 0, none⟩) n n)
  len : qs.length = xs.length
  bk : ∀ (i q : Nat) (x : List UInt8), qs[i]? = some q → xs[i]? = some x → x.length = n ∧ (0 < n → w.heap[q]? = some (.cells (x.map encB).toArray 5 (0, 0)))
  ql : ∀ q ∈ qs, q < w.heap.size
  nd : qs.Nodup
  ov : ∀ k, v.ownBlock = some k → k ∉ qs
section
variable {w w' : World} {v v' : Value} {qs : List Nat} {n : Nat} {xs : List (List UInt8)}
def OB.own (v : Value) (qs : List Nat) (k : Nat) : Prop := k ∈ qs ∨ v.ownBlock = some k
theorem OB.qlt (h : OB w v qs n xs) {q : Nat} (hq : q ∈ qs) : q < w.heap.size := h.ql q hq
theorem lt_of_same {q : Nat} (h : w'.heap[q]? = w.heap[q]?) (hq : q < w.heap.size) : q < w'.heap.size := by
  rw [Array.getElem?_eq_getElem hq] at h
  exact (Array.getElem?_eq_some_iff.1 h).1
theorem OB.lt (h : OB w v qs n xs) {k : Nat} (hk : OB.own v qs k) : k < w.heap.size := hk.elim (fun hq => h.qlt hq) fun ho => h.row.lt ho
theorem OB.keep (h : OB w v qs n xs) (hk : ∀ k, OB.own v qs k → w'.heap[k]? = w.heap[k]?) : OB w' v qs n xs :=
  ⟨h.row.keep fun k hv => hk k (.inr hv), h.len, fun i q x hq hx => ⟨(h.bk i q x hq hx).1, fun hn => (hk q (.inl (List.mem_of_getElem? hq))).trans ((h.bk i q x hq hx).2 hn)⟩, fun q hq => lt_of_same (hk q (.inl hq)) (h.ql q hq), h.nd, h.ov⟩
theorem OB.nil : OB w (.slice none 0 0) [] n [] := ⟨Row.nil, rfl, (fun i q x h _ => by simp at h), (fun q hq => by cases hq), List.nodup_nil, fun k hk => by cases hk⟩
theorem OB.shape (h : OB w v qs n xs) : ∃ A c, v = .slice A xs.length c ∧ xs.length ≤ c ∧ c ≤ maxLen := by
  obtain ⟨A, c, e, h1, h2⟩ := h.row.shape
  rw [List.length_map, h.len] at e h1
  exact ⟨A, c, e, h1, h2⟩
/-- One more. -/
theorem OB.push (h : OB w v qs n xs) {q : Nat} {x : List UInt8} (hx : x.length = n) (hk : ∀ k, k ∈ qs → w'.heap[k]? = w.heap[k]?) (hr : Row w' 22 v' ((qs ++ [q]).map fun q => .slice (some ⟨q, 0, none⟩) n n)) (hq : w'.heap[q]? = some (.cells (x.map encB).toArray 5 (0, 0))) (hn : q ∉ qs) (ho : ∀ k, v'.ownBlock = some k → k ∉ qs ∧ k ≠ q) : OB w' v' (qs ++ [q]) n (xs ++ [x]) := by
  refine ⟨hr, by rw [List.length_append, List.length_append, h.len]; rfl, fun i p y hp hy => ?_, (fun k hk' => by
    rcases List.mem_append.1 hk' with h1 | h1
    · exact lt_of_same (hk k h1) (h.ql k h1)
    · simp at h1; subst h1; exact (Array.getElem?_eq_some_iff.1 hq).1), List.nodup_append.2 ⟨h.nd, by simp, fun a ha b hb => by simp at hb; subst hb; exact fun e => hn (e ▸ ha)⟩, fun k hk' hm => ?_⟩
  · by_cases hi : i < qs.length
    · rw [List.getElem?_append_left hi] at hp
      rw [List.getElem?_append_left (by rw [← h.len]; exact hi)] at hy
      exact ⟨(h.bk i p y hp hy).1, fun hn => (hk p (List.mem_of_getElem? hp)).trans ((h.bk i p y hp hy).2 hn)⟩
    · rw [List.getElem?_append_right (by omega)] at hp
      rw [List.getElem?_append_right (by rw [← h.len]; omega), ← h.len] at hy
      match hj : i - qs.length, hp, hy with
      | 0, hp, hy =>
        simp at hp hy; subst hp; subst hy
        exact ⟨hx, fun _ => hq⟩
      | j + 1, hp, _ => simp at hp
  · rcases List.mem_append.1 hm with h1 | h1
    · exact (ho k hk').1 h1
    · simp at h1; exact (ho k hk').2 h1
theorem blk_wr {q : Nat} {x : List UInt8} (hx : x.length = n) (h : 0 < n → w.heap[q]? = some (.cells (x.map encB).toArray 5 (0, 0))) : Wr w (some ⟨q, 0, none⟩) q [] [] 5 x := fun hp => ⟨rfl, by simpa using h (by omega)⟩
/-- An element: its cell, its block. -/
theorem OB.at (h : OB w v qs n xs) {i : Nat} (hi : i < xs.length) : ∃ b c q, v = .slice (some ⟨b, 0, none⟩) xs.length c ∧ v.ownBlock = some b ∧ qs[i]? = some q ∧ w.cell? ⟨b, i, none⟩ = some (.slice (some ⟨q, 0, none⟩) n n) ∧ xs[i].length = n ∧ Wr w (some ⟨q, 0, none⟩) q [] [] 5 xs[i] := by
  have hi' : i < qs.length := by rw [h.len]; exact hi
  obtain ⟨b, c, e, hc, -, -, -⟩ := h.row.set (i := i) (by simpa using hi') (.bool true)
  rw [List.length_map, h.len] at e
  rw [List.getElem_map] at hc
  obtain ⟨h1, h2⟩ := h.bk i qs[i] xs[i] (List.getElem?_eq_getElem hi') (List.getElem?_eq_getElem hi)
  exact ⟨b, c, qs[i], e, by rw [e]; rfl, List.getElem?_eq_getElem hi', hc, h1, blk_wr h1 h2⟩
theorem OB.rd (h : OB w v qs n xs) {A : Option Addr} {c : Nat} (hv : v = .slice A xs.length c) (hn : n ≤ maxLen) : RdL (Kd.sl Kd.byte) (OB.own v qs) w A xs := by
  subst hv
  refine (h.row.rdL (by rw [List.length_map]; exact h.len) (fun i u x hu hx => ?_) fun k hk => .inr hk)
  rw [List.getElem?_map] at hu
  obtain ⟨q, hq, rfl⟩ := Option.map_eq_some_iff.1 hu
  obtain ⟨h1, h2⟩ := h.bk i q x hq hx
  exact ⟨some ⟨q, 0, none⟩, n, by rw [h1], by omega, hn, (blk_wr h1 h2).rd.mono fun k hk => .inl (by rw [hk]; exact List.mem_of_getElem? hq)⟩
/-- One anew. -/
theorem OB.put (h : OB w v qs n xs) {i q : Nat} {y : List UInt8} (hq : qs[i]? = some q) (hy : y.length = n) (hk : ∀ k, OB.own v qs k → k ≠ q → w'.heap[k]? = w.heap[k]?) (hb : 0 < n → w'.heap[q]? = some (.cells (y.map encB).toArray 5 (0, 0))) (hsz : w.heap.size ≤ w'.heap.size) : OB w' v qs n (xs.set i y) := by
  have hqm := List.mem_of_getElem? hq
  refine ⟨h.row.keep fun k hv => hk k (.inr hv) fun e => h.ov k hv (e ▸ hqm), by rw [List.length_set]; exact h.len, fun j p x hp hx => ?_, fun p hp => Nat.lt_of_lt_of_le (h.ql p hp) hsz, h.nd, h.ov⟩
  rw [List.getElem?_set] at hx
  by_cases e : i = j
  · subst e
    rw [hq] at hp
    injection hp with hp
    subst hp
    split at hx
    · split at hx
      · injection hx with hx; subst hx; exact ⟨hy, hb⟩
      · cases hx
    · rename_i hne; exact absurd rfl hne
  · rw [if_neg e] at hx
    obtain ⟨h1, h2⟩ := h.bk j p x hp hx
    refine ⟨h1, fun hn => (hk p (.inl (List.mem_of_getElem? hp)) fun ep => ?_).trans (h2 hn)⟩
    subst ep
    obtain ⟨l1, e1⟩ := List.getElem?_eq_some_iff.1 hq
    obtain ⟨l2, e2⟩ := List.getElem?_eq_some_iff.1 hp
    have hpw := List.pairwise_iff_getElem.1 h.nd
    rcases Nat.lt_or_gt_of_ne e with h3 | h3
    · exact hpw i j l1 l2 h3 (by rw [e1, e2])
    · exact hpw j i l2 l1 h3 (by rw [e1, e2])
end
end Go.Proofs.Ythcbjhmckbfkmaa
