/- The laws of layer 3, walked: what they share. -/
import Derived.Test.YthcbjhmckbfkmaaBlockRef
set_option linter.unusedVariables false
set_option linter.unusedSimpArgs false
namespace Go.Proofs.Ythcbjhmckbfkmaa
open Go.RowKit

def bigB (l : List (List UInt8)) : Bool := l.any (fun b => decide (200 < b.length)) || decide (50 < l.length)
theorem big_calls (B : Option Addr) (l : List (List UInt8)) (d : Nat) (S : Nat → Prop) (w : World) (hd : d ≤ maxLen) (hdl : l.length ≤ d) (hb : RdL (Kd.sl Kd.byte) S w B l) :
    Calls Try.prog 13 #[.slice B l.length d] w fun e' w' => e' = .returned (.bool (bigB l)) ∧ w = w' := by
  refine cps fun R hR => ?_
  unfold maxLen at hd
  have Hf := hide (show bigB l = true ↔ (∃ (j : Nat) (hj : j < l.length), 200 < l[j].length) ∨ 50 < l.length by
    unfold bigB
    rw [Bool.or_eq_true, List.any_eq_true, decide_eq_true_eq]
    refine or_congr_left ⟨?_, ?_⟩
    · rintro ⟨b, hb, h⟩
      obtain ⟨j, hj, rfl⟩ := List.mem_iff_getElem.1 hb
      exact ⟨j, hj, by simpa using h⟩
    · rintro ⟨j, hj, h⟩
      exact ⟨_, List.getElem_mem hj, by simpa using h⟩)
  go_enter Try.func13, Try.ntmps13
  go_wp2_with fail
  go_loop [7] (fun i => ∃ k : Nat, k ≤ l.length ∧ i = .int .i64 (k : Int) ∧ ∀ j (hj : j < l.length), j < k → l[j].length ≤ 200) (fun i => l.length - (intOf i).toNat)
  case atStart => exact ⟨0, Nat.zero_le _, rfl, fun j hj h => absurd h (by omega)⟩
  case round =>
    obtain ⟨k, hk, rfl, hall⟩ := hrel
    have Hall := hide hall
    clear hall
    by_cases hlt : k < l.length
    · obtain ⟨b, off, u, rfl, hsb, hu, hcell⟩ := hb.at1 rfl hlt
      obtain ⟨Ab, cb, rfl, -, -, -⟩ := Kd.sl_cell hu
      clear hu
      by_cases hlen : 200 < l[k].length
      · have hbt : bigB l = true := Hf.out.2 (.inl ⟨k, hlt, hlen⟩)
        have Hbt := hide hbt
        clear hbt
        generalize l[k].length = lb at hcell hlen
        go_wp2_with fail
        exact hR.out _ _ ⟨by rw [Hbt.out], rfl⟩
      · have Hlen := hide hlen
        generalize l[k].length = lb at hcell hlen
        go_wp2_with fail
        go_round
        case rel =>
          refine ⟨k + 1, by omega, by go_num, fun j hj hjk => ?_⟩
          by_cases e : j = k
          · subst e; exact Nat.le_of_not_lt Hlen.out
          · exact Hall.out j hj (by omega)
        case measure => simp [intOf]; omega
    · have hbf : bigB l = decide (50 < l.length) := by
        rw [Bool.eq_iff_iff, Hf.out, decide_eq_true_eq]
        refine ⟨fun h => h.elim (fun ⟨j, hj, h⟩ => absurd h (by have := Hall.out j hj (by omega); omega)) id, .inr⟩
      have Hbf := hide hbf
      clear hbf
      go_wp2_with fail
      exact hR.out _ _ ⟨by rw [Hbf.out]; simp; omega, rfl⟩

theorem Wr.lit (w : World) (e : TypeId) (ts : List UInt8) : Wr (w.alloc (.cells (ts.map encB).toArray e)) (some ⟨w.heap.size, 0, none⟩) w.heap.size [] [] e ts := fun hp => by
  refine ⟨rfl, ?_⟩
  simpa using heap_alloc_new w (.cells (ts.map encB).toArray e (0, 0))
theorem Wr.rd {w : World} {A : Option Addr} {g : Nat} {pre post : List Value} {e : TypeId} {ts : List UInt8} (h : Wr w A g pre post e ts) : RdL Kd.byte (· = g) w A ts := fun hp => by
  obtain ⟨hA, hh⟩ := h hp
  refine ⟨g, pre.length, hA, rfl, fun i x hx => ⟨[.int .u8 (x.toNat : Int)], ⟨_, rfl, rfl⟩, fun j u hu => ?_⟩⟩
  have hi : i < ts.length := (List.getElem?_eq_some_iff.1 hx).1
  rw [List.getElem?_eq_getElem hi] at hx
  injection hx with hx
  cases j with
  | zero =>
    simp at hu; subst hu; subst hx
    show w.cell? ⟨g, pre.length + (i * 1 + 0), none⟩ = _
    rw [Nat.mul_one, Nat.add_zero]
    exact (h.cell hi).2.1
  | succ j => simp at hu
theorem below_alloc (w : World) (o : Obj) : Below w.heap.size w (w.alloc o) := (Below.refl _ _).alloc (Nat.le_refl _) _
/-- One row alone, in a new block. -/
theorem RdL.lit1 {w w' : World} {A : Option Addr} {xs : List UInt8} {c : Nat} {S : Nat → Prop} {e : TypeId} (hc : xs.length ≤ c) (hm : c ≤ maxLen) (h : RdL Kd.byte S w A xs) (hS : ∀ k, S k → k < w.heap.size) (e' : w' = w.alloc (.cells #[.slice A xs.length c] e)) : RdL (Kd.sl Kd.byte) (fun k => S k ∨ k = w.heap.size) w' (some ⟨w.heap.size, 0, none⟩) [xs] := by
  subst e'
  refine RdL.block1 rfl (heap_alloc_new w _) (.inr rfl) (fun i x hx => ?_)
  cases i with
  | zero =>
    simp at hx; subst hx
    exact ⟨_, rfl, A, c, rfl, hc, hm, (h.keep fun k hk => (below_alloc w _).block k (hS k hk)).mono fun k hk => .inl hk⟩
  | succ i => simp at hx

theorem lit_bytes {B : Nat} {w W : World} (hb : Below B w W) (hB : B ≤ W.heap.size) (ts : List UInt8) {o : Obj} (ho : o = .cells (ts.map encB).toArray 5) : ∃ W', W' = W.alloc o ∧
    Wr W' (some ⟨W.heap.size, 0, none⟩) W.heap.size [] [] 5 ts ∧ Below B w W' ∧ W'.heap.size = W.heap.size + 1 ∧ Below W.heap.size W W' := by
  subst ho
  exact ⟨_, rfl, Wr.lit _ _ _, hb.alloc hB _, by simp, below_alloc _ _⟩
theorem lit_row1 {B : Nat} {w W : World} (hb : Below B w W) (hB : B ≤ W.heap.size) {A : Option Addr} {xs : List UInt8} {c : Nat} {S : Nat → Prop} (hc : xs.length ≤ c) (hm : c ≤ maxLen) (h : RdL Kd.byte S W A xs) (hS : ∀ k, S k → k < W.heap.size) {o : Obj} (ho : o = .cells #[.slice A xs.length c] 22) : ∃ W', W' = W.alloc o ∧
    RdL (Kd.sl Kd.byte) (fun k => S k ∨ k = W.heap.size) W' (some ⟨W.heap.size, 0, none⟩) [xs] ∧ Below B w W' ∧ W'.heap.size = W.heap.size + 1 ∧ Below W.heap.size W W' := by
  subst ho
  exact ⟨_, rfl, RdL.lit1 hc hm h hS rfl, hb.alloc hB _, by simp, below_alloc _ _⟩

theorem speaks_calls (w : World) : Calls Try.prog 12 #[] w fun e w' => e = .returned (.bool true) ∧ Below w.heap.size w w' := by
  refine cps fun R hR => ?_
  go_enter Try.func12, Try.ntmps12
  go_wp2_with fail
  obtain ⟨W1, hW1, hA, hb1, hs1, hk1⟩ := lit_bytes (Below.refl w.heap.size w) (Nat.le_refl _) [3, 3] (o := .cells #[.int .u8 3, .int .u8 3] 5) rfl
  rw [← hW1]
  obtain ⟨W2, hW2, hB, hb2, hs2, hk2⟩ := lit_bytes hb1 hb1.size [1, 2] (o := .cells #[.int .u8 1, .int .u8 2] 5) rfl
  rw [← hW2]
  rw [hs1] at hB hs2
  replace hA := hA.keep (hk2.block _ (by omega))
  obtain ⟨W3, hW3, hL, hb3, hs3, hk3⟩ := lit_row1 hb2 hb2.size (xs := [1, 2]) (c := 2) (Nat.le_refl _) (by unfold maxLen; omega) hB.rd (fun k hk => by omega) (o := .cells #[.slice (some ⟨w.heap.size + 1, 0, none⟩) 2 2] 22) rfl
  rw [← hW3]
  replace hA := hA.keep (hk3.block _ (by omega))
  rw [hs2] at hL hs3
  clear hW1 hW2 hW3 hk1 hk2 hk3
  have hx := xorall_yes (some ⟨w.heap.size, 0, none⟩) w.heap.size [] [] 5 [3, 3] 2 (some ⟨w.heap.size + 2, 0, none⟩) [[1, 2]] 1 _ W3 (by unfold maxLen; omega) (by simp) (by unfold maxLen; omega) (by simp) hA (by simp) hL (fun k hk => by omega)
  refine hx.mono ?_
  rintro e w4 ⟨rfl, hA4, hg4⟩
  have hb4 := hb3.grown hg4 (by omega) (fun k hk => by injection hk with hk; omega)
  have hs4 := hg4.size
  rw [show sumL [3, 3] [[1, 2]] = [2, 1] from rfl] at hA4
  clear hx hL hB hA hb1 hb2 hb3 hg4
  go_wp2_with fail
  obtain ⟨W5, hW5, hB5, hb5, hs5, hk5⟩ := lit_bytes hb4 hb4.size [1] (o := .cells #[.int .u8 1] 5) rfl
  rw [← hW5]
  replace hA4 := hA4.keep (hk5.block _ (by omega))
  obtain ⟨W6, hW6, hL6, hb6, hs6, hk6⟩ := lit_row1 hb5 hb5.size (xs := [1]) (c := 1) (Nat.le_refl _) (by unfold maxLen; omega) hB5.rd (fun k hk => by omega) (o := .cells #[.slice (some ⟨w4.heap.size, 0, none⟩) 1 1] 22) rfl
  rw [← hW6]
  replace hA4 := hA4.keep (hk6.block _ (by omega))
  rw [hs5] at hL6
  clear hW5 hW6
  refine (xorall_no (some ⟨w.heap.size, 0, none⟩) [2, 1] 2 (some ⟨w4.heap.size + 1, 0, none⟩) [[1]] 1 _ W6 (by unfold maxLen; omega) (by simp) (by unfold maxLen; omega) (by simp) (by simp) hL6).mono ?_
  rintro e w7 ⟨rfl, rfl⟩
  clear hB5 hL6 hk5 hk6
  have hstr : (convert 22 9 (.slice (some ⟨w.heap.size, 0, none⟩) 2 2)).run Try.prog W6 = .ok (.string (bstr [2, 1])) W6 := run_str Try.underlying22 Try.underlying5 Try.underlying9 hA4.src 2
  have heq : (bstr [2, 1]).toList = [2, 1] := by rw [ByteArray.toList_eq]
  generalize bstr [2, 1] = s at hstr heq
  go_wp2_with fail
  obtain ⟨W8, hW8, hB8, hb8, hs8, hk8⟩ := lit_bytes hb6 hb6.size [0, 0] (o := .cells #[.int .u8 0, .int .u8 0] 5) rfl
  rw [← hW8]
  replace hA4 := hA4.keep (hk8.block _ (by omega))
  have hz1 := zero_calls (some ⟨W6.heap.size, 0, none⟩) [0, 0] 2 _ W8 (by unfold maxLen; omega) (by simp) hB8.rd
  have hz2 := zero_calls (some ⟨w.heap.size, 0, none⟩) [2, 1] 2 _ W8 (by unfold maxLen; omega) (by simp) hA4.rd
  rw [show zeroB [0, 0] = true from rfl] at hz1
  rw [show zeroB [2, 1] = false from rfl] at hz2
  rw [hs6, hs5] at hz1
  have Hz1 := hide hz1
  have Hz2 := hide hz2
  clear hz1 hz2 hW8 hB8 hA4 hk8 heq hstr hb4 hb5 hb6 hs3 hs2 hs1 hs5 hs6 hs8 hs4
  refine Hz1.out.mono ?_
  rintro e w9 ⟨rfl, rfl⟩
  go_wp2_with fail
  refine Hz2.out.mono ?_
  rintro e w9 ⟨rfl, rfl⟩
  go_wp2_with fail
  exact hR.out _ _ ⟨rfl, hb8⟩
end Go.Proofs.Ythcbjhmckbfkmaa
