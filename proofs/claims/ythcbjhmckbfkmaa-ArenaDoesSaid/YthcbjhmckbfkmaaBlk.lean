/- The reference's row of blocks by their numbers: read, Find. -/
import Derived.Test.YthcbjhmckbfkmaaHeap0
set_option linter.unusedVariables false
set_option linter.unusedSimpArgs false
namespace Go.Proofs.Ythcbjhmckbfkmaa
open Go.RowKit

/-- A block by its number. -/
abbrev kBlk : Kd (Int × List UInt8) := Kd.seq (Kd.int .i64) (Kd.sl Kd.byte)
def findB (l : List (Int × List UInt8)) (n : Int) : Int := match l.findIdx? (fun p => p.1 == n) with | some i => (i : Int) | none => -1
theorem findB_no {l : List (Int × List UInt8)} {n : Int} (h : ∀ j (hj : j < l.length), l[j].1 ≠ n) : findB l n = -1 := by
  have : l.findIdx? (fun p => p.1 == n) = none := by
    rw [List.findIdx?_eq_none_iff]
    intro x hx
    obtain ⟨j, hj, rfl⟩ := List.getElem_of_mem hx
    simpa using h j hj
  rw [findB, this]
theorem findB_at {l : List (Int × List UInt8)} {n : Int} {k : Nat} (hk : k < l.length) (he : l[k].1 = n) (h : ∀ j (hj : j < l.length), j < k → l[j].1 ≠ n) : findB l n = (k : Int) := by
  have : l.findIdx? (fun p => p.1 == n) = some k := by
    rw [List.findIdx?_eq_some_iff_getElem]
    refine ⟨hk, by simpa using he, fun j hj => ?_⟩
    simpa using h j (by omega) hj
  rw [findB, this]
theorem blk_at {S : Nat → Prop} {w : World} {B : Option Addr} {l : List (Int × List UInt8)} (h : RdL kBlk S w B l) {i : Nat} (hi : i < l.length) : ∃ b off Bx c, B = some ⟨b, off, none⟩ ∧ S b ∧ w.cell? ⟨b, off + i * 2, none⟩ = some (.int .i64 l[i].1) ∧ w.cell? ⟨b, off + i * 2 + 1, none⟩ = some (.slice Bx l[i].2.length c) ∧ l[i].2.length ≤ c ∧ c ≤ maxLen ∧ RdL Kd.byte S w Bx l[i].2 ∧ kBlk.R S w l[i] [.int .i64 l[i].1, .slice Bx l[i].2.length c] := by
  obtain ⟨b, off, e, hs, hc⟩ := h (by omega)
  obtain ⟨cs, hr, hcell⟩ := hc i l[i] (List.getElem?_eq_getElem hi)
  have hr' := hr
  obtain ⟨_, _, rfl, ⟨_, rfl, rfl, -⟩, Bx, c, rfl, h1, h2, h3⟩ := hr
  exact ⟨b, off, Bx, c, e, hs, hcell 0 _ rfl, hcell 1 _ rfl, h1, h2, h3, hr'⟩
set_option maxHeartbeats 2000000 in
theorem find_calls (B : Option Addr) (l : List (Int × List UInt8)) (d : Nat) (n : Int) (S : Nat → Prop) (w : World) (hd : d ≤ maxLen) (hdl : l.length ≤ d) (h : RdL kBlk S w B l) :
    Calls Try.prog 30 #[.slice B l.length d, .int .i64 n] w fun e w' => e = .returned (.int .i64 (findB l n)) ∧ w = w' := by
  refine cps fun R hR => ?_
  unfold maxLen at hd
  have H := hide h
  clear h
  obtain ⟨L, hL⟩ : ∃ L, L = l.length := ⟨_, rfl⟩
  rw [← hL] at hdl ⊢
  have HL := hide hL
  clear hL
  go_enter Try.func30, Try.ntmps30
  go_wp2_with fail
  go_loop [5] (fun i => ∃ k : Nat, k ≤ L ∧ i = .int .i64 (k : Int) ∧ ∀ (j : Nat) (hj : j < l.length), j < k → l[j].1 ≠ n) (fun i => L - (intOf i).toNat)
  case atStart => exact ⟨0, Nat.zero_le _, rfl, fun j hj h => absurd h (by omega)⟩
  case round =>
    obtain ⟨k, hk, rfl, hall⟩ := hrel
    have Hall := hide hall
    clear hall
    by_cases hlt : k < L
    · have hkl : k < l.length := by rw [← HL.out]; exact hlt
      obtain ⟨b, off, Bx, c, rfl, hsb, hcx, -, -, -, -, -⟩ := blk_at H.out hkl
      obtain ⟨m, hm⟩ : ∃ m, m = l[k].1 := ⟨_, rfl⟩
      rw [← hm] at hcx
      have Hm := hide hm
      clear hm hsb
      by_cases hx : m = n
      · have e1 : (m == n) = true := by simp [hx]
        have Hx := hide hx
        clear hx
        go_wp2_with fail
        have hf := findB_at hkl (by rw [← Hm.out]; exact Hx.out) (fun j hj hjk => Hall.out j hj hjk)
        exact hR.out _ _ ⟨by rw [hf], rfl⟩
      · have e1 : (m == n) = false := by simp [hx]
        have Hx := hide hx
        clear hx
        go_wp2_with fail
        go_round
        case rel =>
          refine ⟨k + 1, by omega, by go_num, fun j hj hjk => ?_⟩
          by_cases e : j = k
          · subst e; rw [← Hm.out]; exact Hx.out
          · exact Hall.out j hj (by omega)
        case measure => simp [intOf]; omega
    · obtain rfl : k = L := by omega
      go_wp2_with fail
      have hf := findB_no (l := l) (n := n) (fun j hj => Hall.out j hj (by have := HL.out; omega))
      exact hR.out _ _ ⟨by rw [hf], rfl⟩
end Go.Proofs.Ythcbjhmckbfkmaa
