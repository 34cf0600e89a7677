/- A block's bytes changed: Put, Onto. -/
import Derived.Test.YthcbjhmckbfkmaaArena2
set_option linter.unusedVariables false
set_option linter.unusedSimpArgs false
namespace Go.Proofs.Ythcbjhmckbfkmaa
open Go.RowKit

section
variable {w : World} {g n room : Nat} {bl : List (List UInt8)} {us : List Bool} {fr : List Nat} {live peak : Nat} {vb vu vf : Value} {qs : List Nat}
/-- One block has other bytes. -/
theorem Ar.block_set (h : Ar w g n room bl us fr live peak vb vu vf qs) {w' : World} {i q : Nat} {b' : List UInt8} (hq : qs[i]? = some q) (hb : b'.length = n) (hk : ∀ k, k < w.heap.size → k ≠ q → w'.heap[k]? = w.heap[k]?)
    (hh : w'.heap[q]? = some (.cells (b'.map encB).toArray 5 (0, 0))) : Ar w' g n room (bl.set i b') us fr live peak vb vu vf qs := by
  have hm := List.mem_of_getElem? hq
  have hnd := h.nd
  rw [List.nodup_cons] at hnd
  have hg : g ≠ q := fun e => hnd.1 (e ▸ hm)
  refine ⟨(hk g h.glt hg).trans h.head, h.rb.keep fun k hb => hk k (h.rb.lt hb) (fun e => h.ob k hb (e ▸ List.mem_cons_of_mem _ hm)), h.ru.keep fun k hb => hk k (h.ru.lt hb) (fun e => h.ou k hb (e ▸ List.mem_cons_of_mem _ hm)), h.rf.keep fun k hb => hk k (h.rf.lt hb) (fun e => h.of k hb (e ▸ List.mem_cons_of_mem _ hm)), by rw [List.length_set]; exact h.ql, by rw [List.length_set]; exact h.ul, fun j q' b'' h1 h2 => ?_, h.nd, h.ob, h.ou, h.of, h.bu, h.bf, h.uf⟩
  rw [List.getElem?_set] at h2
  by_cases hj : i = j
  · subst hj
    rw [if_pos rfl] at h2
    rw [hq] at h1
    injection h1 with h1
    subst h1
    split at h2
    · injection h2 with h2
      subst h2
      exact ⟨hb, hh⟩
    · simp at h2
  · rw [if_neg hj] at h2
    obtain ⟨h3, h4⟩ := h.bk j q' b'' h1 h2
    have hne : q' ≠ q := fun e => by
      obtain ⟨l1, e1⟩ := List.getElem?_eq_some_iff.1 hq
      obtain ⟨l2, e2⟩ := List.getElem?_eq_some_iff.1 h1
      have hp := List.pairwise_iff_getElem.1 hnd.2
      rcases Nat.lt_or_gt_of_ne hj with h | h
      · exact hp i j l1 l2 h (by rw [e1, e2, e])
      · exact hp j i l2 l1 h (by rw [e1, e2, e])
    exact ⟨h3, (hk q' (h.qlt (List.mem_of_getElem? h1)) hne).trans h4⟩
theorem aput_not (i : Int) (P : Value) (h : Ar w g n room bl us fr live peak vb vu vf qs) (hi : hasB us i = false) : Calls Try.prog 28 #[.pointer (some ⟨g, 0, none⟩), .int .i64 i, P] w fun e w' => e = .returned (.bool false) ∧ w = w' := by
  refine cps fun R hR => ?_
  have Hh := hide (has_calls i h)
  rw [hi] at Hh
  clear h
  go_enter Try.func28, Try.ntmps28
  go_wp2_with fail
  refine Hh.out.mono ?_
  rintro e w1 ⟨rfl, rfl⟩
  go_wp2_with fail
  exact hR.out _ _ ⟨rfl, rfl⟩
/-- Put, where the block is given out: as block.Xor answers. -/
theorem aput_has (i : Nat) (B : Option Addr) (m d : Nat) (h : Ar w g n room bl us fr live peak vb vu vf qs) (hl : i < bl.length) (hi : hasB us i = true) {q : Nat} (hq : qs[i]? = some q) {T : Ending → World → Prop} (hX : Calls Try.prog 14 #[.slice (some ⟨q, 0, none⟩) n n, .slice B m d] w fun e w' => ∃ b : Bool, e = .returned (.bool b) ∧ T e w') :
    Calls Try.prog 28 #[.pointer (some ⟨g, 0, none⟩), .int .i64 (i : Int), .slice B m d] w T := by
  refine cps fun R hR => ?_
  have Hh := hide (has_calls (i : Int) h)
  rw [hi] at Hh
  obtain ⟨q', qb, c, rfl, hcb, hcell, hq', hbl, hbh⟩ := h.block hl
  obtain rfl : q = q' := by rw [hq] at hq'; injection hq'
  obtain ⟨-, -, c2, -, -, -, -⟩ := cells7 h.head
  have HX := hide hX
  clear h hbh hq hq' hbl hX
  generalize bl.length = k at *
  go_enter Try.func28, Try.ntmps28
  go_wp2_with fail
  refine Hh.out.mono ?_
  rintro e w1 ⟨rfl, rfl⟩
  go_wp2_with fail
  refine HX.out.mono ?_
  rintro e w1 ⟨b, rfl, hT⟩
  go_wp2_with fail
  exact hR.out _ _ hT
/-- Bytes that fit are put upon a block. -/
theorem aput_yes (i : Nat) (B : Option Addr) (bss : List (List UInt8)) (d : Nat) (S : Nat → Prop) (h : Ar w g n room bl us fr live peak vb vu vf qs) (hl : i < bl.length) (hi : hasB us i = true) (hn : n ≤ 1000000) (hd : d ≤ maxLen) (hdl : bss.length ≤ d) (hb : RdL (Kd.sl Kd.byte) S w B bss) (hS : ∀ k, S k → k < w.heap.size ∧ qs[i]? ≠ some k) (hf : ∀ b ∈ bss, b.length = n) :
    Calls Try.prog 28 #[.pointer (some ⟨g, 0, none⟩), .int .i64 (i : Int), .slice B bss.length d] w fun e w' => e = .returned (.bool true) ∧ Ar w' g n room (bl.set i (sumL bl[i] bss)) us fr live peak vb vu vf qs ∧ Ch (fun b => qs[i]? = some b) w w' := by
  obtain ⟨q, qb, c, -, -, -, hq, hbl, hbh⟩ := h.block hl
  have hlen := sumL_len n bss bl[i] hbl hf
  refine aput_has i B bss.length d h hl hi hq ?_
  by_cases h0 : n = 0
  · have hw : Wr w (some ⟨q, 0, none⟩) w.heap.size [] [] 5 bl[i] := fun hp => by omega
    have := xorall_yes (some ⟨q, 0, none⟩) w.heap.size [] [] 5 bl[i] n B bss d S w (by unfold maxLen; omega) (by omega) hd hdl hw (by rw [hbl]; exact hf) hb (fun k hk => ⟨(hS k hk).1, by have := (hS k hk).1; omega⟩)
    rw [hbl] at this
    refine this.mono fun e w' ⟨h1, h2, h3⟩ => ⟨true, h1, h1, ?_, ?_⟩
    · have he : sumL bl[i] bss = bl[i] := by
        rw [List.eq_nil_of_length_eq_zero (by omega : (sumL bl[i] bss).length = 0), List.eq_nil_of_length_eq_zero (by omega : bl[i].length = 0)]
      refine h.block_set hq hlen (fun k hk hne => h3.block k hk (by simp; omega)) ?_
      rw [he, h3.block q (Array.getElem?_eq_some_iff.1 hbh).1 (by have := (Array.getElem?_eq_some_iff.1 hbh).1; simp; omega)]; exact hbh
    · exact ⟨h3.os, h3.tape, h3.output, h3.size, fun k hk _ => h3.block k hk (by simp; omega)⟩
  · have hw : Wr w (some ⟨q, 0, none⟩) q [] [] 5 bl[i] := fun hp => ⟨rfl, by simpa using hbh⟩
    have := xorall_yes (some ⟨q, 0, none⟩) q [] [] 5 bl[i] n B bss d S w (by unfold maxLen; omega) (by omega) hd hdl hw (by rw [hbl]; exact hf) hb (fun k hk => ⟨(hS k hk).1, fun e => (hS k hk).2 (e ▸ hq)⟩)
    rw [hbl] at this
    refine this.mono fun e w' ⟨h1, h2, h3⟩ => ⟨true, h1, h1, ?_, ?_⟩
    · obtain ⟨-, h4⟩ := h2 (by omega)
      exact h.block_set hq hlen (fun k hk hne => h3.block k hk (by simpa using hne)) (by simpa using h4)
    · exact ⟨h3.os, h3.tape, h3.output, h3.size, fun k hk hn => h3.block k hk (fun e => hn (by injection e with e; rw [e]; exact hq))⟩
theorem aput_no (i : Nat) (B : Option Addr) (bss : List (List UInt8)) (d : Nat) (S : Nat → Prop) (h : Ar w g n room bl us fr live peak vb vu vf qs) (hl : i < bl.length) (hi : hasB us i = true) (hn : n ≤ 1000000) (hd : d ≤ maxLen) (hdl : bss.length ≤ d) (hb : RdL (Kd.sl Kd.byte) S w B bss) (hf : ¬ ∀ b ∈ bss, b.length = n) :
    Calls Try.prog 28 #[.pointer (some ⟨g, 0, none⟩), .int .i64 (i : Int), .slice B bss.length d] w fun e w' => e = .returned (.bool false) ∧ w = w' := by
  obtain ⟨q, qb, c, -, -, -, hq, hbl, hbh⟩ := h.block hl
  refine aput_has i B bss.length d h hl hi hq ?_
  have := xorall_no (some ⟨q, 0, none⟩) bl[i] n B bss d S w (by unfold maxLen; omega) (by omega) hd hdl (by rw [hbl]; exact hf) hb
  rw [hbl] at this
  exact this.mono fun e w' ⟨h1, h2⟩ => ⟨false, h1, h1, h2⟩
end
end Go.Proofs.Ythcbjhmckbfkmaa
