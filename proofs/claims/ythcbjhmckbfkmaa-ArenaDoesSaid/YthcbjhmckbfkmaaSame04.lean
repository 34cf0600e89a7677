/- ArenaDoes's own look: all blocks are the reference's. -/
import Derived.Test.YthcbjhmckbfkmaaMeant2
import Derived.Deep.RegionHeld
set_option linter.unusedVariables false
set_option linter.unusedSimpArgs false
namespace Go.Proofs.Ythcbjhmckbfkmaa
open Go.RowKit

theorem below_t5 {a : Nat} {w w1 w2 : World} (h : Below a w w1) (ha : a ≤ w1.heap.size) (h2 : Below w1.heap.size w1 w2) : Below a w w2 := h.trans (h2.mono ha)
theorem hq_alloc {w x : World} {o : Obj} (h : Hid (Below w.heap.size w x)) : Hid (Below w.heap.size w (x.alloc o)) := hide (h.out.alloc h.out.size o)
theorem hq_drew {w x : World} (h : Hid (Below w.heap.size w x)) : Hid (Below w.heap.size w x.drew) := hide h.out.drew
theorem c4_rd {S : Nat → Prop} {w : World} {A : Option Addr} {x : List UInt8} {n : Nat} {str : ByteArray} (hs : str = bstr x) (hn : n = x.length) (h : RdL Kd.byte S w A x) (c : Nat) : (convert 22 9 (.slice A n c)).run Try.prog w = .ok (.string str) w := by
  rw [hn, hs]
  exact run_str Try.underlying22 Try.underlying5 Try.underlying9 h.srcB c
theorem c4_ow {S : Nat → Prop} {w : World} {A : Option Addr} {x : List UInt8} {n c : Nat} {str : ByteArray} (hs : str = bstr x) (hn : n = x.length) (h : Kd.ow.R S w x [.slice A n c]) : (convert 22 9 (.slice A n c)).run Try.prog w = .ok (.string str) w := by
  obtain ⟨_, h'⟩ := Kd.ow_rd h
  exact c4_rd hs hn h' c
/-- The reference's row and the arena's say the same of all numbers below the room. -/
def Agree (l : List (Int × List UInt8)) (bl : List (List UInt8)) (us : List Bool) (room : Nat) : Prop :=
  ∀ i : Nat, i < room → (hasB us (i : Int) = false ∧ findB l (i : Int) = -1 ∧ got bl us (i : Int) = []) ∨ (hasB us (i : Int) = true ∧ ∃ (f : Nat) (hf : f < l.length), findB l (i : Int) = (f : Int) ∧ l[f].2 = got bl us (i : Int))
set_option maxHeartbeats 4000000 in
theorem same_calls {S T : Nat → Prop} {w1 w : World} {g n M live peak : Nat} {bl : List (List UInt8)} {us : List Bool} {fr : List Nat} (B : Option Addr) (l : List (Int × List UInt8)) (d room : Nat) (hal : AL w1 w S g n M bl us fr live peak) (hn : n ≤ 1000000) (hroom : room ≤ 1000)
    (hd : d ≤ maxLen) (hdl : l.length ≤ d) (h : RdL kBlk T w B l) (hT : ∀ k, T k → k < w.heap.size) (ha : Agree l bl us room) :
    Calls Try.prog 34 #[.pointer (some ⟨g, 0, none⟩), .slice B l.length d, .int .i64 (room : Int)] w fun e w' => e = .returned (.bool true) ∧ Below w.heap.size w w' := by
  refine cps fun R hR => ?_
  unfold maxLen at hd
  have H := hide h
  have HT := hide hT
  have Hal := hide hal
  have Ha := hide ha
  have hF := hide (fun (y : World) (hy : Below w.heap.size w y) (m : Int) => find_calls B l d m T y (by unfold maxLen; omega) hdl (H.out.keep (w' := y) fun z hz => hy.block z (HT.out z hz)))
  clear h hT hal ha
  obtain ⟨L, hL⟩ : ∃ L, L = l.length := ⟨_, rfl⟩
  rw [← hL] at hdl hF ⊢
  have HL := hide hL
  clear hL
  go_enter Try.func34, Try.ntmps34
  go_wp2_with fail
  go_loopw [11] (fun i wr => ∃ k : Nat, k ≤ room ∧ i = .int .i64 (k : Int) ∧ Below w.heap.size w wr) (fun i _ => room - (intOf i).toNat)
  case atStart => exact ⟨0, Nat.zero_le _, rfl, Below.refl _ _⟩
  case round =>
    obtain ⟨k, hk, rfl, hbw⟩ := hrel
    by_cases hlt : k < room
    · have hfk := hF.out wr hbw (k : Int)
      have hsz := hide hbw.size
      have hG := hide (fun (y : World) (hy : Below wr.heap.size wr y) => as_get (k : Int) (Hal.out.below (hbw.trans (hy.mono hbw.size))).ar hn)
      have hH := hide (fun (y : World) (hy : Below wr.heap.size wr y) => as_has (k : Int) (Hal.out.below (hbw.trans (hy.mono hbw.size))).ar)
      rcases Ha.out k hlt with ⟨h1, h2, h3⟩ | ⟨h1, f, hf, h2, h3⟩
      · rw [h2] at hfk
        rw [h3] at hG
        rw [h1] at hH
        have Hfk := hide hfk
        have Hbw := hide hbw
        clear h1 h2 h3 hfk hbw
        go_wp2_with fail
        refine Hfk.out.mono ?_
        rintro _ w2 ⟨rfl, rfl⟩
        go_wp2_with fail
        refine (hG.out _ (Below.refl _ _)).mono ?_
        rintro _ w3 ⟨A3, c3, rfl, -, hb3⟩
        have hb3' : Hid (Below wr.heap.size wr w3) := hide hb3
        clear hb3
        have hhas := hide fun x : Later w3 => hH.out _ (hb3'.out.trans (x.below.mono hb3'.out.size))
        go_upto_region 6 with fail
        refine wp_region_later (by kernel_rfl) (by kernel_rfl) ?_
        repeat (go_big_quiet_step ((go_at_call 35; exact later_same (hhas.out _))))
        refine wpQuiet_nil ?_
        intro _ hw'
        obtain ⟨⟨w10, hb10⟩, rfl⟩ := hw'
        go_wp2_with fail
        exact ⟨⟨k + 1, by omega, by rw [Int.natCast_succ], Hbw.out.trans ((below_t5 hb3'.out hb3'.out.size hb10).mono hsz.out)⟩, by simp only [intOf]; omega⟩
      · obtain ⟨b, off, Bx, c, rfl, hsb, -, hcy, -, -, hrd, -⟩ := blk_at H.out hf
        obtain ⟨x, hx⟩ : ∃ x, x = l[f].2 := ⟨_, rfl⟩
        rw [← hx] at hcy hrd h3
        rw [← h3] at hG
        rw [h1] at hH
        rw [h2] at hfk
        obtain ⟨ln, hln⟩ : ∃ ln, ln = x.length := ⟨_, rfl⟩
        rw [← hln] at hG hcy
        obtain ⟨str, hstr⟩ : ∃ str, str = bstr x := ⟨_, rfl⟩
        have hfl : f < L := by rw [HL.out]; exact hf
        have i1 : (0 : Int) ≤ (f : Int) := by omega
        have i2 : (f : Int) < (L : Int) := by omega
        have i3 : decide ((f : Int) < 0) = false := by simp
        have hbl : b < w.heap.size := HT.out b hsb
        have Hfk := hide hfk
        have Hbw := hide hbw
        have Hrd := hide hrd
        have Hs := hide (And.intro hstr hln)
        have Hc := hide hcy
        have Hbl := hide hbl
        clear h1 h2 h3 hfk hbw hx hf hrd hstr hln hcy hsb hbl
        go_wp2_with fail
        refine Hfk.out.mono ?_
        rintro _ w2 ⟨rfl, rfl⟩
        go_wp2_with fail
        refine (hG.out _ (Below.refl _ _)).mono ?_
        rintro _ w3 ⟨A3, c3, rfl, k3, hb3⟩
        have hb3' : Hid (Below wr.heap.size wr w3) := hide hb3
        have hw3 : Hid (Below w.heap.size w w3) := hide (Hbw.out.trans (hb3.mono hsz.out))
        have q0 : w3.cell? ⟨b, off + f * 2 + 1, none⟩ = some (.slice Bx ln c) := (hw3.out.cell Hbl.out).trans Hc.out
        have q1 := fun y : Later w3 => later_cell q0 y
        have q2 := fun y : Later w3 => c4_ow Hs.out.1 Hs.out.2 (Kd.ow.keep (w' := y.v) (fun z hz => y.below.block z hz.2) k3)
        have q3 := fun y : Later w3 => c4_rd Hs.out.1 Hs.out.2 (Hrd.out.keep (w' := y.v) fun z hz => (below_t5 hw3.out hw3.out.size y.below).block z (HT.out z hz)) c
        have e1 : (str.toList != str.toList) = false := by simp
        have hhas := hide fun x : Later w3 => hH.out _ (hb3'.out.trans (x.below.mono hb3'.out.size))
        clear hb3 k3 q0
        go_upto_region 6 with fail
        refine wp_region_later (by kernel_rfl) (by kernel_rfl) ?_
        repeat (go_big_quiet_step ((go_at_call 35; exact later_same (hhas.out _))))
        refine wpQuiet_nil ?_
        intro _ hw'
        obtain ⟨⟨w10, hb10⟩, rfl⟩ := hw'
        go_wp2_with fail
        exact ⟨⟨k + 1, by omega, by rw [Int.natCast_succ], Hbw.out.trans ((below_t5 hb3'.out hb3'.out.size hb10).mono hsz.out)⟩, by simp only [intOf]; omega⟩
    · obtain rfl : k = room := by omega
      have Hbw := hide hbw
      clear hbw
      go_wp2_with fail
      exact hR.out _ _ ⟨rfl, Hbw.out⟩
end Go.Proofs.Ythcbjhmckbfkmaa
