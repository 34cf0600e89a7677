/- NetFlips, walked. -/
import Derived.Test.YtehkdionodnhjaaNet5
import Derived.WalkSpells
set_option linter.unusedVariables false
set_option linter.unusedSimpArgs false
namespace Go.Proofs.Ytehkdionodnhjaa
open Go.RowKit

theorem OR.first {w : World} {S : Nat → Prop} {e : TypeId} {A : Option Addr} {c : Nat} {us : List Value} {x : List UInt8} (h : OR Kd.ow S w e (.slice A 1 c) us [x]) :
    ∃ b B d, A = some ⟨b, 0, none⟩ ∧ w.cell? ⟨b, 0, none⟩ = some (.slice B x.length d) ∧ x.length ≤ d ∧ d ≤ maxLen ∧ RdL Kd.byte S w B x := by
  obtain ⟨b, u, rfl, -, -, hc, hu⟩ := h.cell (i := 0) (by simp)
  obtain ⟨B, d, rfl, h1, h2, h3⟩ := ow_shape hu
  exact ⟨b, B, d, rfl, hc, h1, h2, h3⟩
theorem below_tr' {a : Nat} {w w1 w2 : World} (h : Below a w w1) (ha : a ≤ w1.heap.size) (h2 : Below w1.heap.size w1 w2) : Below a w w2 := h.trans (h2.mono ha)
theorem op_cells {w : World} {q : Nat} {kind pt : Int} {m : UInt32} {B : Option Addr} {n d : Nat} (h : w.heap[q]? = some (opO kind pt m B n d)) : w.cell? ⟨q, 0, none⟩ = some (.int .i64 kind) ∧ w.cell? ⟨q, 1, none⟩ = some (.int .i64 pt) ∧ w.cell? ⟨q, 2, none⟩ = some (.int .u32 (m.toNat : Int)) ∧ w.cell? ⟨q, 3, none⟩ = some (.slice B n d) :=
  ⟨by rw [cell_of_row w q 0 _ _ (0, 0) h]; rfl, by rw [cell_of_row w q 1 _ _ (0, 0) h]; rfl, by rw [cell_of_row w q 2 _ _ (0, 0) h]; rfl, by rw [cell_of_row w q 3 _ _ (0, 0) h]; rfl⟩
set_option maxHeartbeats 4000000 in
set_option maxRecDepth 100000 in
theorem Flips_calls (kind pt : Int) (m : UInt32) (B : Option Addr) (n d : Nat) (A : Option Addr) (fr : List UInt8) (c : Nat) (w : World) (hp : (Lit.int .i64 pt).wf = true) (hc : fr.length ≤ c) (hcm : c ≤ maxLen) (hf : RdL Kd.byte (· < w.heap.size) w A fr) :
    Calls Try.prog 7 #[opV kind pt m B n d, .slice A fr.length c] w fun e w' => e = .returned (.bool true) ∧ Below w.heap.size w w' := by
  refine cps fun R hR => ?_
  obtain ⟨W, hW⟩ : ∃ W, W = w.alloc (opO kind pt m B n d) := ⟨_, rfl⟩
  have hbW := hide (show Below w.heap.size w W by rw [hW]; exact balloc w _)
  have hzW := hide (show W.heap.size = w.heap.size + 1 by rw [hW]; simp)
  have hhW := hide (show W.heap[w.heap.size]? = some (opO kind pt m B n d) by rw [hW]; exact heap_alloc_new w _)
  have Hsp := hide (nspeaks W)
  have Hf := hide hf
  have Hp := hide hp
  have Hcm := hide hcm
  have HW := hide hW
  clear hW hf hp
  unfold maxLen at hcm
  obtain ⟨N, hN⟩ : ∃ N, N = fr.length := ⟨_, rfl⟩
  rw [← hN] at hc ⊢
  have HN := hide hN
  clear hN
  by_cases h200 : 200 < N
  · go_enter Try.func7, Try.ntmps7
    go_upto_region 1 with fail
    rw [← HW.out]
    go_wp2_with fail
    refine Hsp.out.mono ?_
    rintro _ w1 ⟨rfl, hb1⟩
    go_wp2_with fail
    exact hR.out _ _ ⟨rfl, below_trN hbW.out hbW.out.size hb1⟩
  go_enter Try.func7, Try.ntmps7
  go_upto_region 1 with fail
  rw [← HW.out]
  clear HW
  go_wp2_with fail
  refine Hsp.out.mono ?_
  rintro _ w1 ⟨rfl, hb1⟩
  have hbw1 := below_trN hbW.out hbW.out.size hb1
  have hh1 : w1.heap[w.heap.size]? = some (opO kind pt m B n d) := (hb1.block _ (by have := hzW.out; omega)).trans hhW.out
  have hq1 := nl_new W w1 hb1
  have HqW := hide (show w.heap.size < W.heap.size from by have := hzW.out; omega)
  obtain ⟨w2, hw2⟩ : ∃ w2, w2 = w1.alloc (.cells #[.slice none 0 0] 62) := ⟨_, rfl⟩
  rw [← hw2] at hq1
  obtain ⟨g, hg⟩ : ∃ g, g = w1.heap.size := ⟨_, rfl⟩
  rw [← hg] at hq1
  have hb2 : Below w1.heap.size w1 w2 := by rw [hw2]; exact balloc w1 _
  obtain ⟨q, hq⟩ : ∃ q, q = w.heap.size := ⟨_, rfl⟩
  rw [← hq] at hh1
  have hql : q < w1.heap.size := (Array.getElem?_eq_some_iff.1 hh1).1
  have hh2 : w2.heap[q]? = some (opO kind pt m B n d) := (hb2.block q hql).trans hh1
  have hqg : Hid (q ≠ g) := hide (by omega)
  have hfB := hide (below_tr' (show Below w.heap.size w w1 from hbw1) hbw1.size hb2)
  rw [← hq] at HqW
  have hda := hide (nl_do 6 pt m none [] 0 A fr c (· < w.heap.size) w2 hq1 (by have := HN.out; omega) (by decide) (by decide) Hp.out (by decide) (by decide) (by have := HN.out; omega) Hcm.out (fun k hk => by have := hfB.out.size; show k < _; omega) (Hf.out.below hfB.out) RdL.nil)
  rw [← HN.out] at hda
  have hd6 : doL [] 6 pt m [] fr = ([], [flipL fr pt m]) := rfl
  rw [hd6] at hda
  have Hh2 := hide hh2
  have HW2 := hide hw2
  have Hg := hide hg
  have Hq := hide hq
  clear hw2 hq1 hb1 hg hq Hsp hbw1 hh1 hhW hzW hb2 hql hh2 hd6
  go_upto_region 6 with fail
  rw [← HW2.out, ← Hg.out, ← Hq.out]
  clear HW2 Hg
  obtain ⟨o0, o1, o2, o3⟩ := op_cells Hh2.out
  clear o0 o3
  go_wp2_with fail
  refine hda.out.mono ?_
  rintro _ w3 ⟨A3, c3, us3, S3, T3, rfl, h3, hf3, hch3, hnew3, hout3⟩
  obtain ⟨b3, B3, d3, rfl, hc3, hd3, hdm3, hr3⟩ := hf3.row.first
  rw [flipL_len, ← HN.out] at hc3 hd3
  have hh3 : w3.heap[q]? = some (opO kind pt m B n d) := (hch3.block q (Array.getElem?_eq_some_iff.1 Hh2.out).1 hqg.out).trans Hh2.out
  have Hh3 := hide hh3
  have H3 := hide h3
  have Hr3 := hide hr3
  have HT3 := hide (show ∀ k, T3 k → k < w3.heap.size ∧ ¬ S3 k from fun k hk => ⟨(hout3 k (.inl hk)).2, (hf3.out k (.inl hk)).1⟩)
  have Hdm3 := hide hdm3
  have Hd3 := hide hd3
  clear hda hh3 h3 hf3 hch3 hnew3 hr3 Hh2 hout3 o1 o2 hdm3 hd3
  obtain ⟨o0, o1, o2, o3⟩ := op_cells Hh3.out
  clear o0 o3
  go_wp2_with fail
  go_still_tail 8, (by kernel_rfl)
  have hz3 : w3.drew.heap.size = w3.heap.size := rfl
  have hfl : (flipL fr pt m).length = N := by rw [flipL_len, HN.out]
  have hdb := nl_do 6 pt m none [] 0 B3 (flipL fr pt m) d3 T3 w3.drew (H3.out.below ⟨rfl, rfl, rfl, Nat.le_refl _, fun _ _ => rfl⟩) (by omega) (by decide) (by decide) Hp.out (by decide) (by decide) (by have := Hd3.out; omega) Hdm3.out (fun k hk => (HT3.out k hk).1) (Hr3.out.keep fun _ _ => rfl) RdL.nil
  rw [hfl] at hdb
  have hd6 : doL [] 6 pt m [] (flipL fr pt m) = ([], [fr]) := by
    show ([], [flipL (flipL fr pt m) pt m]) = _
    rw [flipL_twice]
  rw [hd6] at hdb
  have Hdb := hide hdb
  clear hdb hd6 hfl hz3
  go_wp2_with fail
  refine Hdb.out.mono ?_
  rintro _ w4 ⟨A4, c4, us4, S4, T4, rfl, h4, hf4, hch4, hnew4, hout4⟩
  obtain ⟨b4, B4, d4, rfl, hc4, hd4, hdm4, hr4⟩ := hf4.row.first
  rw [← HN.out] at hc4 hd4
  have hqS : ¬ S3 q := fun hs => by have := H3.out.ge q hs; have := HqW.out; omega
  have hh4 : w4.heap[q]? = some (opO kind pt m B n d) := (hch4.block q (Array.getElem?_eq_some_iff.1 Hh3.out).1 hqS).trans Hh3.out
  have hw4 := below_tr' hbW.out hbW.out.size h4.bel
  have hdc := nl_do 5 pt 0 none [] 0 A fr c (· < w.heap.size) w4 h4 (by have := HN.out; omega) (by decide) (by decide) Hp.out (by decide) (by decide) (by have := HN.out; omega) Hcm.out (fun k hk => by have := hw4.size; show k < _; omega) (Hf.out.below hw4) RdL.nil
  have hd5 : doL [] 5 pt 0 [] fr = ([], [fr.take (plN pt fr.length)]) := rfl
  rw [hd5, ← HN.out] at hdc
  have hqS4 : ¬ S4 q := fun hs => by have := h4.ge q hs; have := HqW.out; omega
  have Hdc := hide hdc
  have Hh4 := hide hh4
  have H4 := hide h4
  have Hr4 := hide hr4
  have HT4 := hide (show ∀ k, (T4 k ∨ k = b4) → k < w4.heap.size ∧ ¬ S4 k from fun k hk => by
    rcases hk with hk | hk
    · exact ⟨(hout4 k (.inl hk)).2, (hf4.out k (.inl hk)).1⟩
    · exact ⟨(hout4 k (.inr (by rw [hk]; rfl))).2, (hf4.out k (.inr (by rw [hk]; rfl))).1⟩)
  have Hc4 := hide hc4
  clear hdc hh4 h4 hf4 hch4 hnew4 hr4 hout4 hc4 hdm4 hd4 hd5 Hdb H3 Hr3 HT3 hc3 Hdm3 Hd3 o1 o2 Hh3 hqS
  obtain ⟨o0, o1, o2, o3⟩ := op_cells Hh4.out
  clear o0 o2 o3
  go_wp2_with fail
  refine Hdc.out.mono ?_
  rintro _ w5 ⟨A5, c5, us5, S5, T5, rfl, h5, hf5, hch5, hnew5, hout5⟩
  obtain ⟨b5, B5, d5, rfl, hc5, hd5, hdm5, hr5⟩ := hf5.row.first
  have hp5 := plN_le pt N
  have hp5' : 0 < N → plN pt N < N := plN_lt pt
  obtain ⟨p5, hpe⟩ : ∃ p5, p5 = plN pt N := ⟨_, rfl⟩
  rw [← hpe] at hp5 hp5' hc5 hr5
  have htl : (fr.take p5).length = p5 := by rw [List.length_take, ← HN.out]; omega
  rw [htl] at hc5
  have hcb4 : w5.cell? ⟨b4, 0, none⟩ = some (.slice B4 N d4) := hch5.cell Hc4.out (HT4.out b4 (.inr rfl)).2
  have hr45 : RdL Kd.byte T4 w5 B4 fr := Hr4.out.keep fun k hk => hch5.block k (HT4.out k (.inl hk)).1 (HT4.out k (.inl hk)).2
  have hw5 := below_tr' hbW.out hbW.out.size h5.bel
  have hrf5 := Hf.out.below hw5
  have c1 := fun q => run_str (P := Try.prog) (w := w5.drewN q) Try.underlying57 Try.underlying5 Try.underlying9 (hr45.keep (w' := w5.drewN q) fun _ _ => rfl).srcB d4
  have c2 := fun q => run_str (P := Try.prog) (w := w5.drewN q) Try.underlying57 Try.underlying5 Try.underlying9 (hrf5.keep (w' := w5.drewN q) fun _ _ => rfl).srcB c
  have c3' := fun q => run_str (P := Try.prog) (w := w5.drewN q) Try.underlying57 Try.underlying5 Try.underlying9 (hr5.keep (w' := w5.drewN q) fun _ _ => rfl).srcB d5
  have c4' := fun q => run_str (P := Try.prog) (w := w5.drewN q) Try.underlying57 Try.underlying5 Try.underlying9 ((hrf5.take p5).keep (w' := w5.drewN q) fun _ _ => rfl).srcB c
  rw [← HN.out] at c1 c2
  rw [htl] at c3' c4'
  have Hb5 := hide hw5
  generalize bstr fr = t1 at c1 c2
  generalize bstr (fr.take p5) = t2 at c3' c4'
  have e1 : (t1.toList != t1.toList) = false := by simp
  have e2 : (t2.toList == t2.toList) = true := by simp
  clear hr45 hrf5 hr5 hout5 hnew5 hch5 hf5 h5 htl hpe Hr4 HT4 Hc4 H4 Hdc hdm5 hd5 hw5 o1
  have i0 : (0 : Int) ≤ (p5 : Int) := by omega
  have i1 : (p5 : Int) ≤ (N : Int) := by omega
  have i2 : (p5 : Int) ≤ (c : Int) := by omega
  by_cases h0 : N = 0
  · obtain rfl : p5 = 0 := by omega
    subst h0
    clear c3' c4'
    go_wp2_with fail
    go_quiet (fail)
    go_wp2_with fail
    go_quiet (fail)
    go_wp2_with fail
    exact hR.out _ _ ⟨rfl, Hb5.out.os, Hb5.out.tape, Hb5.out.output, Hb5.out.size, Hb5.out.block⟩
  · have n0 : ((N : Int) == 0) = false := by simp; omega
    have n1 : decide ((p5 : Int) < (N : Int)) = true := by have := hp5' (by omega); simp; omega
    have n2 : decide (p5 < N) = true := by have := hp5' (by omega); simp; omega
    clear h0 hp5'
    go_wp2_with fail
    go_quiet (fail)
    go_wp2_with fail
    go_quiet (fail)
    go_wp2_with fail
    exact hR.out _ _ ⟨rfl, Hb5.out.os, Hb5.out.tape, Hb5.out.output, Hb5.out.size, Hb5.out.block⟩
end Go.Proofs.Ytehkdionodnhjaa
