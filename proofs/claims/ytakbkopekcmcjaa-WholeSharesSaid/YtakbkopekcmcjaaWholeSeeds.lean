/- WholeSeeds, walked. -/
import Derived.Test.YtakbkopekcmcjaaDegreeMore
import Derived.Test.YtakbkopekcmcjaaRngK
import Derived.Deep.RegionHeld
set_option linter.unusedVariables false
set_option linter.unusedSimpArgs false
namespace Go.Proofs.Ytakbkopekcmcjaa
open Go.RowKit

theorem next_at (g : Nat) (s : UInt64) (w0 w : World) (h : RandAt w g s) (hb : Below w0.heap.size w0 w) (hg : w0.heap.size ≤ g) : Calls Try.prog 18 #[.pointer (some ⟨g, 0, none⟩)] w fun e w' =>
    e = .returned (.int .u64 ((mix64 (s + stepC)).toNat : Int)) ∧ RandAt w' g (s + stepC) ∧ Below w0.heap.size w0 w' ∧ ∀ g2, g2 ≠ g → w'.heap[g2]? = w.heap[g2]? :=
  (next_calls g s w h).mono fun e w' ⟨h1, h2⟩ => by
    subst h2
    exact ⟨h1, h.set _, (Ch.set w ⟨g, 0, none⟩ _).below hb hb.size (fun j hj => by rw [hj]; exact hg), fun g2 hg2 => Below.heap_setCell w ⟨g, 0, none⟩ _ g2 hg2⟩
theorem next_to (g : Nat) (s t : UInt64) (mx : Nat) (w0 w : World) (h1 : mx = (mix64 (s + stepC)).toNat) (h2 : t = s + stepC) (h : RandAt w g s) (hb : Below w0.heap.size w0 w) (hg : w0.heap.size ≤ g) : Calls Try.prog 18 #[.pointer (some ⟨g, 0, none⟩)] w fun e w' =>
    e = .returned (.int .u64 (mx : Int)) ∧ RandAt w' g t ∧ Below w0.heap.size w0 w' ∧ ∀ g2, g2 ≠ g → w'.heap[g2]? = w.heap[g2]? := by
  rw [h1, h2]; exact next_at g s w0 w h hb hg
theorem RandAt.keep {w w' : World} {g : Nat} {s : UInt64} (h : RandAt w g s) (hk : w'.heap[g]? = w.heap[g]?) : RandAt w' g s := hk.trans h
theorem RandAt.below {w w' : World} {g : Nat} {s : UInt64} (h : RandAt w g s) (hb : Below w.heap.size w w') : RandAt w' g s := h.keep (hb.block g h.lt)
theorem mix_first : mix64 (0 + stepC) = 16294208416658607535 := by kernel_rfl

set_option maxHeartbeats 4000000 in
theorem Seeds_calls (N B Q E F : Int) (A : Option Addr) (c : Nat) (xs : List UInt64) (mn : Nat) (w : World) (hmn : mn ≤ 255) (hm : c ≤ maxLen) (hc : xs.length ≤ c) (hr : RdL Kd.u64 (· < w.heap.size) w A xs) :
    Calls Try.prog 7 #[pV N B Q E F, .slice A xs.length c, .int .u8 (mn : Int)] w fun e w' => e = .returned (.bool true) ∧ Below w.heap.size w w' := by
  refine cps fun R hR => ?_
  obtain ⟨W, hW, hb, hs, d0, d1, d2, d3, d4⟩ := box5 w N B Q E F 23
  have HW := hide hW
  have Hb := hide hb
  have c0 := fun x : Later W => later_cell d0 x
  have c1 := fun x : Later W => later_cell d1 x
  have c2 := fun x : Later W => later_cell d2 x
  have c3 := fun x : Later W => later_cell d3 x
  have c4 := fun x : Later W => later_cell d4 x
  have Hr := hide (hr.below hb)
  have h0 := hide (rngnew_calls none 0 [] (fun _ => False) W (by decide) (by decide) (fun _ h => h.elim) RdL.nil)
  have Hm := hide hm
  have Hc := hide hc
  have Hmn := hide hmn
  clear hW hb d0 d1 d2 d3 d4 hr hm hc hmn
  go_enter Try.func7, Try.ntmps7
  go_upto_region 1 with fail
  rw [← HW.out]
  clear HW
  go_wp2_with fail
  refine h0.out.mono ?_
  rintro _ w1 ⟨rfl, hr1, hb1⟩
  have hnx := hide (next_at W.heap.size (seedF []) W w1 hr1 hb1 (Nat.le_refl _))
  rw [show seedF [] = 0 from rfl, mix_first] at hnx
  clear hr1 hb1 h0
  go_wp2_with fail
  refine hnx.out.mono ?_
  rintro _ w2 ⟨rfl, -, hb2, -⟩
  have B2 := hide hb2
  have k0 := c0 ⟨w2, hb2⟩
  have k1 := c1 ⟨w2, hb2⟩
  have k2 := c2 ⟨w2, hb2⟩
  have k3 := c3 ⟨w2, hb2⟩
  have k4 := c4 ⟨w2, hb2⟩
  simp only [Later.v] at k0 k1 k2 k3 k4
  have hry := hide (refmay_calls N B Q E F w2)
  clear hb2 hnx
  go_wp2_with fail
  refine hry.out.mono ?_
  rintro _ w3 ⟨rfl, hb3⟩
  have B3 := hide (below_step B2.out B2.out.size hb3)
  clear hb3 B2 hry k0 k1 k2 k3 k4
  have k0 := c0 ⟨w3, B3.out⟩
  have k1 := c1 ⟨w3, B3.out⟩
  have k2 := c2 ⟨w3, B3.out⟩
  have k3 := c3 ⟨w3, B3.out⟩
  have k4 := c4 ⟨w3, B3.out⟩
  simp only [Later.v] at k0 k1 k2 k3 k4
  have hfin := hide (below_step Hb.out (Nat.le_of_lt hs) B3.out)
  by_cases hm : mayB N B Q E F = true
  · obtain ⟨f, e, rfl, rfl, m⟩ := may_nat hm
    have M := hide m
    have Hm2 := hide hm
    have hN := hide (new_calls m N B Q w3 hm)
    rw [hm]
    clear hm m
    obtain ⟨n, hn⟩ : ∃ n, n = xs.length := ⟨_, rfl⟩
    rw [← hn]
    have Hn := hide hn
    clear hn
    by_cases hF : (200 : Int) < (f : Int)
    · have t1 : decide ((200 : Int) < (f : Int)) = true := by simp; omega
      have HF := hide hF
      clear hF c0 c1 c2 c3 c4
      go_wp2_with fail
      exact hR.out _ _ ⟨rfl, hfin.out⟩
    by_cases hL : (30 : Int) < (n : Int)
    · have t1 : decide ((200 : Int) < (f : Int)) = false := by simp; omega
      have t2 : decide ((30 : Int) < (n : Int)) = true := by simp; omega
      have HF := hide hF
      have HL := hide hL
      clear hF hL c0 c1 c2 c3 c4
      go_wp2_with fail
      exact hR.out _ _ ⟨rfl, hfin.out⟩
    have t1 : decide ((200 : Int) < (f : Int)) = false := by simp; omega
    have t2 : decide ((30 : Int) < (n : Int)) = false := by simp; omega
    clear hF hL
    go_wp2_with fail
    refine hN.out.mono ?_
    rintro _ w4 ⟨g, rfl, hT4, hb4⟩
    have T4 := hide hT4
    have B4 := hide (below_step B3.out B3.out.size hb4)
    clear hT4 hb4 hN k0 k1 k2 k3 k4 B3 hfin t1 t2
    have hra := hide (rngnew_calls A c xs (· < W.heap.size) w4 Hm.out Hc.out (fun k hk => Nat.lt_of_lt_of_le hk B4.out.size) ((Hr.out.mono fun k hk => Nat.lt_trans hk hs).below B4.out))
    rw [← Hn.out] at hra
    go_wp2_with fail
    refine hra.out.mono ?_
    rintro _ w5 ⟨rfl, hA5, hb5⟩
    have hrb := hide (rngnew_calls A c xs (· < W.heap.size) w5 Hm.out Hc.out (fun k hk => Nat.lt_of_lt_of_le hk (Nat.le_trans B4.out.size hb5.size)) (((Hr.out.mono fun k hk => Nat.lt_trans hk hs).below B4.out).below (hb5.mono B4.out.size)))
    rw [← Hn.out] at hrb
    have A5 := hide hA5
    have B5 := hide hb5
    clear hra hA5 hb5
    go_wp2_with fail
    refine hrb.out.mono ?_
    rintro _ w6 ⟨rfl, hB6, hb6⟩
    obtain ⟨ga, hga⟩ : ∃ ga, ga = w4.heap.size := ⟨_, rfl⟩
    obtain ⟨gb, hgb⟩ : ∃ gb, gb = w5.heap.size := ⟨_, rfl⟩
    rw [← hgb] at hB6 ⊢
    have A5' := A5.out
    rw [← hga] at A5' ⊢
    have A6 := hide (A5'.below hb6)
    have hB6' := hide hB6
    have Hab := hide (show ga ≠ gb ∧ w4.heap.size ≤ ga ∧ w4.heap.size ≤ gb from ⟨by have := A5'.lt; omega, by omega, by have := B5.out.size; omega⟩)
    have C6 := hide (below_step B5.out B5.out.size hb6)
    obtain ⟨b, hbq⟩ : ∃ b, b = w.heap.size := ⟨_, rfl⟩
    rw [← hbq]
    rw [← hbq] at c0 c1 c2 c3 c4
    have p0 := later_next c0 (W' := w4) (x := ⟨w4, B4.out⟩) rfl
    have p1 := later_next c1 (W' := w4) (x := ⟨w4, B4.out⟩) rfl
    have p2 := later_next c2 (W' := w4) (x := ⟨w4, B4.out⟩) rfl
    have p3 := later_next c3 (W' := w4) (x := ⟨w4, B4.out⟩) rfl
    have p4 := later_next c4 (W' := w4) (x := ⟨w4, B4.out⟩) rfl
    have hcells := hide (show ∀ x, Below w4.heap.size w4 x → x.cell? ⟨b, 0, none⟩ = some (.int .i64 N) ∧ x.cell? ⟨b, 1, none⟩ = some (.int .i64 B) ∧ x.cell? ⟨b, 2, none⟩ = some (.int .i64 Q) ∧ x.cell? ⟨b, 3, none⟩ = some (.int .i64 (e : Int)) ∧ x.cell? ⟨b, 4, none⟩ = some (.int .i64 (f : Int)) from fun x hx => ⟨p0 ⟨x, hx⟩, p1 ⟨x, hx⟩, p2 ⟨x, hx⟩, p3 ⟨x, hx⟩, p4 ⟨x, hx⟩⟩)
    have hdrew := hide (show ∀ x : World, Below w4.heap.size w4 x → Below w4.heap.size w4 x.drew from fun x hx => hx.drew)
    have Hbq := hide hbq
    have Hga := hide hga
    have Hgb := hide hgb
    clear hrb hb6 A5' hB6 c0 c1 c2 c3 c4 p0 p1 p2 p3 p4 hbq hga hgb
    go_wp2_with fail
    go_loopw [49] (fun i wr => ∃ (k : Nat) (st : UInt64), k ≤ mn ∧ i = .int .u8 (k : Int) ∧ RandAt wr ga st ∧ RandAt wr gb st ∧ Below w4.heap.size w4 wr) (fun i _ => mn - (intOf i).toNat)
    case atStart => exact ⟨0, seedF xs, Nat.zero_le _, rfl, A6.out, hB6'.out, C6.out⟩
    case round =>
      obtain ⟨k, st, hk, rfl, hA, hB, hBel⟩ := hrel
      by_cases hlt : k < mn
      · obtain ⟨mx, hmx⟩ : ∃ mx, mx = (mix64 (st + stepC)).toNat := ⟨_, rfl⟩
        obtain ⟨st2, hst2⟩ : ∃ st2, st2 = st + stepC := ⟨_, rfl⟩
        have Hmx := hide hmx
        have Hst2 := hide hst2
        clear hmx hst2
        obtain ⟨d, hd⟩ := of_exists M.out mx
        have Hd := hide hd
        obtain ⟨q0, q1, q2, q3, q4⟩ := hcells.out wr hBel
        have HA := hide hA
        have HB := hide hB
        have HBel := hide hBel
        have HAd : Hid (RandAt wr.drew ga st) := hide hA
        have HBd : Hid (RandAt wr.drew gb st) := hide hB
        have HBeld : Hid (Below w4.heap.size w4 wr.drew) := hide (hdrew.out wr hBel)
        have t1 : decide (k < mn) = true := by simp; omega
        have Hk := hide (show k < mn ∧ k ≤ mn from ⟨hlt, hk⟩)
        clear hA hB hBel hd hk hlt
        go_upto_region 12 with fail
        go_region_held (fun x => x.cell? ⟨b, 0, none⟩ = some (.int .i64 N) ∧ x.cell? ⟨b, 1, none⟩ = some (.int .i64 B) ∧ x.cell? ⟨b, 2, none⟩ = some (.int .i64 Q) ∧ x.cell? ⟨b, 3, none⟩ = some (.int .i64 (e : Int)) ∧ x.cell? ⟨b, 4, none⟩ = some (.int .i64 (f : Int))) (first | assumption | go_keep) (first
          | (go_at_call 18
             with_reducible refine (next_to ga st st2 mx w4 wr.drew Hmx.out Hst2.out HAd.out HBeld.out Hab.out.2.1).mono ?_
             rintro _ w7 ⟨rfl, hA7, hb7, ho7⟩
             have s7 := hcells.out w7 hb7
             have hB7 : RandAt w7 gb st := RandAt.keep HBd.out (ho7 gb (Ne.symm Hab.out.1)))
          | (go_at_call 15
             with_reducible refine (of_at M.out g _ mx d w7 (T4.out.below hb7) Hd.out).mono ?_
             rintro _ w8 ⟨rfl, hb8⟩
             have hb8' := below_step hb7 hb7.size hb8
             have s8 := hcells.out w8 hb8'
             have hA8 := hA7.below hb8
             have hB8 := hB7.below hb8)
          | (go_at_call 18
             with_reducible refine (next_to gb st st2 mx w4 w8 Hmx.out Hst2.out hB8 hb8' Hab.out.2.2).mono ?_
             rintro _ w9 ⟨rfl, hB9, hb9, ho9⟩
             have s9 := hcells.out w9 hb9
             have hA9 : RandAt w9 ga st2 := RandAt.keep hA8 (ho9 ga Hab.out.1))
          | (go_at_call 16
             with_reducible refine (refof_at M.out N B Q mx d w9 Hd.out).mono ?_
             rintro _ w10 ⟨rfl, hb10⟩
             have hb10' := below_step hb9 hb9.size hb10
             have s10 := hcells.out w10 hb10'
             have hA10 := hA9.below hb10
             have hB10 := hB9.below hb10))
        clear t1
        go_wp2_with fail
        have hk := Hk.out
        have hw2 : ((k : Int) + 1) % 256 = ((k + 1 : Nat) : Int) := by have := Hmn.out; omega
        rw [hw2]
        refine ⟨⟨k + 1, st2, by omega, ?_, hA10, hB10, hb10'⟩, ?_⟩
        · rfl
        · simp only [intOf]; omega
      · obtain rfl : k = mn := by omega
        have t1 : decide (k < k) = false := by simp
        clear hlt hk
        go_wp2_with fail
        exact hR.out _ _ ⟨rfl, below_step Hb.out (Nat.le_of_lt hs) (below_step B4.out B4.out.size hBel)⟩
  · have hm : mayB N B Q E F = false := by simpa using hm
    rw [hm]
    clear hm c0 c1 c2 c3 c4
    go_wp2_with fail
    exact hR.out _ _ ⟨rfl, hfin.out⟩
end Go.Proofs.Ytakbkopekcmcjaa
