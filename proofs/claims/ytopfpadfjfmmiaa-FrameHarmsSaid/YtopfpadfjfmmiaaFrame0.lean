/- Frames: which headers may be; what a frame says; New, Check, May. -/
import Derived.Test.YtopfpadfjfmmiaaFCrcRef
import Derived.Test.YtopfpadfjfmmiaaPar0
import Derived.Deep.RegionHeldLaw
set_option linter.unusedVariables false
set_option linter.unusedSimpArgs false
namespace Go.Proofs.Ytopfpadfjfmmiaa
open Go.RowKit

/-- A header. -/
structure Hdr where
  se : UInt64
  N : Int
  B : Int
  Q : Int
  E : Int
  F : Int
  len : Int
  id : UInt64
deriving DecidableEq
def Hdr.cs (h : Hdr) : List Value := [.int .u64 (h.se.toNat : Int), .int .i64 h.N, .int .i64 h.B, .int .i64 h.Q, .int .i64 h.E, .int .i64 h.F, .int .i64 h.len, .int .u64 (h.id.toNat : Int)]
abbrev hV (se : UInt64) (N B Q E F len : Int) (id : UInt64) : Value := .agg #[.int .u64 (se.toNat : Int), .int .i64 N, .int .i64 B, .int .i64 Q, .int .i64 E, .int .i64 F, .int .i64 len, .int .u64 (id.toNat : Int)]
def mayH (N B Q E F len : Int) : Bool := mayB N B Q E F && (decide (0 ≤ len) && decide (len ≤ N * B))
theorem mayH_bd {N B Q E F len : Int} (h : mayH N B Q E F len = true) : mayB N B Q E F = true ∧ 0 ≤ len ∧ len ≤ N * B := by
  simp only [mayH, Bool.and_eq_true, decide_eq_true_eq] at h
  exact ⟨h.1, h.2.1, h.2.2⟩
theorem hbox (w : World) (s d N B Q E F len : Int) (t : TypeId) : ∃ W, W = w.alloc (.cells #[.int .u64 s, .int .i64 N, .int .i64 B, .int .i64 Q, .int .i64 E, .int .i64 F, .int .i64 len, .int .u64 d] t) ∧ Below w.heap.size w W ∧ w.heap.size < W.heap.size ∧
    W.cell? ⟨w.heap.size, 0, none⟩ = some (.int .u64 s) ∧ W.cell? ⟨w.heap.size, 1, none⟩ = some (.int .i64 N) ∧ W.cell? ⟨w.heap.size, 2, none⟩ = some (.int .i64 B) ∧ W.cell? ⟨w.heap.size, 3, none⟩ = some (.int .i64 Q) ∧ W.cell? ⟨w.heap.size, 4, none⟩ = some (.int .i64 E) ∧
    W.cell? ⟨w.heap.size, 5, none⟩ = some (.int .i64 F) ∧ W.cell? ⟨w.heap.size, 6, none⟩ = some (.int .i64 len) ∧ W.cell? ⟨w.heap.size, 7, none⟩ = some (.int .u64 d) :=
  ⟨_, rfl, (Below.refl _ _).alloc (Nat.le_refl _) _, by simp, by simp [go_sem], by simp [go_sem], by simp [go_sem], by simp [go_sem], by simp [go_sem], by simp [go_sem], by simp [go_sem], by simp [go_sem]⟩

theorem fcheck_calls (s d N B Q E F len : Int) (w : World) : Calls Try.prog 16 #[.agg #[.int .u64 s, .int .i64 N, .int .i64 B, .int .i64 Q, .int .i64 E, .int .i64 F, .int .i64 len, .int .u64 d]] w fun e w' =>
    e = .returned (.int .i64 (if mayH N B Q E F len = true then 0 else 1)) ∧ Below w.heap.size w w' := by
  refine cps fun R hR => ?_
  obtain ⟨W, hW, hb, hs, ⟨c0, c1, c2, c3, c4, c5, c6, c7⟩⟩ := hbox w s d N B Q E F len 30
  have HW := hide hW
  clear hW
  have hc0 := fun w => check_calls N B Q E F w
  cases hmay : mayB N B Q E F
  · rw [hmay] at hc0
    have Hc := hide hc0
    have hn := hide (show (if mayH N B Q E F len = true then (0 : Int) else 1) = 1 by simp [mayH, hmay])
    clear hc0 hmay
    go_enter Try.func16, Try.ntmps16
    go_wp2_with fail
    rw [← HW.out]
    refine (Hc.out _).mono ?_
    rintro e w1 ⟨rfl, hb1⟩
    have hb1' := hb.trans (hb1.mono hb.size)
    clear hb1
    go_wp2_with fail
    exact hR.out _ _ ⟨by rw [hn.out]; rfl, hb1'⟩
  · rw [hmay] at hc0
    have Hc := hide hc0
    obtain ⟨hN1, hN2, hB1, hB2, -⟩ := may_bd hmay
    by_cases hl : len < 0
    · have hn := hide (show (if mayH N B Q E F len = true then (0 : Int) else 1) = 1 by simp [mayH, hmay]; intro h; omega)
      have hl' : decide (len < 0) = true := by simpa using hl
      clear hc0 hmay
      go_enter Try.func16, Try.ntmps16
      go_wp2_with fail
      rw [← HW.out]
      refine (Hc.out _).mono ?_
      rintro e w1 ⟨rfl, hb1⟩
      have hb1' := hb.trans (hb1.mono hb.size)
      replace c6 := (hb1.cell (by simpa using hs)).trans c6
      clear hb1 c0 c1 c2 c3 c4 c5 c7
      go_wp2_with fail
      go_quiet (fail)
      go_wp2_with fail
      exact hR.out _ _ ⟨by rw [hn.out]; rfl, hb1'.os, hb1'.tape, hb1'.output, hb1'.size, hb1'.block⟩
    · have hl' : decide (len < 0) = false := by simpa using hl
      have hl0 : ¬ len < 0 := hl
      have hM := fun w => most_calls N B Q E F w (by omega) hN2 (by omega) hB2
      have hmh : mayH N B Q E F len = decide (len ≤ N * B) := by
        unfold mayH
        rw [hmay, decide_eq_true (show 0 ≤ len by omega)]; rfl
      rw [hmh] at hR
      generalize N * B = M at hM hR
      have HM := hide hM
      clear hc0 hmay hmh hM
      rcases (by omega : len ≤ M ∨ M < len) with hle | hle
      all_goals
        go_enter Try.func16, Try.ntmps16
        go_wp2_with fail
        rw [← HW.out]
        refine (Hc.out _).mono ?_
        rintro e w1 ⟨rfl, hb1⟩
        have hb1' := hide (hb.trans (hb1.mono hb.size))
        have k1 := fun x : Later w1 => later_cell ((hb1.cell (by simpa using hs)).trans c1) x
        have k2 := fun x : Later w1 => later_cell ((hb1.cell (by simpa using hs)).trans c2) x
        have k3 := fun x : Later w1 => later_cell ((hb1.cell (by simpa using hs)).trans c3) x
        have k4 := fun x : Later w1 => later_cell ((hb1.cell (by simpa using hs)).trans c4) x
        have k5 := fun x : Later w1 => later_cell ((hb1.cell (by simpa using hs)).trans c5) x
        have k6 := fun x : Later w1 => later_cell ((hb1.cell (by simpa using hs)).trans c6) x
        clear hb1 c0 c1 c2 c3 c4 c5 c6 c7 hb hs
        go_wp2_with fail
        refine wp_region_later (by kernel_rfl) (by kernel_rfl) ?_
        repeat (go_big_quiet_step ((go_at_call 21; exact later_call (HM.out _))))
        refine wpQuiet_nil ?_
        intro _ hw'
        obtain ⟨⟨w2, hb2⟩, rfl⟩ := hw'
        go_wp2_with fail
        have hbf := hb1'.out.trans (hb2.mono hb1'.out.size)
      · exact hR.out _ _ ⟨by rw [decide_eq_true hle]; rfl, hbf⟩
      · exact hR.out _ _ ⟨by rw [decide_eq_false (by omega)]; rfl, hbf⟩

theorem fmay_calls (s d N B Q E F len : Int) (w : World) : Calls Try.prog 17 #[.agg #[.int .u64 s, .int .i64 N, .int .i64 B, .int .i64 Q, .int .i64 E, .int .i64 F, .int .i64 len, .int .u64 d]] w fun e w' =>
    e = .returned (.bool (mayH N B Q E F len)) ∧ Below w.heap.size w w' := by
  refine cps fun R hR => ?_
  obtain ⟨W, hW, hb, hs, ⟨c0, c1, c2, c3, c4, c5, c6, c7⟩⟩ := hbox w s d N B Q E F len 30
  have HW := hide hW
  clear hW
  have hc0 := fun w => refmay_calls N B Q E F w
  cases hmay : mayB N B Q E F
  · rw [hmay] at hc0
    have Hc := hide hc0
    have hn := hide (show mayH N B Q E F len = false by simp [mayH, hmay])
    clear hc0 hmay
    go_enter Try.func17, Try.ntmps17
    go_wp2_with fail
    rw [← HW.out]
    refine (Hc.out _).mono ?_
    rintro e w1 ⟨rfl, hb1⟩
    have hb1' := hb.trans (hb1.mono hb.size)
    clear hb1
    go_wp2_with fail
    exact hR.out _ _ ⟨by rw [hn.out]; rfl, hb1'⟩
  · rw [hmay] at hc0
    have Hc := hide hc0
    obtain ⟨hN1, hN2, hB1, hB2, -⟩ := may_bd hmay
    have hMw : IntKind.i64.wrap (N * B) = N * B := by
      have h1 : N * B ≤ 1048576 * 65535 := Int.mul_le_mul hN2 hB2 (by omega) (by omega)
      have h2 : 0 ≤ N * B := Int.mul_nonneg (by omega) (by omega)
      rw [IntKind.wrap_i64]; omega
    have hmh : mayH N B Q E F len = (decide (0 ≤ len) && decide (len ≤ N * B)) := by
      unfold mayH
      rw [hmay]; rfl
    rw [hmh] at hR
    have HMw := hide hMw
    clear hc0 hmay hmh hMw
    rcases (by omega : len < 0 ∨ 0 ≤ len) with hl | hl
    all_goals
      go_enter Try.func17, Try.ntmps17
      go_wp2_with fail
      rw [← HW.out]
      refine (Hc.out _).mono ?_
      rintro e w1 ⟨rfl, hb1⟩
      have hb1' := hide (hb.trans (hb1.mono hb.size))
      replace c1 := (hb1.cell (by simpa using hs)).trans c1
      replace c2 := (hb1.cell (by simpa using hs)).trans c2
      replace c6 := (hb1.cell (by simpa using hs)).trans c6
      clear hb1 c0 c3 c4 c5 c7 hb hs
    · go_wp2_with fail
      exact hR.out _ _ ⟨by rw [decide_eq_false (by omega)]; rfl, hb1'.out⟩
    · have hMw := HMw.out
      go_wp2_with fail
      exact hR.out _ _ ⟨by rw [decide_eq_true hl]; rfl, hb1'.out⟩

theorem fnew_calls (w : World) : Calls Try.prog 10 #[] w fun e w' => ∃ g gt, e = .returned (.pointer (some ⟨g, 0, none⟩)) ∧ w'.heap[g]? = some (.cells #[.pointer (some ⟨gt, 0, none⟩)] 62 (0, 0)) ∧ TabAt w' gt 256 ∧ Below w.heap.size w w' ∧ w.heap.size ≤ g ∧ w.heap.size ≤ gt ∧ g < w'.heap.size ∧ gt < w'.heap.size := by
  refine cps fun R hR => ?_
  go_enter Try.func10, Try.ntmps10
  go_wp2_with fail
  refine (new_calls w).mono ?_
  rintro e w1 ⟨rfl, ht, hb, hs⟩
  have Ht := hide ht
  clear ht
  go_wp2_with fail
  exact hR.out _ _ ⟨_, _, rfl, heap_alloc_new w1 _, Ht.out.keep (Below.heap_alloc w1 _ _ Ht.out.lt), hb.trans ((balloc w1 _).mono hb.size), hb.size, Nat.le_refl _, by simp, by simp; omega⟩
end Go.Proofs.Ytopfpadfjfmmiaa
