/- CrcSums, walked. -/
import Derived.Test.YtoiojkjmldlhcaaCrcRef
import Derived.Deep.RegionHeld
import Derived.Deep.Cut
import Derived.Deep.CutRange
import Derived.Deep.RegionHeldLaw
set_option linter.unusedVariables false
set_option linter.unusedSimpArgs false
namespace Go.Proofs.Ytoiojkjmldlhcaa
open Go.RowKit

theorem seal_right (b : List UInt8) : rightB (sealL b) = true := by
  rw [right_iff _ (by rw [sealL_len]; omega), seal_crc]
theorem run_max0 (P : Program) (w : World) (ts : Array TypeId) (t : TypeId) (a : Nat) : (Builtin.max_ ts t #[.int .i64 (a : Int), .int .i64 0]).run P w = .ok (.int .i64 (a : Int)) w := by
  simp [Builtin.max_, Builtin.max2]
  omega

set_option maxRecDepth 100000 in
set_option maxHeartbeats 1000000 in
theorem CrcSums_calls (A : Option Addr) (b : List UInt8) (c : Nat) (w : World) (hcm : c ≤ maxLen) (hcl : b.length ≤ c) (har : RdL Kd.byte (· < w.heap.size) w A b) :
    Calls Try.prog 7 #[.slice A b.length c] w fun e w' => e = .returned (.bool true) ∧ Below w.heap.size w w' := by
  refine cps fun R hR => ?_
  have hcm' := hcm
  unfold maxLen at hcm'
  have Ha := hide har
  clear har
  generalize hn : b.length = n at *
  have Hn := hide hn
  clear hn
  go_enter Try.func7, Try.ntmps7
  go_wp2_with fail
  refine (crcspeaks_calls w).mono ?_
  rintro e w1 ⟨rfl, hb1⟩
  by_cases h5 : 500 < n
  · go_wp2_with fail
    exact hR.out _ _ ⟨rfl, hb1⟩
  go_wp2_with fail
  refine (new_calls w1).mono ?_
  rintro e w2 ⟨rfl, ht2, hb2, hlt2⟩
  have s1 := hb1.size
  have hb02 := hb1.trans (hb2.mono s1)
  have s2 := hb02.size
  generalize w1.heap.size = gt at *
  have Ht2 := hide ht2
  have Hb02 := hide hb02
  clear ht2 hb2 hb02 hb1
  have lmb := hide (show (b.map encB).length = n by rw [List.length_map, Hn.out])
  go_wp2_with (at_builtin; with_reducible refine wp_app_lit 15 rfl rfl (.tmp 13) (.tmp 14) 24 rfl Try.underlying24 infoB ?_ (news := b.map encB) (g := w2.heap.size) ?_ (A := A) (c := c) ?_ ?_ (encB_one _) ?_ ?_ ?_)
  case refine_1 => rfl
  case refine_2 => rfl
  case refine_3 => rw [lmb.out]; rfl
  case refine_4 => exact ((Ha.out.below Hb02.out).keep fun k hk => (balloc w2 _).block k (Nat.lt_of_lt_of_le hk s2)).srcB
  case refine_5 => rw [lmb.out]; omega
  case refine_6 => rw [lmb.out]; unfold maxLen; omega
  case refine_7 =>
  intro v3 w3 hn3
  obtain ⟨A3, c3, rfl, hr3, hb3⟩ := hn3.sl
  obtain ⟨A3', c3', e3, hc3, hm3, hrd3⟩ := hr3
  simp only [List.cons.injEq, Value.slice.injEq, and_true, true_and] at e3
  obtain ⟨rfl, rfl⟩ := e3
  have hb23 : Below w2.heap.size w2 w3 := (balloc w2 (.cells #[] 5)).trans (hb3.mono (by simp))
  have Hb03 := hide (Hb02.out.trans (hb23.mono s2))
  have Ht3 := hide (Ht2.out.keep (hb23.block gt Ht2.out.lt))
  have Hrd3 := hide (hrd3.mono (S' := (· < w3.heap.size)) fun k hk => hk.2)
  have hsl := hide (seal_ret Ht3.out Hn.out (by rw [← Hn.out]; exact hc3) hm3 (by omega) Hrd3.out (fun k hk => hk))
  rw [Hn.out] at hc3 ⊢
  clear hn3 hb3 hrd3 hb23
  go_wp2_with fail
  refine hsl.out.mono ?_
  rintro e w4 ⟨A4, c4, rfl, hc4, hm4, hrd4, hb4, ht4⟩
  have Hb04 := hide (Hb03.out.trans (hb4.mono Hb03.out.size))
  have Hrd34 := hide (Hrd3.out.below hb4)
  have Hrd4 := hide hrd4
  have Ht4 := hide ht4
  have s4 := Hb04.out.size
  have s34 := hb4.size
  clear hrd4 hb4 ht4 hsl
  go_wp2_with fail
  have lsl := hide (show (sealL b).length = n + 4 by rw [sealL_len, Hn.out])
  have hS := hide (fun (y : World) (hy : Below w4.heap.size w4 y) => (⟨hide hy,
    by have := run_str (P := Try.prog) (w := y) Try.underlying24 Try.underlying5 Try.underlying9 (Hrd4.out.below hy).srcB c4
       rwa [lsl.out] at this,
    by have := run_str (P := Try.prog) (w := y) Try.underlying24 Try.underlying5 Try.underlying9 (Hrd34.out.keep (w' := y) fun k hk => hy.block k (Nat.lt_of_lt_of_le hk s34)).srcB c3
       rwa [Hn.out] at this,
    by have := run_str (P := Try.prog) (w := y) Try.underlying24 Try.underlying5 Try.underlying9 (Ha.out.below (Hb04.out.trans (hy.mono s4))).srcB c
       rwa [Hn.out] at this⟩ :
    Hid (Below w4.heap.size w4 y) ∧ (convert 24 9 (.slice A4 (n + 4) c4)).run Try.prog y = .ok (.string (bstr (sealL b))) y ∧ (convert 24 9 (.slice A3 n c3)).run Try.prog y = .ok (.string (bstr b)) y ∧ (convert 24 9 (.slice A n c)).run Try.prog y = .ok (.string (bstr b)) y))
  have s0 := hS.out w4 (Below.refl _ _)
  have hT := hide (fun (y : World) (hy : Below w4.heap.size w4 y) => Ht4.out.keep (w' := y) (hy.block gt Ht4.out.lt))
  have hB := hide (fun (y : World) (hy : Below w4.heap.size w4 y) => Ha.out.below (Hb04.out.trans (hy.mono s4)))
  have hBl := hide (fun (y : World) (hy : Below w4.heap.size w4 y) k (hk : k < w.heap.size) => (Nat.lt_of_lt_of_le hk (Nat.le_trans s4 hy.size) : k < y.heap.size))
  have hrs := hide (fun (y : World) (hy : Below w4.heap.size w4 y) => refcrc_calls A b c _ y hcm (by rw [Hn.out]; exact hcl) (by rw [Hn.out]; omega) (hB.out y hy))
  have hre := hide (fun (y : World) (hy : Below w4.heap.size w4 y) => refseal_calls A b c _ y hcm (by rw [Hn.out]; exact hcl) (by rw [Hn.out]; omega) (hB.out y hy) (hBl.out y hy))
  have hri := hide (fun (y : World) (hy : Below w4.heap.size w4 y) => right_calls gt A4 (sealL b) c4 _ y (hT.out y hy) hm4 (by rw [lsl.out]; exact hc4) (by rw [lsl.out]; omega) (Hrd4.out.below hy) (fun k hk => Nat.lt_of_lt_of_le hk hy.size))
  rw [Hn.out] at hrs hre
  rw [lsl.out, seal_right] at hri
  have hq : (((crcS b).toNat : Int) == ((crcS b).toNat : Int)) = true := by simp
  generalize hsl : sealL b = sl at *
  generalize hss : bstr sl = ssl at *
  generalize hsb : bstr b = sb at *
  have Hss := hide hss
  have Hsb := hide hsb
  have Hsl := hide hsl
  clear hss hsb hsl
  go_upto_region 8 with fail
  go_region_held (fun y => Hid (Below w4.heap.size w4 y) ∧ (convert 24 9 (.slice A4 (n + 4) c4)).run Try.prog y = .ok (.string ssl) y ∧ (convert 24 9 (.slice A3 n c3)).run Try.prog y = .ok (.string sb) y ∧ (convert 24 9 (.slice A n c)).run Try.prog y = .ok (.string sb) y)
      (exact hS.out _ (Hid.out (by repeat (first | assumption | exact hide (Below.refl _ _) | refine held_alloc ?_ | refine held_drew ?_)))) (first
      | (go_at_call 29
         refine (sum_at (xs := b) (n := n) (A := A) (c := c) (hT.out _ (Hid.out (by repeat (first | assumption | exact hide (Below.refl _ _) | refine held_alloc ?_ | refine held_drew ?_)))) (by first | exact heap_new0 _ _ | exact heap_new1 _ _ _ | exact heap_old0 _ _ _) Hn.out hcl hcm (hB.out _ (Hid.out (by repeat (first | assumption | exact hide (Below.refl _ _) | refine held_alloc ?_ | refine held_drew ?_))))).mono ?_
         rintro e w9 ⟨rfl, rfl⟩)
      | (go_at_call 30
         refine (hrs.out _ (Hid.out (by repeat (first | assumption | exact hide (Below.refl _ _) | refine held_alloc ?_ | refine held_drew ?_)))).mono ?_
         rintro e w9 ⟨rfl, rfl⟩)
      | (go_at_call 31
         refine (hre.out _ (Hid.out (by repeat (first | assumption | exact hide (Below.refl _ _) | refine held_alloc ?_ | refine held_drew ?_)))).mono ?_
         rintro e w10 ⟨v10, rfl, hf10⟩
         have hb10 : Hid (Below w4.heap.size w4 w10) := hide (Below.trans (Hid.out (by repeat (first | assumption | exact hide (Below.refl _ _) | refine held_alloc ?_ | refine held_drew ?_))) (hf10.2.1.mono (Below.size (Hid.out (by repeat (first | assumption | exact hide (Below.refl _ _) | refine held_alloc ?_ | refine held_drew ?_))))))
         obtain ⟨A10, c10, rfl, -, -⟩ := hf10.shape
         have t10 := run_str (P := Try.prog) (w := w10) Try.underlying24 Try.underlying5 Try.underlying9 hf10.1.src c10
         rw [Hss.out] at t10
         clear hf10)
      | (go_at_call 32
         refine (hri.out _ (Hid.out (by repeat (first | assumption | exact hide (Below.refl _ _) | refine held_alloc ?_ | refine held_drew ?_)))).mono ?_
         rintro e w11 ⟨rfl, hb11'⟩
         have hb11 : Hid (Below w4.heap.size w4 w11) := hide (Below.trans (Hid.out (by repeat (first | assumption | exact hide (Below.refl _ _) | refine held_alloc ?_ | refine held_drew ?_))) (hb11'.mono (Below.size (Hid.out (by repeat (first | assumption | exact hide (Below.refl _ _) | refine held_alloc ?_ | refine held_drew ?_))))))))
  clear hre hri hrs
  have s11 := hb11.out.size
  have hB11 := hide (hB.out w11 hb11.out)
  have hT11 := hide (hT.out w11 hb11.out)
  have Hb011 := hide (Hb04.out.trans (hb11.out.mono s4))
  have hl11 := hide (hBl.out w11 hb11.out)
  have hbc := hide (fun (y : World) (hy : Below w11.heap.size w11 y) => (by
    have := run_str (P := Try.prog) (w := y) Try.underlying24 Try.underlying5 Try.underlying9 (Ha.out.below (Hb011.out.trans (hy.mono Hb011.out.size))).srcB c
    rwa [Hn.out] at this : (convert 24 9 (.slice A n c)).run Try.prog y = .ok (.string (bstr b)) y))
  have hrf := hide (fun (y : World) (hy : Below w11.heap.size w11 y) => right_calls gt A b c _ y (hT11.out.keep (hy.block gt hT11.out.lt)) hcm (by rw [Hn.out]; exact hcl) (by rw [Hn.out]; omega) (Ha.out.below (Hb011.out.trans (hy.mono Hb011.out.size))) (fun k hk => Nat.lt_of_lt_of_le (hl11.out k hk) hy.size))
  rw [Hn.out] at hrf
  clear hb10 t10 hb11' s0 hq
  by_cases h4 : 4 ≤ n
  · obtain ⟨m, hmn⟩ : ∃ m, n = m + 4 := ⟨n - 4, by omega⟩
    have hrv : rightB b = (sealL (b.take m) == b) := by
      unfold rightB
      rw [Hn.out, decide_eq_true h4, Bool.true_and, hmn, Nat.add_sub_cancel]
    have ltm := hide (show (b.take m).length = m by rw [List.length_take, Hn.out]; omega)
    have hre2 := hide (fun (y : World) (hy : Below w11.heap.size w11 y) => refseal_calls A (b.take m) c _ y hcm (by rw [ltm.out]; omega) (by rw [ltm.out]; omega) ((Ha.out.below (Hb011.out.trans (hy.mono Hb011.out.size))).take m) (fun k hk => Nat.lt_of_lt_of_le (hl11.out k hk) hy.size))
    rw [ltm.out] at hre2
    rw [hrv] at hrf
    generalize hz : sealL (b.take m) = z at hre2 hrf
    have Hz := hide hz
    clear hz hrv
    have hmx := fun y => run_max0 Try.prog y #[3, 3] 3 m
    have hmc : (m : Int) ≤ (c : Int) := by omega
    have g1 : decide ((4 : Int) ≤ (n : Int)) = true := by simp; omega
    have g2 : IntKind.i64.wrap ((n : Int) - 4) = (m : Int) := by rw [IntKind.wrap_i64]; omega
    have Hmn := hide hmn
    clear hmn h4
    go_wp2_with fail
    have s0 := hbc.out w11 (Below.refl _ _)
    have s0' := hbc.out w11.drew (Below.refl _ _).drew
    generalize hsb2 : bstr b = sb2 at hbc s0 s0'
    have Hsb2 := hide hsb2
    clear hsb2
    go_region_held (fun y => Hid (Below w11.heap.size w11 y) ∧ (convert 24 9 (.slice A n c)).run Try.prog y = .ok (.string sb2) y)
      (exact ⟨hide (Hid.out (by repeat (first | assumption | exact hide (Below.refl _ _) | refine held_alloc ?_ | refine held_drew ?_))), hbc.out _ (Hid.out (by repeat (first | assumption | exact hide (Below.refl _ _) | refine held_alloc ?_ | refine held_drew ?_)))⟩) (first
      | (go_at_call 31
         refine (hre2.out _ (Hid.out (by repeat (first | assumption | exact hide (Below.refl _ _) | refine held_alloc ?_ | refine held_drew ?_)))).mono ?_
         rintro e w12 ⟨v12, rfl, hf12⟩
         have hb12 : Hid (Below w11.heap.size w11 w12) := hide (Below.trans (Hid.out (by repeat (first | assumption | exact hide (Below.refl _ _) | refine held_alloc ?_ | refine held_drew ?_))) (hf12.2.1.mono (Below.size (Hid.out (by repeat (first | assumption | exact hide (Below.refl _ _) | refine held_alloc ?_ | refine held_drew ?_))))))
         obtain ⟨A12, c12, rfl, -, -⟩ := hf12.shape
         have t12 := run_str (P := Try.prog) (w := w12) Try.underlying24 Try.underlying5 Try.underlying9 hf12.1.src c12
         clear hf12))
    have htl : sb2.toList = b := by rw [← Hsb2.out, ByteArray.toList_eq]
    have Htl := hide htl
    clear htl t12 s0 s0' hmx
    go_wp2_with fail
    rw [Htl.out]
    refine (hrf.out w12 hb12.out).mono ?_
    rintro e w13 ⟨rfl, hb13⟩
    have hq2 : ((z == b) == (z == b)) = true := by simp
    go_wp2_with fail
    exact hR.out _ _ ⟨by first | rfl | (rw [hq2]), Hb011.out.trans ((hb12.out.trans (hb13.mono hb12.out.size)).mono Hb011.out.size)⟩
  · have hrv : rightB b = false := by
      unfold rightB
      rw [Hn.out, decide_eq_false h4, Bool.false_and]
    rw [hrv] at hrf
    have g1 : decide ((4 : Int) ≤ (n : Int)) = false := by simp; omega
    clear h4 hrv
    go_wp2_with fail
    go_quiet (fail)
    go_wp2_with fail
    refine (hrf.out (w11.drewN nq) ⟨rfl, rfl, rfl, Nat.le_refl _, fun _ _ => rfl⟩).mono ?_
    rintro e w13 ⟨rfl, hb13⟩
    go_wp2_with fail
    exact hR.out _ _ ⟨rfl, Hb011.out.trans (Below.mono ⟨hb13.os, hb13.tape, hb13.output, hb13.size, hb13.block⟩ Hb011.out.size)⟩
end Go.Proofs.Ytoiojkjmldlhcaa
