/- Noughts behind the object's end. -/
import Derived.Test.YtkmnlelfofebfaaSegBack
import Derived.Test.YtkmnlelfofebfaaZeros
import Derived.Deep.RegionHeldLaw
import Derived.Deep.Cut
import Derived.Deep.CutRange
set_option linter.unusedVariables false
set_option linter.unusedSimpArgs false
namespace Go.Proofs.Ytkmnlelfofebfaa
open Go.RowKit

theorem held_alloc {w x : World} {o : Obj} (h : Hid (Below w.heap.size w x)) : Hid (Below w.heap.size w (x.alloc o)) := hide (h.out.alloc h.out.size o)
theorem held_drew {w x : World} (h : Hid (Below w.heap.size w x)) : Hid (Below w.heap.size w x.drew) := hide h.out.drew
theorem cutL_pad (o : List UInt8) (m p B : Nat) : cutL (o ++ List.replicate m 0) p B = cutL o p B := by
  apply List.ext_getElem?
  intro i
  by_cases h : i < B
  · rw [cutL_get? _ _ _ _ h, cutL_get? _ _ _ _ h]
    congr 1
    simp only [List.getD]
    by_cases h1 : p + i < o.length
    · rw [List.getElem?_append_left h1]
    · rw [List.getElem?_append_right (by omega), List.getElem?_replicate, List.getElem?_eq_none (l := o) (by omega)]
      split <;> rfl
  · rw [List.getElem?_eq_none (by rw [cutL_len]; omega), List.getElem?_eq_none (by rw [cutL_len]; omega)]
theorem splitL_pad (N B : Nat) (o : List UInt8) (m : Nat) : splitL N B (o ++ List.replicate m 0) = splitL N B o := by
  unfold splitL
  apply List.map_congr_left
  intro i _
  exact cutL_pad o m _ B
theorem cutL_zero {o : List UInt8} {p B k : Nat} (hk : k < B) (hp : o.length ≤ p + k) : (cutL o p B)[k]'(by rw [cutL_len]; exact hk) = 0 := by
  have h := cutL_get? o p B k hk
  rw [List.getElem?_eq_getElem (by rw [cutL_len]; exact hk)] at h
  injection h with h
  rw [h]
  simp [List.getD, List.getElem?_eq_none hp]

set_option maxRecDepth 100000 in
set_option maxHeartbeats 4000000 in
theorem Pads_calls (N B Q E F : Int) (A : Option Addr) (o : List UInt8) (c : Nat) (mI : Int) (w : World) (hm0 : 0 ≤ mI) (hm1 : mI ≤ 255) (hlen : o.length ≤ 140737488351232) (hm : c ≤ maxLen) (hc : o.length ≤ c) (ho : RdL Kd.byte (· < w.heap.size) w A o) :
    Calls Try.prog 6 #[pV N B Q E F, .slice A o.length c, .int .u8 mI] w fun e w' => e = .returned (.bool true) ∧ Below w.heap.size w w' := by
  refine cps fun R hR => ?_
  obtain ⟨m, rfl⟩ := Int.eq_ofNat_of_zero_le hm0
  have hm2 : m ≤ 255 := by omega
  have em : IntKind.i64.wrap (m : Int) = (m : Int) := by rw [IntKind.wrap_i64]; omega
  have Ho := hide ho
  have hc0 := fun w => refmay_calls N B Q E F w
  clear ho hm0
  cases hmay : mayB N B Q E F
  · rw [hmay] at hc0
    have Hc := hide hc0
    clear hc0 hmay
    go_enter Try.func6, Try.ntmps6
    go_wp2_with fail
    refine (speaks_calls _).mono ?_
    rintro e w1 ⟨rfl, hb1⟩
    obtain ⟨W, hW, hb, hs, ⟨c0, c1, c2, c3, c4⟩⟩ := box5 w N B Q E F 23
    rw [← hW] at hb1
    replace c0 := (hb1.cell (by simpa using hs)).trans c0
    replace c1 := (hb1.cell (by simpa using hs)).trans c1
    replace c2 := (hb1.cell (by simpa using hs)).trans c2
    replace c3 := (hb1.cell (by simpa using hs)).trans c3
    replace c4 := (hb1.cell (by simpa using hs)).trans c4
    have hb1' := hb.trans (hb1.mono hb.size)
    have hs1 := Nat.lt_of_lt_of_le hs hb1.size
    clear hW hb hb1 hs
    go_wp2_with fail
    refine (Hc.out _).mono ?_
    rintro e w2 ⟨rfl, hb2⟩
    have hb2' := hb1'.trans (hb2.mono hb1'.size)
    have hs2 := Nat.lt_of_lt_of_le hs1 hb2.size
    replace c0 := (hb2.cell (by simpa using hs1)).trans c0
    replace c1 := (hb2.cell (by simpa using hs1)).trans c1
    replace c2 := (hb2.cell (by simpa using hs1)).trans c2
    replace c3 := (hb2.cell (by simpa using hs1)).trans c3
    replace c4 := (hb2.cell (by simpa using hs1)).trans c4
    clear hb2 hb1' hs1
    go_wp2_with fail
    exact hR.out _ _ ⟨rfl, hb2'⟩
  · rw [hmay] at hc0
    have Hc := hide hc0
    have Hmay := hide hmay
    obtain ⟨hN1, hN2, hB1, hB2, -⟩ := may_bd hmay
    obtain ⟨N, rfl⟩ := Int.eq_ofNat_of_zero_le (show 0 ≤ N by omega)
    obtain ⟨B, rfl⟩ := Int.eq_ofNat_of_zero_le (show 0 ≤ B by omega)
    clear hc0 hmay
    have Hm := hide hm
    unfold maxLen at hm
    by_cases h1 : 100 < N
    · 
      go_enter Try.func6, Try.ntmps6
      go_wp2_with fail
      refine (speaks_calls _).mono ?_
      rintro e w1 ⟨rfl, hb1⟩
      obtain ⟨W, hW, hb, hs, ⟨c0, c1, c2, c3, c4⟩⟩ := box5 w N B Q E F 23
      rw [← hW] at hb1
      replace c0 := (hb1.cell (by simpa using hs)).trans c0
      replace c1 := (hb1.cell (by simpa using hs)).trans c1
      replace c2 := (hb1.cell (by simpa using hs)).trans c2
      replace c3 := (hb1.cell (by simpa using hs)).trans c3
      replace c4 := (hb1.cell (by simpa using hs)).trans c4
      have hb1' := hb.trans (hb1.mono hb.size)
      have hs1 := Nat.lt_of_lt_of_le hs hb1.size
      clear hW hb hb1 hs
      go_wp2_with fail
      refine (Hc.out _).mono ?_
      rintro e w2 ⟨rfl, hb2⟩
      have hb2' := hb1'.trans (hb2.mono hb1'.size)
      have hs2 := Nat.lt_of_lt_of_le hs1 hb2.size
      replace c0 := (hb2.cell (by simpa using hs1)).trans c0
      replace c1 := (hb2.cell (by simpa using hs1)).trans c1
      replace c2 := (hb2.cell (by simpa using hs1)).trans c2
      replace c3 := (hb2.cell (by simpa using hs1)).trans c3
      replace c4 := (hb2.cell (by simpa using hs1)).trans c4
      clear hb2 hb1' hs1
      go_wp2_with fail
      exact hR.out _ _ ⟨rfl, hb2'⟩
    by_cases h2 : 100 < B
    · have h1' : decide (100 < N) = false := by simpa using h1
      go_enter Try.func6, Try.ntmps6
      go_wp2_with fail
      refine (speaks_calls _).mono ?_
      rintro e w1 ⟨rfl, hb1⟩
      obtain ⟨W, hW, hb, hs, ⟨c0, c1, c2, c3, c4⟩⟩ := box5 w N B Q E F 23
      rw [← hW] at hb1
      replace c0 := (hb1.cell (by simpa using hs)).trans c0
      replace c1 := (hb1.cell (by simpa using hs)).trans c1
      replace c2 := (hb1.cell (by simpa using hs)).trans c2
      replace c3 := (hb1.cell (by simpa using hs)).trans c3
      replace c4 := (hb1.cell (by simpa using hs)).trans c4
      have hb1' := hb.trans (hb1.mono hb.size)
      have hs1 := Nat.lt_of_lt_of_le hs hb1.size
      clear hW hb hb1 hs
      go_wp2_with fail
      refine (Hc.out _).mono ?_
      rintro e w2 ⟨rfl, hb2⟩
      have hb2' := hb1'.trans (hb2.mono hb1'.size)
      have hs2 := Nat.lt_of_lt_of_le hs1 hb2.size
      replace c0 := (hb2.cell (by simpa using hs1)).trans c0
      replace c1 := (hb2.cell (by simpa using hs1)).trans c1
      replace c2 := (hb2.cell (by simpa using hs1)).trans c2
      replace c3 := (hb2.cell (by simpa using hs1)).trans c3
      replace c4 := (hb2.cell (by simpa using hs1)).trans c4
      clear hb2 hb1' hs1
      go_wp2_with fail
      exact hR.out _ _ ⟨rfl, hb2'⟩
    obtain ⟨M, hM⟩ : ∃ M, M = N * B := ⟨_, rfl⟩
    have eM : (N : Int) * (B : Int) = (M : Int) := by rw [hM]; simp
    have hMb : M ≤ 10000 := by rw [hM]; exact Nat.mul_le_mul (show N ≤ 100 by omega) (show B ≤ 100 by omega)
    have eMw : IntKind.i64.wrap ((N : Int) * (B : Int)) = (M : Int) := by rw [eM, IntKind.wrap_i64]; omega
    have hN : N ≤ 100 := by omega
    have hB : B ≤ 100 := by omega
    have HM := hide hM
    clear hM eM h1 h2
    have h1b : decide (100 < N) = false := by simp; omega
    have h2b : decide (100 < B) = false := by simp; omega
    by_cases h3 : M < o.length + m
    · have h3' : (M : Int) < (o.length : Int) + (m : Int) := by omega
      go_enter Try.func6, Try.ntmps6
      go_wp2_with fail
      refine (speaks_calls _).mono ?_
      rintro e w1 ⟨rfl, hb1⟩
      obtain ⟨W, hW, hb, hs, ⟨c0, c1, c2, c3, c4⟩⟩ := box5 w N B Q E F 23
      rw [← hW] at hb1
      replace c0 := (hb1.cell (by simpa using hs)).trans c0
      replace c1 := (hb1.cell (by simpa using hs)).trans c1
      replace c2 := (hb1.cell (by simpa using hs)).trans c2
      replace c3 := (hb1.cell (by simpa using hs)).trans c3
      replace c4 := (hb1.cell (by simpa using hs)).trans c4
      have hb1' := hb.trans (hb1.mono hb.size)
      have hs1 := Nat.lt_of_lt_of_le hs hb1.size
      clear hW hb hb1 hs
      go_wp2_with fail
      refine (Hc.out _).mono ?_
      rintro e w2 ⟨rfl, hb2⟩
      have hb2' := hb1'.trans (hb2.mono hb1'.size)
      have hs2 := Nat.lt_of_lt_of_le hs1 hb2.size
      replace c0 := (hb2.cell (by simpa using hs1)).trans c0
      replace c1 := (hb2.cell (by simpa using hs1)).trans c1
      replace c2 := (hb2.cell (by simpa using hs1)).trans c2
      replace c3 := (hb2.cell (by simpa using hs1)).trans c3
      replace c4 := (hb2.cell (by simpa using hs1)).trans c4
      clear hb2 hb1' hs1
      go_wp2_with fail
      exact hR.out _ _ ⟨rfl, hb2'⟩
    · have h3b : ¬ (M : Int) < (o.length : Int) + (m : Int) := by omega
      have hsp := hide (fun w ho => split_rd N B Q E F A o c w Hmay.out hN hB (by rw [← HM.out]; omega) Hm.out hc ho)
      have hsp2 := hide (fun A c w h1 h2 ho => split_rd N B Q E F A (o ++ List.replicate m 0) c w Hmay.out hN hB (by rw [← HM.out, List.length_append, List.length_replicate]; omega) h1 h2 ho)
      rw [splitL_pad] at hsp2
      go_enter Try.func6, Try.ntmps6
      go_wp2_with fail
      refine (speaks_calls _).mono ?_
      rintro e w1 ⟨rfl, hb1⟩
      obtain ⟨W, hW, hb, hs, ⟨c0, c1, c2, c3, c4⟩⟩ := box5 w N B Q E F 23
      rw [← hW] at hb1
      replace c0 := (hb1.cell (by simpa using hs)).trans c0
      replace c1 := (hb1.cell (by simpa using hs)).trans c1
      replace c2 := (hb1.cell (by simpa using hs)).trans c2
      replace c3 := (hb1.cell (by simpa using hs)).trans c3
      replace c4 := (hb1.cell (by simpa using hs)).trans c4
      have hb1' := hb.trans (hb1.mono hb.size)
      have hs1 := Nat.lt_of_lt_of_le hs hb1.size
      clear hW hb hb1 hs
      go_wp2_with fail
      refine (Hc.out _).mono ?_
      rintro e w2 ⟨rfl, hb2⟩
      have hb2' := hb1'.trans (hb2.mono hb1'.size)
      have hs2 := Nat.lt_of_lt_of_le hs1 hb2.size
      replace c0 := (hb2.cell (by simpa using hs1)).trans c0
      replace c1 := (hb2.cell (by simpa using hs1)).trans c1
      replace c2 := (hb2.cell (by simpa using hs1)).trans c2
      replace c3 := (hb2.cell (by simpa using hs1)).trans c3
      replace c4 := (hb2.cell (by simpa using hs1)).trans c4
      clear hb2 hb1' hs1
      go_wp2_with fail
      refine (hsp.out w2 ((Ho.out.below hb2').mono fun k hk => Nat.lt_of_lt_of_le hk hb2'.size)).mono ?_
      rintro e w3 ⟨g, rfl, -, hrd, -, -, hb3⟩
      replace c0 := (hb3.cell (by simpa using hs2)).trans c0
      replace c1 := (hb3.cell (by simpa using hs2)).trans c1
      replace c2 := (hb3.cell (by simpa using hs2)).trans c2
      replace c3 := (hb3.cell (by simpa using hs2)).trans c3
      replace c4 := (hb3.cell (by simpa using hs2)).trans c4
      have hb3' := hide (hb2'.trans (hb3.mono hb2'.size))
      have hs3 := Nat.lt_of_lt_of_le hs2 hb3.size
      have Hrd := hide hrd
      clear hb3 hb2' hrd hs2
      go_wp2_with fail
      have hcs := hide (fun (y : World) (hy : Below w3.heap.size w3 y) => (⟨hide hy, (hy.cell (by simpa using hs3)).trans c0, (hy.cell (by simpa using hs3)).trans c1, (hy.cell (by simpa using hs3)).trans c2, (hy.cell (by simpa using hs3)).trans c3, (hy.cell (by simpa using hs3)).trans c4⟩ :
        Hid (Below w3.heap.size w3 y) ∧ y.cell? ⟨w.heap.size, 0, none⟩ = some (.int .i64 (N : Int)) ∧ y.cell? ⟨w.heap.size, 1, none⟩ = some (.int .i64 (B : Int)) ∧ y.cell? ⟨w.heap.size, 2, none⟩ = some (.int .i64 Q) ∧ y.cell? ⟨w.heap.size, 3, none⟩ = some (.int .i64 E) ∧ y.cell? ⟨w.heap.size, 4, none⟩ = some (.int .i64 F)))
      have hr0 := hide (Row.lit (w := w3.drew) (e := 5) [] (by simp))
      have hs0 := hide ((Ho.out.below (hb3'.out.trans (((Below.refl _ _).drew.alloc (Nat.le_refl _) (.cells #[] 5)).mono hb3'.out.size))).srcB)
      have hso := hide (encB_one o)
      obtain ⟨n2, hn2⟩ : ∃ n2, n2 = (o ++ List.replicate m 0).length := ⟨_, rfl⟩
      rw [← hn2] at hsp2
      have Hn2 := hide hn2
      clear hn2
      have lo := hide (show (o.map encB).length = o.length by simp)
      go_region_held_law (fun y => Hid (Below w3.heap.size w3 y) ∧ y.cell? ⟨w.heap.size, 0, none⟩ = some (.int .i64 (N : Int)) ∧ y.cell? ⟨w.heap.size, 1, none⟩ = some (.int .i64 (B : Int)) ∧ y.cell? ⟨w.heap.size, 2, none⟩ = some (.int .i64 Q) ∧ y.cell? ⟨w.heap.size, 3, none⟩ = some (.int .i64 E) ∧ y.cell? ⟨w.heap.size, 4, none⟩ = some (.int .i64 F))
        (exact hcs.out _ (Hid.out (by repeat (first | assumption | exact hide (Below.refl _ _) | refine held_alloc ?_ | refine held_drew ?_)))) (first
        | (rw [if_pos (by rfl)]
           refine op_app 53 rfl (.tmp 51) (.tmp 52) 24 rfl Try.underlying24 infoB rfl (us := []) (by rfl) hr0.out (A := A) (c := c) (news := o.map encB) (by rw [lo.out]; rfl) hs0.out hso.out (by rw [lo.out]; simp; omega) (by rw [lo.out]; simp [maxLen]; omega) ?_
           intro v6 w6 h6 g6 a6
           have hb6 : Hid (Below w3.heap.size w3 w6) := hide ((Ch.of_grown g6).below ((Below.refl _ _).drew.alloc (Nat.le_refl _) _) (by simp) (fun b hb => by simp [Value.ownBlock] at hb; omega))
           have ho6 : Hid (∀ b, v6.ownBlock = some b → w3.heap.size ≤ b) := hide (fun b hb => by
             rcases a6 with a6 | a6
             · rw [a6] at hb; simp [Value.ownBlock] at hb; omega
             · rw [a6] at hb; simp at hb; omega)
           have h6' := hide h6
           clear h6 g6 a6)
        | (rw [if_pos (by rfl)]
           refine op_app0 55 rfl (.tmp 53) (.tmp 54) 24 5 rfl Try.underlying24 Try.underlying5 infoB rfl (by decide) (v := v6) rfl h6'.out .u8 m rfl rfl (by rw [List.nil_append, lo.out]; omega) ?_
           intro v7 w7 h7 g7 a7
           have hb7 : Hid (Below w3.heap.size w3 w7) := hide ((Ch.of_grown g7).below hb6.out hb6.out.size (fun b hb => ho6.out b hb))
           have h7' : Hid (∃ A7 c7, v7 = .slice A7 n2 c7 ∧ n2 ≤ c7 ∧ c7 ≤ maxLen ∧ RdL Kd.byte (· < w7.heap.size) w7 A7 (o ++ List.replicate m 0)) := hide (by
             have e : [] ++ o.map encB ++ List.replicate m (.int .u8 0) = (o ++ List.replicate m 0).map encB := by rw [List.nil_append, List.map_append, List.map_replicate]; rfl
             rw [e] at h7
             obtain ⟨A7, c7, rfl, hc7, hm7⟩ := h7.shape
             rw [List.length_map, ← Hn2.out] at h7 hc7 ⊢
             exact ⟨A7, c7, rfl, hc7, hm7, h7.rd rfl _ (fun b hb => h7.lt hb) (fun x => ⟨_, rfl, rfl⟩)⟩)
           clear h7 g7 a7
           obtain ⟨A7, c7, rfl, hc7, hm7, hr7⟩ := h7'.out
           have hcall := hide (hsp2.out A7 c7 w7 hm7 hc7 hr7)
           clear h7' hr7)
        | (go_at_call 8
           refine hcall.out.mono ?_
           rintro e w8 ⟨g8, rfl, hor8, hrd8, hg8, hl8, hb8'⟩
           have hb8 : Hid (Below w3.heap.size w3 w8) := hide (hb7.out.trans (hb8'.mono hb7.out.size))
           have Hrd8 := hide hrd8
           clear hor8 hrd8 hb8'))
      have hrd38 := hide ((Hrd.out.below hb8.out).mono (S' := (· < w8.heap.size)) fun k hk => Nat.lt_of_lt_of_le hk hb8.out.size)
      have hsm := hide (by
        have := same_calls (some ⟨g, 0, none⟩) (splitL N B o) N (some ⟨g8, 0, none⟩) (splitL N B o) N w8 (by rw [splitL_len]; omega) (by rw [splitL_len]; omega) hrd38.out Hrd8.out
        rwa [splitL_len, decide_eq_true rfl] at this)
      have hb8' := hide (hb3'.out.trans (hb8.out.mono hb3'.out.size))
      have hs8 := Nat.lt_of_lt_of_le hs3 hb8.out.size
      replace c0 := (hb8.out.cell (by simpa using hs3)).trans c0
      replace c1 := (hb8.out.cell (by simpa using hs3)).trans c1
      clear c2 c3 c4 hcs hr0 hs0 hsp hsp2 hcall h6' ho6 hb6 hb7 Hrd8
      go_wp2_with fail
      refine hsm.out.mono ?_
      rintro e w9 ⟨rfl, hb9⟩
      have hb9' := hide (hb8'.out.trans (hb9.mono hb8'.out.size))
      replace c0 := (hb9.cell (by simpa using hs8)).trans c0
      replace c1 := (hb9.cell (by simpa using hs8)).trans c1
      have hrd9 := hide (hrd38.out.below hb9)
      clear hb9 hrd38 hsm
      go_wp2_with fail
      go_loop [80] (fun i => ∃ k : Nat, k ≤ N ∧ i = .int .i64 (k : Int)) (fun i => N - (intOf i).toNat)
      case atStart => exact ⟨0, Nat.zero_le _, rfl⟩
      case round =>
        obtain ⟨k, hk, rfl⟩ := hrel
        by_cases hlt : k < N
        · obtain ⟨b1, o1, u1, e1, hs1, hu1, hcl1⟩ := hrd9.out.at1 rfl (show k < (splitL N B o).length by rw [splitL_len]; exact hlt)
          injection e1 with e1
          injection e1 with e1 e2 _
          subst e1; subst e2
          obtain ⟨A1, cc1, rfl, hc1, hm1', hr1⟩ := Kd.sl_cell hu1
          have hek : (splitL N B o)[k]'(by rw [splitL_len]; exact hlt) = cutL o (k * B) B := by
            have h1 := splitL_get? N B o k
            rw [if_pos hlt, List.getElem?_eq_getElem (by rw [splitL_len]; exact hlt)] at h1
            injection h1
          rw [hek] at hc1 hr1 hcl1
          rw [cutL_len] at hc1 hcl1
          have Hr1 := hide hr1
          obtain ⟨p, hp⟩ : ∃ p, p = k * B := ⟨_, rfl⟩
          have hpb : p ≤ 100 * 100 := by rw [hp]; exact Nat.mul_le_mul (by omega) hB
          have ep : IntKind.i64.wrap ((k : Int) * (B : Int)) = (p : Int) := by rw [show (k : Int) * (B : Int) = (p : Int) by rw [hp]; simp, IntKind.wrap_i64]; omega
          rw [← hp] at Hr1
          clear hr1 hu1 hek hp
          rw [Nat.zero_add] at hcl1
          go_wp2_with fail
          go_loop [87] (fun i => ∃ j : Nat, j ≤ B ∧ i = .int .i64 (j : Int)) (fun i => B - (intOf i).toNat)
          case atStart => exact ⟨0, Nat.zero_le _, rfl⟩
          case round =>
            obtain ⟨j, hj, rfl⟩ := hrel
            by_cases hjl : j < B
            · obtain ⟨b2, o2, u2, rfl, hs2, hu2, hcl2⟩ := Hr1.out.at1 rfl (show j < (cutL o p B).length by rw [cutL_len]; exact hjl)
              obtain rfl := Kd.byte_cell hu2
              by_cases hpo : o.length ≤ p + j
              · rw [cutL_zero hjl hpo] at hcl2
                have hcl2' : w9.cell? ⟨b2, o2 + j, none⟩ = some (.int .u8 0) := hcl2
                have hq : (o.length : Int) ≤ (p : Int) + (j : Int) := by omega
                clear hcl2 hu2
                go_wp2_with fail
                go_round
                case rel => exact ⟨j + 1, by omega, by go_num⟩
                case measure => simp [intOf]; omega
              · have hq : (p : Int) + (j : Int) < (o.length : Int) := by omega
                clear hu2
                generalize ((cutL o p B)[j]'(by rw [cutL_len]; exact hjl)).toNat = xb at hcl2
                go_wp2_with fail
                go_round
                case rel => exact ⟨j + 1, by omega, by go_num⟩
                case measure => simp [intOf]; omega
            · obtain rfl : B = j := by omega
              go_wp2_with fail
              go_round
              case rel => exact ⟨k + 1, by omega, by go_num⟩
              case measure => simp [intOf]; omega
        · obtain rfl : N = k := by omega
          go_wp2_with fail
          exact hR.out _ _ ⟨rfl, hb9'.out⟩
end Go.Proofs.Ytkmnlelfofebfaa
