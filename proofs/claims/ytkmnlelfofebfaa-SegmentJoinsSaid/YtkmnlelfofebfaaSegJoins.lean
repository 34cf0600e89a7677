/- What blocks are, put together, is the document's. -/
import Derived.Test.YtkmnlelfofebfaaSegSpeaks
import Derived.Deep.Cut
import Derived.Deep.CutRange
import Derived.Deep.RegionHeldLaw
set_option linter.unusedVariables false
set_option linter.unusedSimpArgs false
namespace Go.Proofs.Ytkmnlelfofebfaa
open Go.RowKit

/-- The law's own question: do the blocks fit? -/
def rightB (N B len : Int) (n : Nat) : Bool := decide ((n : Int) = N) && (decide (0 ≤ len) && decide (len ≤ wrap64 (N * B)))
def allB (B : Int) (xss : List (List UInt8)) : Bool := xss.all fun b => decide ((b.length : Int) = B)
theorem allB_succ (B : Int) (xss : List (List UInt8)) (k : Nat) (hk : k < xss.length) : allB B (xss.take (k + 1)) = (allB B (xss.take k) && decide ((xss[k].length : Int) = B)) := by
  unfold allB
  rw [List.take_succ_eq_append_getElem hk, List.all_append]
  simp

theorem held_alloc {w x : World} {o : Obj} (h : Hid (Below w.heap.size w x)) : Hid (Below w.heap.size w (x.alloc o)) := hide (h.out.alloc h.out.size o)
theorem held_drew {w x : World} (h : Hid (Below w.heap.size w x)) : Hid (Below w.heap.size w x.drew) := hide h.out.drew
theorem right_iff' {N B : Nat} {len : Int} {xss : List (List UInt8)} (hN : N ≤ 1048576) (hB : B ≤ 65535) : ((rightB N B len xss.length && allB B xss) = true) ↔ (xss.length = N ∧ 0 ≤ len ∧ len ≤ (N : Int) * (B : Int) ∧ ∀ b ∈ xss, b.length = B) := by
  have h1 : N * B ≤ 1048576 * 65535 := Nat.mul_le_mul hN hB
  have e : wrap64 ((N : Int) * (B : Int)) = (N : Int) * (B : Int) := by
    rw [show (N : Int) * (B : Int) = ((N * B : Nat) : Int) by simp]
    exact IntWalk.wrap64_in _ ⟨by omega, by omega⟩
  simp only [rightB, allB, e, Bool.and_eq_true, decide_eq_true_eq, List.all_eq_true]
  constructor
  · rintro ⟨⟨a, b, c⟩, d⟩
    exact ⟨by omega, b, c, fun x hx => by have := d x hx; omega⟩
  · rintro ⟨a, b, c, d⟩
    exact ⟨⟨by omega, b, c⟩, fun x hx => by have := d x hx; omega⟩

set_option maxHeartbeats 4000000 in
theorem Joins_calls (N B Q E F len : Int) (A : Option Addr) (xss : List (List UInt8)) (c : Nat) (w : World) (hlen : len ≤ 9223372036854775807) (hm : c ≤ maxLen) (hc : xss.length ≤ c) (hA : RdL (Kd.sl Kd.byte) (· < w.heap.size) w A xss) :
    Calls Try.prog 4 #[pV N B Q E F, .int .i64 len, .slice A xss.length c] w fun e w' => e = .returned (.bool true) ∧ Below w.heap.size w w' := by
  refine cps fun R hR => ?_
  have HA := hide hA
  clear hA
  unfold maxLen at hm
  by_cases h1 : 100 < xss.length
  · 
    go_enter Try.func4, Try.ntmps4
    go_wp2_with fail
    refine (speaks_calls _).mono ?_
    rintro e w1 ⟨rfl, hb1⟩
    obtain ⟨W, hW, hb, hs, ⟨c0, c1, c2, c3, c4⟩⟩ := box5 w N B Q E F 23
    rw [← hW] at hb1
    replace c0 := (hb1.cell (by simpa using hs)).trans c0
    replace c1 := (hb1.cell (by simpa using hs)).trans c1
    replace c2 := (hb1.cell (by simpa using hs)).trans c2
    replace c3 := (hb1.cell (by simpa using hs)).trans c3
    replace c4 := (hb1.cell (by simpa using hs)).trans c4
    have hb1' := hb.trans (hb1.mono hb.size)
    have hs1 := Nat.lt_of_lt_of_le hs hb1.size
    clear hW hb hb1 hs
    go_wp2_with fail
    exact hR.out _ _ ⟨rfl, hb1'⟩
  have h1b : decide (100 < xss.length) = false := by simp; omega
  have hx : xss.length ≤ 100 := by omega
  clear h1
  go_enter Try.func4, Try.ntmps4
  go_wp2_with fail
  refine (speaks_calls _).mono ?_
  rintro e w1 ⟨rfl, hb1⟩
  obtain ⟨W, hW, hb, hs, ⟨c0, c1, c2, c3, c4⟩⟩ := box5 w N B Q E F 23
  rw [← hW] at hb1
  replace c0 := (hb1.cell (by simpa using hs)).trans c0
  replace c1 := (hb1.cell (by simpa using hs)).trans c1
  replace c2 := (hb1.cell (by simpa using hs)).trans c2
  replace c3 := (hb1.cell (by simpa using hs)).trans c3
  replace c4 := (hb1.cell (by simpa using hs)).trans c4
  have hb1' := hb.trans (hb1.mono hb.size)
  have hs1 := Nat.lt_of_lt_of_le hs hb1.size
  clear hW hb hb1 hs
  go_upto_region 5 with fail
  go_cut [7] from 17 to 34 (fun s7 wx => s7 = .bool (rightB N B len xss.length) ∧ wx = w1)
  case first =>
    rcases (by omega : ¬ (xss.length : Int) = N ∨ ((xss.length : Int) = N ∧ len < 0) ∨ ((xss.length : Int) = N ∧ 0 ≤ len)) with hr | ⟨hr, hr2⟩ | ⟨hr, hr2⟩
    · have hbq : ((xss.length : Int) == N) = false := by simpa using hr
      have hrb := hide (show rightB N B len xss.length = false by simp [rightB, hr])
      clear hr
      go_wp2_with fail
      go_meet
      exact ⟨by rw [hrb.out], rfl⟩
    · have hbq : ((xss.length : Int) == N) = true := by simpa using hr
      have hrb := hide (show rightB N B len xss.length = false by simp [rightB]; omega)
      clear hr
      go_wp2_with fail
      go_meet
      exact ⟨by rw [hrb.out], rfl⟩
    · have hbq : ((xss.length : Int) == N) = true := by simpa using hr
      have hrb := hide (show rightB N B len xss.length = decide (len ≤ wrap64 (N * B)) by simp [rightB, hr2, hr])
      clear hr
      go_wp2_with fail
      go_meet
      exact ⟨by rw [hrb.out], rfl⟩
  case rest =>
  obtain ⟨rfl, rfl⟩ := hcut
  have Hr0 := hide (rfl : rightB N B len xss.length = rightB N B len xss.length)
  generalize hr0 : rightB N B len xss.length = r0 at *
  have Hrb := hide hr0
  clear hr0 Hr0
  go_wp2_with fail
  go_loop [7, 37] (fun r i => ∃ k : Nat, k ≤ xss.length ∧ i = .int .i64 (k : Int) ∧ r = .bool (r0 && allB B (xss.take k)) ∧ (∀ b ∈ xss.take k, b.length ≤ 200)) (fun _ i => xss.length - (intOf i).toNat)
  case atStart => exact ⟨0, Nat.zero_le _, rfl, by simp [allB], by simp⟩
  case round =>
    obtain ⟨k, hk, rfl, rfl, hsm⟩ := hrel
    by_cases hlt : k < xss.length
    · have hbw := hide (HA.out.below hb1')
      obtain ⟨ba, oa, u, rfl, hs3, hu1, hcl1⟩ := hbw.out.at1 rfl hlt
      obtain ⟨A1, c1', rfl, hcc1, hm1, hr1⟩ := Kd.sl_cell hu1
      have hal := hide (allB_succ B xss k hlt)
      have Hsm := hide hsm
      clear hu1 hr1 hsm hs3
      by_cases h200 : 200 < xss[k].length
      · generalize xss[k].length = lk at h200 hcl1
        go_wp2_with fail
        exact hR.out _ _ ⟨rfl, hb1'⟩
      · have hsm' := hide (show ∀ b ∈ xss.take (k + 1), b.length ≤ 200 from fun b hb => by
          rw [List.take_succ_eq_append_getElem hlt] at hb
          rcases List.mem_append.1 hb with hb | hb
          · exact Hsm.out b hb
          · simp at hb; rw [hb]; omega)
        have h200' : decide (200 < xss[k].length) = false := by simp; omega
        generalize xss[k].length = lk at h200 h200' hcl1 hal
        generalize allB B (xss.take k) = ak at hal ⊢
        by_cases hlb : (lk : Int) = B
        · have q1 : ((lk : Int) == B) = true := by simpa using hlb
          have q2 := hide (show (r0 && (ak && decide ((lk : Int) = B))) = (r0 && ak) by rw [decide_eq_true hlb, Bool.and_true])
          clear hlb
          generalize (r0 && ak) = ra at q2 ⊢
          cases ra
          all_goals
            go_wp2_with fail
            go_round
            case rel => exact ⟨k + 1, by omega, by go_num, by rw [hal.out, q2.out], hsm'.out⟩
            case measure => simp [intOf]; omega
        · have q1 : ((lk : Int) == B) = false := by simpa using hlb
          have q2 := hide (show (r0 && (ak && decide ((lk : Int) = B))) = false by rw [decide_eq_false hlb, Bool.and_false, Bool.and_false])
          clear hlb
          generalize (r0 && ak) = ra at q2 ⊢
          cases ra
          all_goals
            go_wp2_with fail
            go_round
            case rel => exact ⟨k + 1, by omega, by go_num, by rw [hal.out, q2.out], hsm'.out⟩
            case measure => simp [intOf]; omega
    · obtain rfl : k = xss.length := by omega
      rw [List.take_length] at hsm ⊢
      have Hsm := hide hsm
      generalize hra : (r0 && allB B xss) = ra at *
      have Hra := hide hra
      clear hra hsm hlt
      cases hmay : mayB N B Q E F
      · have hjb := hide (fun w => join_bad N B Q E F len A xss.length c w hmay)
        have hmy := hide (by have := fun w => refmay_calls N B Q E F w; rwa [hmay] at this)
        clear hmay
        go_wp2_with fail
        refine (hjb.out _).mono ?_
        rintro e w2 ⟨rfl, hb2⟩
        replace c0 := (hb2.cell (by simpa using hs1)).trans c0
        replace c1 := (hb2.cell (by simpa using hs1)).trans c1
        replace c2 := (hb2.cell (by simpa using hs1)).trans c2
        replace c3 := (hb2.cell (by simpa using hs1)).trans c3
        replace c4 := (hb2.cell (by simpa using hs1)).trans c4
        have hb2' := hide (hb1'.trans (hb2.mono hb1'.size))
        clear hb2
        go_wp2_with fail
        refine (hmy.out _).mono ?_
        rintro e w3 ⟨rfl, hb3⟩
        have hb3' := hide (hb2'.out.trans (hb3.mono hb2'.out.size))
        clear hb3
        go_wp2_with fail
        exact hR.out _ _ ⟨rfl, hb3'.out⟩
      · have Hmay := hide hmay
        have hmy := hide (by have := fun w => refmay_calls N B Q E F w; rwa [hmay] at this)
        obtain ⟨hN1, hN2, hB1, hB2, -⟩ := may_bd hmay
        obtain ⟨N, rfl⟩ := Int.eq_ofNat_of_zero_le (show 0 ≤ N by omega)
        obtain ⟨B, rfl⟩ := Int.eq_ofNat_of_zero_le (show 0 ≤ B by omega)
        clear hmay
        have hjn := hide (fun w hA => join_calls N B Q E F len A xss c w Hmay.out (by omega) (fun b hb => Nat.le_trans (Hsm.out b hb) (by omega)) hlen hA)
        have hiff := hide (right_iff' (N := N) (B := B) (len := len) (xss := xss) (by omega) (by omega))
        rw [Hrb.out, Hra.out] at hiff
        have hAl := hide ((HA.out.below hb1').mono fun k hk => Nat.lt_of_lt_of_le hk hb1'.size)
        go_wp2_with fail
        refine (hjn.out _ hAl.out).mono ?_
        rintro e w2 ⟨hway, hb2⟩
        replace c0 := (hb2.cell (by simpa using hs1)).trans c0
        replace c1 := (hb2.cell (by simpa using hs1)).trans c1
        replace c2 := (hb2.cell (by simpa using hs1)).trans c2
        replace c3 := (hb2.cell (by simpa using hs1)).trans c3
        replace c4 := (hb2.cell (by simpa using hs1)).trans c4
        have hb2' := hide (hb1'.trans (hb2.mono hb1'.size))
        clear hb2
        rcases hway with ⟨v, rfl, hok, hrow, -⟩ | ⟨rfl, hno⟩
        · have hra := hiff.out.2 hok
          have hlen0 := hok.2.1
          obtain ⟨n, rfl⟩ := Int.eq_ofNat_of_zero_le hlen0
          rw [Int.toNat_natCast] at hrow
          clear hok
          subst hra
          have Hrow := hide hrow
          clear hrow
          go_wp2_with fail
          refine (hmy.out _).mono ?_
          rintro e w3 ⟨rfl, hb3⟩
          have hb3' := hide (hb2'.out.trans (hb3.mono hb2'.out.size))
          have hrow3 := Hrow.out.keep (w' := w3) fun k hk => hb3.block k (Hrow.out.lt hk)
          obtain ⟨Av, cv, rfl, hcv, hmv⟩ := hrow3.shape
          rw [List.length_map] at hrow3 ⊢
          have Hrow3 := hide hrow3
          clear hb3 hrow3 c0 c1 c2 c3 c4
          have hS := hide (fun (y : World) (hy : Below w3.heap.size w3 y) => run_str (P := Try.prog) (w := y) Try.underlying24 Try.underlying5 Try.underlying9 (Hrow3.out.keep (w' := y) fun k hk => hy.block k (Hrow3.out.lt hk)).src cv)
          have hrj := hide (fun (y : World) (hy : Below w3.heap.size w3 y) => refjoin_calls n A xss c y (by omega) (by omega) (fun b hb => Nat.le_trans (Hsm.out b hb) (by omega)) ((HA.out.below (hb3'.out.trans (hy.mono hb3'.out.size))).mono fun k hk => Nat.lt_of_lt_of_le hk (Nat.le_trans hb3'.out.size hy.size)))
          generalize (joinL n xss).length = nl at *
          generalize hst : bstr (joinL n xss) = str at *
          have Hst := hide hst
          clear hst
          have s0 := hS.out w3 (Below.refl _ _)
          go_wp2_with fail
          go_region_held (fun y => Hid (Below w3.heap.size w3 y) ∧ (convert 24 9 (.slice Av nl cv)).run Try.prog y = .ok (.string str) y)
            (exact ⟨hide (Hid.out (by repeat (first | assumption | exact hide (Below.refl _ _) | refine held_alloc ?_ | refine held_drew ?_))), hS.out _ (Hid.out (by repeat (first | assumption | exact hide (Below.refl _ _) | refine held_alloc ?_ | refine held_drew ?_)))⟩) (first
            | (go_at_call 13
               refine (hrj.out _ (Hid.out (by repeat (first | assumption | exact hide (Below.refl _ _) | refine held_alloc ?_ | refine held_drew ?_)))).mono ?_
               rintro e w9 ⟨v9, rfl, hrow9, hown9, hb9'⟩
               have hb9 : Hid (Below w3.heap.size w3 w9) := hide (Below.trans (Hid.out (by repeat (first | assumption | exact hide (Below.refl _ _) | refine held_alloc ?_ | refine held_drew ?_))) (hb9'.mono (Below.size (Hid.out (by repeat (first | assumption | exact hide (Below.refl _ _) | refine held_alloc ?_ | refine held_drew ?_))))))
               obtain ⟨A9, c9, rfl, -, -⟩ := hrow9.shape
               have t9 := run_str (P := Try.prog) (w := w9) Try.underlying24 Try.underlying5 Try.underlying9 hrow9.src c9
               rw [Hst.out] at t9
               clear hrow9 hown9))
          go_wp2_with fail
          exact hR.out _ _ ⟨rfl, hb3'.out.trans (hb9.out.mono hb3'.out.size)⟩
        · have hra : ra = false := by
            cases ra
            · rfl
            · exact absurd (hiff.out.1 rfl) hno
          subst hra
          clear hno
          go_wp2_with fail
          refine (hmy.out _).mono ?_
          rintro e w3 ⟨rfl, hb3⟩
          have hb3' := hide (hb2'.out.trans (hb3.mono hb2'.out.size))
          clear hb3
          go_wp2_with fail
          exact hR.out _ _ ⟨rfl, hb3'.out⟩
end Go.Proofs.Ytkmnlelfofebfaa
