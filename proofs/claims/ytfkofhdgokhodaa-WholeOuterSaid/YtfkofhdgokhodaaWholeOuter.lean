/- WholeOuter, walked. -/
import Derived.Test.YtfkofhdgokhodaaOut5
import Derived.Deep.RegionHeld
import Derived.BigQuiet
set_option linter.unusedVariables false
set_option linter.unusedSimpArgs false
namespace Go.Proofs.Ytfkofhdgokhodaa
open Go.RowKit Go.Maps

theorem eqn_at {b0 g : Nat} {c : Nat → Nat} {w : World} {vo vh : Value} {uo uh : List Value} {of : List (List Int)} {a j : Nat} (h : OG b0 c w g vo vh uo uh of (hasL of a)) (hj : j < a) (ha : a ≤ 1000) (ho : of.length ≤ 1000) :
    Calls Try.prog 8 #[.pointer (some ⟨g, 0, none⟩), .int .i64 (j : Int)] w fun e w' => ∃ A cp, e = .returned (.slice A (eqnF of j).length cp) ∧ RdL kInt (· < w'.heap.size) w' A (eqnF of j) ∧ (eqnF of j).length ≤ cp ∧ cp ≤ maxLen ∧ Below w.heap.size w w' :=
  (eqn_calls h (hasL_at of hj) (Nat.le_trans (hasF_len _ _) ho) (by rw [hasL_len]; omega) (by omega)).mono fun e w' ⟨v, h1, h2, h3, h4⟩ => by
    obtain ⟨A, cp, rfl, hc, hcm⟩ := h2.shape
    rw [show hasF of (j : Int) ++ [((of.length + j : Nat) : Int)] = eqnF of j from rfl] at h1 h2 h3 hc
    rw [List.length_map] at h1 h2 h3 hc
    refine ⟨A, cp, h1, row_ints h2 (fun x hx => ?_) fun k hk => h2.lt hk, hc, hcm, h4⟩
    rcases List.mem_append.1 hx with hx | hx
    · have := hasF_bd hx; exact WalkArith.wf_i64 (by omega)
    · rw [List.mem_singleton.1 hx]; exact WalkArith.wf_i64 (by omega)
theorem aux_60 {q n : Nat} {E : Int} (hn : n ≤ 60) (hn1 : 1 ≤ n) (hq1 : 1 ≤ q) (hq : q ≤ 8) (hE : 1 ≤ E) (hE2 : E ≤ 1000) : ∃ a : Nat, auxI (q : Int) E (n : Int) = (a : Int) ∧ a ≤ 1000 ∧ q ≤ a := by
  have h1 : 55 * (q : Int) * E ≤ 440 * 1000 := Int.mul_le_mul (by omega) hE2 (by omega) (by omega)
  have h3 : 55 * (q : Int) * E * (n : Int) ≤ 440000 * 60 := Int.mul_le_mul (by omega) (by omega) (by omega) (by omega)
  have hb := aux_bd (Q := (q : Int)) (E := E) (N := (n : Int)) (by omega) (by omega) (by omega) (by omega) hE hE2
  have hc : auxI (q : Int) E (n : Int) ≤ 1000 := by unfold auxI; split <;> omega
  exact ⟨(auxI (q : Int) E (n : Int)).toNat, by omega, by omega, by omega⟩
theorem row_rd {w : World} {A : Option Addr} {n c a : Nat} {l : List Int} (h : Row w 3 (.slice A n c) (l.map encI)) (ha : a ≤ 1000) (hb : ∀ x ∈ l, 0 ≤ x ∧ x < (a : Int)) : RdL kInt (· < w.heap.size) w A l :=
  row_ints h (fun x hx => by have := hb x hx; exact WalkArith.wf_i64 (by omega)) fun k hk => h.lt hk
set_option maxHeartbeats 4000000 in
set_option maxRecDepth 100000 in
theorem Outer_calls (N B Q E F : Int) (s : UInt64) (w : World) :
    Calls Try.prog 3 #[pV N B Q E F, .int .u64 (s.toNat : Int)] w fun e w' => e = .returned (.bool true) ∧ Below w.heap.size w w' := by
  refine cps fun R hR => ?_
  obtain ⟨W, hW, hb, hs, d0, d1, d2, d3, d4⟩ := box5 w N B Q E F 23
  obtain ⟨b, hbq⟩ : ∃ b, b = w.heap.size := ⟨_, rfl⟩
  have HW := hide hW
  have Hbq := hide hbq
  have Hb := hide hb
  have hcells := hide (show ∀ x, Below W.heap.size W x → x.cell? ⟨b, 0, none⟩ = some (.int .i64 N) ∧ x.cell? ⟨b, 1, none⟩ = some (.int .i64 B) ∧ x.cell? ⟨b, 2, none⟩ = some (.int .i64 Q) ∧ x.cell? ⟨b, 3, none⟩ = some (.int .i64 E) ∧ x.cell? ⟨b, 4, none⟩ = some (.int .i64 F) from fun x hx => by
    rw [hbq]
    exact ⟨later_cell d0 ⟨x, hx⟩, later_cell d1 ⟨x, hx⟩, later_cell d2 ⟨x, hx⟩, later_cell d3 ⟨x, hx⟩, later_cell d4 ⟨x, hx⟩⟩)
  have h0 := hide (onew_calls 1 1 1 1000 2 7 1 1 1 W (by decide) rfl rfl (by decide) (by decide) (by decide) (by decide))
  rw [show (((7 : UInt64).toNat : Nat) : Int) = 7 from rfl] at h0
  clear d0 d1 d2 d3 d4 hW hb hbq
  go_enter Try.func3, Try.ntmps3
  go_upto_region 1 with fail
  rw [← HW.out, ← Hbq.out]
  clear HW
  go_wp2_with fail
  refine h0.out.mono ?_
  rintro _ w1 ⟨g1, c1, vo1, vh1, uo1, uh1, rfl, hO1, hb1⟩
  have heq := hide (eqn_at hO1 (j := 0) (by decide) (by decide) (by rw [ofL_len]; decide))
  have hln : (eqnF (ofL 1 1 7 1) 0).length = 2 := by
    have h1 := plF_ofL (a := 1) (q := 1) (by decide) 7 1
    rw [show (1 : Nat) = 0 + 1 from rfl, plF_succ] at h1
    rw [eqnF_len]
    have h2 : plF (ofL (0 + 1) (0 + 1) 7 (0 + 1)) 0 = 0 := rfl
    rw [h2] at h1
    have h3 : (hasF (ofL 1 1 7 1) ((0 : Nat) : Int)).length + 1 = 2 := by simpa using h1
    exact h3
  rw [hln] at heq
  have B1 := hide hb1
  clear hln hO1 hb1 h0
  go_wp2_with fail
  refine heq.out.mono ?_
  rintro _ w2 ⟨A2, cp2, rfl, -, -, -, hb2⟩
  have B2 := hide (below_step B1.out B1.out.size hb2)
  obtain ⟨k0, k1, k2, k3, k4⟩ := hcells.out w2 B2.out
  have hry := hide (refmay_calls N B Q E F w2)
  clear hb2 heq B1
  go_wp2_with fail
  refine hry.out.mono ?_
  rintro _ w3 ⟨rfl, hb3⟩
  have B3 := hide (below_step B2.out B2.out.size hb3)
  clear k0 k1 k2 k3 k4 hb3 hry B2
  obtain ⟨k0, k1, k2, k3, k4⟩ := hcells.out w3 B3.out
  have hfin := hide (below_step Hb.out Hb.out.size B3.out)
  by_cases hm : mayB N B Q E F = true
  · have hbd := may_bd hm
    obtain ⟨n, rfl⟩ := Int.eq_ofNat_of_zero_le (show 0 ≤ N by omega)
    obtain ⟨q, rfl⟩ := Int.eq_ofNat_of_zero_le (show 0 ≤ Q by omega)
    rw [hm]
    by_cases hn : n ≤ 60
    · obtain ⟨a, ha, ha9, hqa⟩ := aux_60 (q := q) (n := n) (E := E) hn (by omega) (by omega) (by omega) (by omega) (by omega)
      have hN := hide (onew_calls (n : Int) B (q : Int) E F s n q a w3 hm rfl rfl ha hn ha9 hqa)
      have t1 : decide ((60 : Int) < (n : Int)) = false := by simp; omega
      have hq8 : q ≤ 8 := by omega
      clear hm hbd ha hfin
      go_wp2_with fail
      refine hN.out.mono ?_
      rintro _ w4 ⟨g, c, vo, vh, uo, uh, rfl, hO4, hb4⟩
      have HO4 := hide hO4
      have B4 := hide (below_step B3.out B3.out.size hb4)
      clear hO4 hb4 hN k0 k1 k2 k3 k4 t1
      obtain ⟨k0, k1, k2, k3, k4⟩ := hcells.out w4 B4.out
      clear k1 k3 k4
      go_wp2_with fail
      go_loopw [53] (fun iv wr => ∃ i : Nat, i ≤ n ∧ iv = .int .i64 (i : Int) ∧ Below w4.heap.size w4 wr) (fun iv _ => n - (intOf iv).toNat)
      case atStart => exact ⟨0, Nat.zero_le _, rfl, Below.refl _ _⟩
      case round =>
        clear k0 k2
        obtain ⟨i, hi, rfl, hbw⟩ := hrel
        by_cases hlt : i < n
        · have t1 : decide ((i : Int) < (n : Int)) = true := by simp; omega
          obtain ⟨-, -, k2, -, -⟩ := hcells.out wr (below_step B4.out B4.out.size hbw)
          have K2 := hide k2
          have hwi : IntKind.u64.wrap (i : Int) = (i : Int) := by rw [IntKind.wrap_u64]; omega
          have HOw := hide (HO4.out.below hbw)
          have hau := hide (show ∀ y, Below wr.heap.size wr y → Calls Try.prog 12 #[.pointer (some ⟨g, 0, none⟩)] y fun e w' => e = .returned (.int .i64 (a : Int)) ∧ y = w' from fun y hy => by
            have := oaux_calls (HOw.out.below hy)
            rw [hasL_len] at this
            exact this)
          have Bw := hide hbw
          have HB0 : Hid (Below wr.heap.size wr wr) := hide (Below.refl _ _)
          clear hbw
          go_upto_region 13 with fail
          go_region_held (fun y => y.cell? ⟨b, 2, none⟩ = some (.int .i64 (q : Int))) (first | assumption | exact held_cell9 K2 (by repeat (first | assumption | refine held_alloc9 ?_ | refine held_drew9 ?_))) (first
            | (go_at_call 11
               refine (new3 s i (by omega) wr _ (by first | exact (Below.refl _ _).drew | exact Below.refl _ _)).mono ?_
               rintro _ w7 ⟨gr, rfl, hgr, hra, hb7⟩
               have HB7 := hide hb7
               have Hra := hide hra
               have Hgr := hide hgr
               clear hb7 hra hgr)
            | (go_at_call 12
               refine (hau.out _ (Hid.out (by repeat (first | assumption | refine held_alloc9 ?_ | refine held_drew9 ?_)))).mono ?_
               rintro _ w77 ⟨rfl, rfl⟩)
            | (go_at_call 10
               refine (some3 (w := wr) (by omega) hqa HB7.out Hgr.out Hra.out).mono ?_
               rintro _ w8 ⟨v, rfl, hv, hvz, hb8⟩
               have HB8 := hide hb8
               have Hv := hide hv
               clear hb8 hv hvz))
          all_goals
            clear k2 K2 HB7 Hra Hgr HB0 hwi hau
            have Bw8 := hide (below_step Bw.out Bw.out.size HB8.out)
            obtain ⟨l, hl⟩ : ∃ l, l = someL a q (seedF [s, 1, UInt64.ofNat i]) := ⟨_, rfl⟩
            have hll : l.length = q := by rw [hl, someL_len]
            have hlb : ∀ x ∈ l, 0 ≤ x ∧ x < (a : Int) := fun x hx => someL_bd hqa _ (by rw [← hl]; exact hx)
            have hat : (ofL a q s n)[i]? = some l := by rw [hl]; exact ofL_at a q s hlt
            rw [← hl] at Hv
            have hof := hide (of_calls (HO4.out.below Bw8.out) hat (by omega) (by rw [ofL_len]; omega))
            obtain ⟨Av, cv, rfl, hcv, hcvm⟩ := Hv.out.shape
            rw [List.length_map, hll] at Hv hcv ⊢
            have HL := hide (And.intro hll (And.intro hlb hat))
            have Hcv := hide (And.intro hcv hcvm)
            clear hl hll hlb hat hcv hcvm HB8 HOw Bw
            go_wp2_with fail
            refine hof.out.mono ?_
            rintro _ w9 ⟨v2, rfl, r2, -, b9⟩
            obtain ⟨A2, c2, rfl, h21, h22⟩ := r2.shape
            rw [List.length_map, HL.out.1] at r2 h21 ⊢
            have Bw9 := hide (below_step Bw8.out Bw8.out.size b9)
            have Hv9 := hide (Hv.out.keep fun z hz => b9.block z (Hv.out.lt hz))
            have hsm := hide (same_calls A2 l c2 Av l cv (· < w9.heap.size) w9 h22 (by rw [HL.out.1]; exact h21) (row_rd r2 ha9 HL.out.2.1) Hcv.out.2 (by rw [HL.out.1]; exact Hcv.out.1) (row_rd Hv9.out ha9 HL.out.2.1) (fun k hk => hk))
            rw [HL.out.1, sameN_yes] at hsm
            clear r2 h21 h22 b9 hof Hv Bw8
            go_wp2_with fail
            refine hsm.out.mono ?_
            rintro _ w10 ⟨rfl, b10⟩
            have Bw10 := hide (below_step Bw9.out Bw9.out.size b10)
            have Hv10 := hide (Hv9.out.keep fun z hz => b10.block z (Hv9.out.lt hz))
            clear b10 hsm Hv9 Bw9
            go_wp2_with fail
            go_loopw [74] (fun tv wx => ∃ t : Nat, t ≤ q ∧ tv = .int .i64 (t : Int) ∧ Below w10.heap.size w10 wx) (fun tv _ => q - (intOf tv).toNat)
            case atStart => exact ⟨0, Nat.zero_le _, rfl, Below.refl _ _⟩
            case round =>
              obtain ⟨t, ht, rfl, hbx⟩ := hrel
              by_cases hlt2 : t < q
              · have t2 : decide ((t : Int) < (q : Int)) = true := by simp; omega
                have htl : t < l.length := by rw [HL.out.1]; exact hlt2
                obtain ⟨j, hj⟩ : ∃ j : Nat, l[t] = (j : Int) := ⟨(l[t]).toNat, by have := (HL.out.2.1 _ (List.getElem_mem htl)).1; omega⟩
                have hja : j < a := by have := (HL.out.2.1 _ (List.getElem_mem htl)).2; omega
                have hjl : (j : Int) ∈ l := by rw [← hj]; exact List.getElem_mem htl
                have hme : ((i : Nat) : Int) ∈ eqnF (ofL a q s n) j := List.mem_append_left _ (hasF_mem.2 ⟨by rw [ofL_len]; exact hlt, by rw [HL.out.2.2]; exact hjl⟩)
                obtain ⟨zv, cv', ev, cc, -, -, -⟩ := (Hv10.out.keep fun z hz => hbx.block z (Hv10.out.lt hz)).set (i := t) (by rw [List.length_map]; exact htl) (Value.bool true)
                rw [List.getElem_map, hj, show encI (j : Int) = Value.int .i64 (j : Int) from rfl] at cc
                injection ev with ev ev2 ev3
                subst ev
                clear ev2 ev3
                have Bx := hide (below_step Bw10.out Bw10.out.size hbx)
                have Hbx := hide hbx
                have heq2 := hide (eqn_at (HO4.out.below Bx.out) hja ha9 (by rw [ofL_len]; omega))
                have hel : (eqnF (ofL a q s n) j).length ≤ 1000 := by rw [eqnF_len]; have := hasF_len (ofL a q s n) (j : Int); rw [ofL_len] at this; omega
                obtain ⟨es, hes⟩ : ∃ es, es = eqnF (ofL a q s n) j := ⟨_, rfl⟩
                have hes1 := hide (show es.Pairwise (· < ·) by rw [hes]; exact eqnF_lt _ _)
                rw [← hes] at heq2 hel hme
                obtain ⟨le, hle⟩ : ∃ le, le = es.length := ⟨_, rfl⟩
                have Hle := hide hle
                have Hme := hide hme
                have Hel := hide hel
                rw [← hle] at heq2
                have i1 : (0 : Int) ≤ (t : Int) := by omega
                have i2 : (t : Int) < (q : Int) := by omega
                clear hbx htl hj hjl hes hle hme hel
                go_wp2_with fail
                refine heq2.out.mono ?_
                rintro _ w11 ⟨A3, c3, rfl, r3, h31, h32, b11⟩
                have hhs := hide (shas_calls A3 es c3 (i : Int) _ w11 h32 (by rw [← Hle.out]; exact h31) (by have := Hel.out; omega) r3 hes1.out)
                rw [decide_eq_true Hme.out, ← Hle.out] at hhs
                have B11 := hide (below_step Hbx.out Hbx.out.size b11)
                clear r3 h31 h32 b11 heq2
                go_wp2_with fail
                refine hhs.out.mono ?_
                rintro _ w12 ⟨rfl, rfl⟩
                clear hhs
                go_wp2_with fail
                exact ⟨⟨t + 1, by omega, rfl, B11.out⟩, by simp only [intOf]; omega⟩
              · have t2 : decide ((t : Int) < (q : Int)) = false := by simp; omega
                have Bx := hide (below_step Bw10.out Bw10.out.size hbx)
                clear hbx
                go_wp2_with fail
                exact ⟨⟨i + 1, by omega, rfl, Bx.out⟩, by simp only [intOf]; omega⟩
        · have t1 : decide ((i : Int) < (n : Int)) = false := by simp; omega
          have Bw := hide hbw
          have hau := hide (oaux_calls (HO4.out.below hbw))
          rw [hasL_len] at hau
          have hp0 : plF (ofL a q s n) 0 = 0 := rfl
          have Hp0 := hide hp0
          clear hbw hp0
          go_wp2_with fail
          refine hau.out.mono ?_
          rintro _ w13 ⟨rfl, rfl⟩
          clear hau
          go_wp2_with fail
          go_loopw [7, 88] (fun pv jv wx => ∃ j : Nat, j ≤ a ∧ jv = .int .i64 (j : Int) ∧ pv = .int .i64 (plF (ofL a q s n) j : Int) ∧ Below w4.heap.size w4 wx) (fun _ jv _ => a - (intOf jv).toNat)
          case atStart => exact ⟨0, Nat.zero_le _, rfl, by rw [Hp0.out]; rfl, Bw.out⟩
          case round =>
            obtain ⟨j, hj, rfl, rfl, hbx⟩ := hrel
            have hpb : plF (ofL a q s n) j ≤ 61000 := by
              have h1 := plF_bd (ofL a q s n) j
              rw [ofL_len] at h1
              have h2 : j * (n + 1) ≤ 1000 * 61 := Nat.mul_le_mul (by omega) (by omega)
              omega
            by_cases hlt2 : j < a
            · have t2 : decide ((j : Int) < (a : Int)) = true := by simp; omega
              have hps := hide (plF_succ (ofL a q s n) j)
              have hpm := hide (show plF (ofL a q s n) (j + 1) = plF (ofL a q s n) j + (eqnF (ofL a q s n) j).length by rw [plF_succ, eqnF_len])
              have heq2 := hide (eqn_at (HO4.out.below hbx) hlt2 ha9 (by rw [ofL_len]; omega))
              have hel : (eqnF (ofL a q s n) j).length ≤ 1000 := by rw [eqnF_len]; have := hasF_len (ofL a q s n) (j : Int); rw [ofL_len] at this; omega
              have hme : (n : Int) + (j : Int) ∈ eqnF (ofL a q s n) j := List.mem_append_right _ (by rw [ofL_len, List.mem_singleton]; omega)
              obtain ⟨es, hes⟩ : ∃ es, es = eqnF (ofL a q s n) j := ⟨_, rfl⟩
              have hes1 := hide (show es.Pairwise (· < ·) by rw [hes]; exact eqnF_lt _ _)
              rw [← hes] at heq2 hel hme hpm
              obtain ⟨le, hle⟩ : ∃ le, le = es.length := ⟨_, rfl⟩
              obtain ⟨pj, hpj⟩ : ∃ pj, pj = plF (ofL a q s n) j := ⟨_, rfl⟩
              rw [← hpj] at hpm hpb ⊢
              have Hle := hide hle
              have Hme := hide hme
              have Hel := hide hel
              rw [← hle] at heq2 hpm hel
              obtain ⟨k0, -, -, -, -⟩ := hcells.out wr (below_step B4.out B4.out.size hbx)
              have K0 := hide k0
              have Hbx := hide hbx
              clear hbx hes hle hme hpj hps
              go_wp2_with fail
              refine heq2.out.mono ?_
              rintro _ w11 ⟨A3, c3, rfl, r3, h31, h32, b11⟩
              have k0' := held_cell9 K0 (hide b11)
              have hhs := hide (shas_calls A3 es c3 ((n : Int) + (j : Int)) _ w11 h32 (by rw [← Hle.out]; exact h31) (by have := Hel.out; omega) r3 hes1.out)
              rw [decide_eq_true Hme.out, ← Hle.out] at hhs
              have B11 := hide (below_step Hbx.out Hbx.out.size b11)
              clear r3 h31 h32 b11 heq2 k0
              go_wp2_with fail
              refine hhs.out.mono ?_
              rintro _ w12 ⟨rfl, rfl⟩
              clear hhs k0'
              go_wp2_with fail
              exact ⟨⟨j + 1, by omega, rfl, by rw [hpm.out]; rfl, B11.out⟩, by simp only [intOf]; omega⟩
            · have t2 : decide ((j : Int) < (a : Int)) = false := by simp; omega
              have hja : j = a := by omega
              rw [hja, plF_ofL hqa]
              obtain ⟨m, hmq⟩ : ∃ m, m = n * q := ⟨_, rfl⟩
              have hm9 : m ≤ 60 * 8 := by rw [hmq]; exact Nat.mul_le_mul hn hq8
              obtain ⟨pa, hpa⟩ : ∃ pa, pa = m + a := ⟨_, rfl⟩
              rw [← hmq, ← hpa]
              have hw1 : IntKind.i64.wrap ((n : Int) * (q : Int)) = (m : Int) := by rw [← Int.natCast_mul, ← hmq, IntKind.wrap_i64]; omega
              have hw2 : IntKind.i64.wrap ((m : Int) + (a : Int)) = (pa : Int) := by rw [IntKind.wrap_i64]; omega
              obtain ⟨k0, -, k2, -, -⟩ := hcells.out wr (below_step B4.out B4.out.size hbx)
              have c0 := fun x : Later wr => later_cell k0 x
              have c2 := fun x : Later wr => later_cell k2 x
              have HOx := hide (HO4.out.below hbx)
              have hau := hide (show ∀ x : Later wr, Calls Try.prog 12 #[.pointer (some ⟨g, 0, none⟩)] x.v fun e w' => e = .returned (.int .i64 (a : Int)) ∧ Below x.v.heap.size x.v w' from fun x => by
                have := oaux_calls (HOx.out.below x.below)
                rw [hasL_len] at this
                exact this.mono fun e w' ⟨h1, h2⟩ => ⟨h1, h2 ▸ Below.refl _ _⟩)
              have hfin2 := hide (below_step Hb.out Hb.out.size (below_step B4.out B4.out.size hbx))
              clear hja k0 k2 hbx hmq hpa hpb hlt2 hj
              go_upto_region 31 with fail
              refine wp_region_later (by kernel_rfl) (by kernel_rfl) ?_
              repeat (go_big_quiet_step ((go_at_call 12; exact later_call (hau.out _))))
              refine wpQuiet_nil ?_
              intro _ hw'
              obtain ⟨⟨w14, hb14⟩, rfl⟩ := hw'
              go_wp2_with fail
              exact hR.out _ _ ⟨rfl, hfin2.out.trans (hb14.mono hfin2.out.size)⟩
    · have t1 : decide ((60 : Int) < (n : Int)) = true := by simp; omega
      clear hm hbd
      go_wp2_with fail
      exact hR.out _ _ ⟨rfl, hfin.out⟩
  · rw [Bool.not_eq_true] at hm
    rw [hm]
    clear hm
    go_wp2_with fail
    exact hR.out _ _ ⟨rfl, hfin.out⟩
end Go.Proofs.Ytfkofhdgokhodaa
