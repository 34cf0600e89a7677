/- WholeLimits, walked. -/
import Derived.Test.YtopfpadfjfmmiaaFrameOrder
import Derived.Laws.StructEq
import Derived.Deep.Cut
import Derived.Deep.CutRange
set_option linter.unusedVariables false
set_option linter.unusedSimpArgs false
namespace Go.Proofs.Ytopfpadfjfmmiaa
open Go.RowKit

theorem run_mx0 (P : Program) (w : World) (ts : Array TypeId) (t : TypeId) (a : Int) : (Builtin.max_ ts t #[.int .i64 a, .int .i64 0]).run P w = .ok (.int .i64 (a.toNat : Int)) w := by
  simp [Builtin.max_, Builtin.max2]
  omega
theorem run_mn3000 (P : Program) (w : World) (ts : Array TypeId) (t : TypeId) (a : Nat) : (Builtin.min_ ts t #[.int .i64 (a : Int), .int .i64 3000]).run P w = .ok (.int .i64 ((min a 3000 : Nat) : Int)) w := by
  have e : ((min a 3000 : Nat) : Int) = if (3000 : Int) < (a : Int) then 3000 else (a : Int) := by
    split
    all_goals omega
  rw [e]
  simp [Builtin.min_, Builtin.min2]
theorem mk_bytes (n : Nat) (hn : n ≤ 281474976710656) (w : World) : (Instr.makeSlice 22 (.int .i64 (n : Int)) (.int .i64 (n : Int))).run Try.prog w = .ok (.slice (some ⟨w.heap.size, 0, none⟩) n n) (w.alloc (.cells (madeCells #[.int .u8 0] n) 5)) :=
  run_make_row' 22 5 (.int .u8 0) 1 Try.underlying22 infoB rfl .i64 .i64 n (by omega) (by omega) w
theorem mcells (n : Nat) : madeCells #[.int .u8 0] n = ((List.replicate n (0 : UInt8)).map encB).toArray := by
  rw [List.map_replicate, ← Array.toList_inj, toList_madeCells_one]; rfl
theorem wr_made (w : World) (n : Nat) : Wr (w.alloc (.cells (madeCells #[.int .u8 0] n) 5)) (some ⟨w.heap.size, 0, none⟩) w.heap.size [] [] 5 (List.replicate n (0 : UInt8)) := fun hp => by
  refine ⟨rfl, ?_⟩
  have e : madeCells #[.int .u8 0] n = ((List.replicate n (0 : UInt8)).map encB).toArray := mcells n
  rw [heap_alloc_new, e]; simp
theorem arg_header {H : Type} {enc : TypeId × Value → H} {W : World} {base : Nat} {spare : Nat → Bool} {held : Bool} {r : Reach} {b0 : Nat} {v : Value} {y : DataW H} {ps : List MemPlace} (hv : Value.okWide Try.prog W r b0 30 v) (h : DataW.Trod enc Try.prog W base spare held 30 v y ps) :
    ∃ (se id : UInt64) (N B Q E F len : Int), v = .agg #[.int .u64 (se.toNat : Int), .int .i64 N, .int .i64 B, .int .i64 Q, .int .i64 E, .int .i64 F, .int .i64 len, .int .u64 (id.toNat : Int)] := by
  obtain ⟨a, cs, rfl, R⟩ := arg_struct Try.underlying30 opnHeader hv h
  obtain ⟨se, ⟨N, B, Q, E, F⟩, len, id⟩ := a
  obtain ⟨_, _, rfl, ⟨_, rfl, rfl⟩, _, _, rfl, ⟨_, _, rfl, ⟨_, rfl, rfl, wN⟩, _, _, rfl, ⟨_, rfl, rfl, wB⟩, _, _, rfl, ⟨_, rfl, rfl, wQ⟩, _, _, rfl, ⟨_, rfl, rfl, wE⟩, _, rfl, rfl, wF⟩, _, _, rfl, ⟨_, rfl, rfl, wL⟩, _, rfl, rfl⟩ := R
  exact ⟨se, id, N, B, Q, E, F, len, rfl⟩
theorem box8 (w : World) (v0 v1 v2 v3 v4 v5 v6 v7 : Value) (t : TypeId) : ∃ W, W = w.alloc (.cells #[v0, v1, v2, v3, v4, v5, v6, v7] t) ∧ Below w.heap.size w W ∧ W.heap.size = w.heap.size + 1 ∧ W.heap[w.heap.size]? = some (.cells #[v0, v1, v2, v3, v4, v5, v6, v7] t (0, 0)) :=
  ⟨_, rfl, balloc w _, by simp, heap_alloc_new w _⟩
theorem cells8 {w : World} {g : Nat} {t : TypeId} {v0 v1 v2 v3 v4 v5 v6 v7 : Value} (h : w.heap[g]? = some (.cells #[v0, v1, v2, v3, v4, v5, v6, v7] t (0, 0))) :
    w.cell? ⟨g, 0, none⟩ = some v0 ∧ w.cell? ⟨g, 1, none⟩ = some v1 ∧ w.cell? ⟨g, 2, none⟩ = some v2 ∧ w.cell? ⟨g, 3, none⟩ = some v3 ∧ w.cell? ⟨g, 4, none⟩ = some v4 ∧ w.cell? ⟨g, 5, none⟩ = some v5 ∧ w.cell? ⟨g, 6, none⟩ = some v6 ∧ w.cell? ⟨g, 7, none⟩ = some v7 := by
  refine ⟨?_, ?_, ?_, ?_, ?_, ?_, ?_, ?_⟩ <;> rw [cell_of_row w g _ _ t (0, 0) h] <;> rfl
/-- What region 13 asks: May, Most and the length. -/
def MayRun (N B Q E F len : Int) (may : Bool) : Prop :=
  ∃ (mb l0 l1 : Bool) (M : Int), mayB N B Q E F = mb ∧ (mb = true → decide (0 ≤ len) = l0) ∧ (mb = true → l0 = true → decide (len ≤ M) = l1 ∧ ∀ w, Calls Try.prog 21 #[pV N B Q E F] w fun e w' => e = .returned (.int .i64 M) ∧ Below w.heap.size w w') ∧
    ((mb = false ∧ may = false) ∨ (mb = true ∧ l0 = false ∧ may = false) ∨ (mb = true ∧ l0 = true ∧ may = l1))
theorem may_run (N B Q E F len : Int) : MayRun N B Q E F len (mayH N B Q E F len) := by
  cases hm : mayB N B Q E F
  · exact ⟨false, false, false, 0, hm, by simp, by simp, .inl ⟨rfl, by simp [mayH, hm]⟩⟩
  · have hb := may_bd hm
    cases h0 : decide (0 ≤ len)
    · exact ⟨true, false, false, 0, hm, fun _ => h0, by simp, .inr (.inl ⟨rfl, rfl, by simp [mayH, hm, h0]⟩)⟩
    · exact ⟨true, true, decide (len ≤ N * B), N * B, hm, fun _ => h0, fun _ _ => ⟨rfl, fun w => most_calls N B Q E F w (by omega) (by omega) (by omega) (by omega)⟩, .inr (.inr ⟨rfl, rfl, by simp [mayH, hm, h0]⟩)⟩
set_option maxRecDepth 100000 in
set_option maxHeartbeats 2000000 in
theorem Limits_calls (se id : UInt64) (N B Q E F len : Int) (fill : UInt8) (w : World) :
    Calls Try.prog 8 #[.agg #[.int .u64 (se.toNat : Int), .int .i64 N, .int .i64 B, .int .i64 Q, .int .i64 E, .int .i64 F, .int .i64 len, .int .u64 (id.toNat : Int)], .int .u8 (fill.toNat : Int)] w fun e w' => e = .returned (.bool true) ∧ Below w.heap.size w w' := by
  refine cps fun R hR => ?_
  obtain ⟨W, hW, hbW, hWs, hWh⟩ := box8 w (.int .u64 (se.toNat : Int)) (.int .i64 N) (.int .i64 B) (.int .i64 Q) (.int .i64 E) (.int .i64 F) (.int .i64 len) (.int .u64 (id.toNat : Int)) 30
  have HW := hide hW
  have HWh := hide hWh
  clear hW hWh
  have hck := hide (fun w => (show Calls Try.prog 19 #[.agg #[.int .i64 1048576, .int .i64 65535, .int .i64 8, .int .i64 1000, .int .i64 4096]] w fun e w' => e = .returned (.int .i64 0) ∧ Below w.heap.size w w' from check_calls 1048576 65535 8 1000 4096 w))
  by_cases hearly : 3000 < B ∧ B ≤ 65535
  · obtain ⟨e1, e2⟩ := hearly
    go_enter Try.func8, Try.ntmps8
    go_wp2_with fail
    rw [← HW.out]
    refine (fnew_calls W).mono ?_
    rintro e w3 ⟨g, gt, rfl, -, -, hb3, -, -, -, -⟩
    go_wp2_with fail
    refine (hck.out _).mono ?_
    rintro e w4 ⟨rfl, hb4⟩
    have b4 := hb3.trans (hb4.mono hb3.size)
    have Hh4 := hide ((b4.block w.heap.size (by omega)).trans HWh.out)
    obtain ⟨c0, c1, c2, c3, c4, c5, c6, c7⟩ := cells8 Hh4.out
    go_wp2_with fail
    exact hR.out _ _ ⟨rfl, hbW.trans (b4.mono hbW.size)⟩
  obtain ⟨p, hp⟩ : ∃ p, p = min B.toNat 3000 := ⟨_, rfl⟩
  have hmx := fun w ts t => run_mx0 Try.prog w ts t B
  have hmn := fun w ts t => run_mn3000 Try.prog w ts t B.toNat
  rw [← hp] at hmn
  have hmk := fun w => mk_bytes p (by omega) w
  have hp3 : p ≤ 3000 := by omega
  have Hp := hide hp
  clear hp
  have HE := hide (fun (ts : List UInt8) (A : Option Addr) (c : Nat) (y : World) hm hc (hy : RdL Kd.byte (· < y.heap.size) y A ts) gc gt => fenc_any se id N B Q E F len A ts c y hm hc hy gc gt)
  have Hpar := hide (fun (ts b : List UInt8) h0 hb A1 a1 y gc gt => fpar_any se id N B Q E F len ts b h0 hb A1 a1 y gc gt)
  obtain ⟨may, hmay⟩ : ∃ may, may = mayH N B Q E F len := ⟨_, rfl⟩
  have Hek := hide (show ∀ ts : List UInt8, ts.length = p → encK N B Q E F len ts = if may then 0 else 1 from fun ts ht => by
    unfold encK
    rw [← hmay]
    cases hm2 : may
    · simp
    · have hb := may_bd (mayH_bd (by rw [← hmay, hm2] : mayH N B Q E F len = true)).1
      have := Hp.out
      rw [if_neg (by simp), if_neg (by rw [ht]; simp; omega)]; rfl)
  have Hbp := hide (show may = true → B = (p : Int) from fun hm2 => by
    have hb := may_bd (mayH_bd (by rw [← hmay, hm2] : mayH N B Q E F len = true)).1
    have := Hp.out
    omega)
  have hrun := may_run N B Q E F len
  have hfc := hide (fun w => fcheck_calls (se.toNat : Int) (id.toNat : Int) N B Q E F len w)
  rw [← hmay] at hrun hfc
  have hmc := hide (fun w => refmay_calls N B Q E F w)
  obtain ⟨mb, l0, l1, M, r1, r2, r3, r4⟩ := hrun
  rw [r1] at hmc
  have R2 := hide r2
  have R3 := hide r3
  have R4 := hide r4
  have Hmay := hide hmay
  clear hmay r1 r2 r3 r4
  have hno : (decide (3000 < B) && decide (B ≤ 65535)) = false := by
    rw [Bool.and_eq_false_iff, decide_eq_false_iff_not, decide_eq_false_iff_not]; omega
  generalize hBt : B.toNat = bt at hmx hmn Hp
  go_enter Try.func8, Try.ntmps8
  go_wp2_with fail
  rw [← HW.out]
  refine (fnew_calls W).mono ?_
  rintro e w3 ⟨g, gt, rfl, hg, htab, hb3, -, -, hg1, ht1⟩
  go_wp2_with fail
  refine (hck.out _).mono ?_
  rintro e w4 ⟨rfl, hb4⟩
  have z3 := hb3.size
  have b4 := hb3.trans (hb4.mono z3)
  have hg4 := hide ((hb4.block g hg1).trans hg)
  have ht4 := hide (htab.keep (hb4.block gt ht1))
  have Hh4 := hide ((b4.block w.heap.size (by omega)).trans HWh.out)
  have z4 := hb4.size
  have Hb4 := hide (hbW.trans (b4.mono hbW.size))
  obtain ⟨c0, c1, c2, c3, c4, c5, c6, c7⟩ := cells8 Hh4.out
  clear hg htab hb3 hb4 b4
  go_upto_region 4 with fail
  go_cut [30] from 21 to 30 (fun s wx => s = .bool false ∧ wx = w4)
  case first =>
    by_cases h3 : 3000 < B
    · have h4 : ¬ B ≤ 65535 := by omega
      go_wp2_with fail
      go_meet
      exact ⟨rfl, rfl⟩
    · go_wp2_with fail
      go_meet
      exact ⟨rfl, rfl⟩
  case rest =>
  obtain ⟨rfl, rfl⟩ := hcut
  have hw0 := hide (wr_made wc p)
  go_wp2_with fail
  clear c0 c1 c2 c3 c4 c5 c6 c7 hmx hmn
  obtain ⟨W5, hW5⟩ : ∃ W5, W5 = wc.alloc (.cells (madeCells #[.int .u8 0] p) 5) := ⟨_, rfl⟩
  have hbW5 : Below wc.heap.size wc W5 := by rw [hW5]; exact balloc wc _
  have hzW5 : W5.heap.size = wc.heap.size + 1 := by rw [hW5]; simp
  rw [← hW5] at hw0 ⊢
  have HbW5 := hide hbW5
  have HzW5 := hide hzW5
  clear hW5 hmk hbW5 hzW5
  go_loopw [39] (fun i wr => ∃ (k : Nat) (ts : List UInt8), k ≤ p ∧ i = .int .i64 (k : Int) ∧ ts.length = p ∧ Wr wr (some ⟨wc.heap.size, 0, none⟩) wc.heap.size [] [] 5 ts ∧ Ch (· = wc.heap.size) W5 wr) (fun i _ => p - (intOf i).toNat)
  case atStart => exact ⟨0, _, Nat.zero_le _, rfl, by simp, hw0.out, Ch.refl _⟩
  case round =>
    obtain ⟨k, ts, hk, rfl, hlen, hwr, hch⟩ := hrel
    by_cases hlt : k < p
    · obtain ⟨-, hcx, hfx⟩ := hwr.cell (i := k) (by omega)
      have hnx := hide (hwr.set (i := k) (by omega) fill)
      rw [List.length_nil, Nat.zero_add] at hcx hfx hnx
      generalize (ts[k]'(by omega)).toNat = x at hcx
      have Hlen := hide hlen
      have Hch := hide hch
      clear hlen hwr hch
      go_wp2_with fail
      go_roundw
      case rel => exact ⟨k + 1, ts.set k fill, by omega, by go_num, by rw [List.length_set]; exact Hlen.out, hnx.out, Hch.out.trans (Ch.set wr ⟨wc.heap.size, k, none⟩ _) fun b hb => .inl hb⟩
      case measure => simp [intOf]; omega
    · obtain rfl : k = p := by omega
      have b5 : Below wc.heap.size wc wr := hch.below HbW5.out (by have := HzW5.out; omega) (fun b hb => by omega)
      have zr := hch.size
      have hg5 := (b5.block g (by omega)).trans hg4.out
      have ht5 := ht4.out.keep (b5.block gt (by omega))
      have Hh5 := hide ((b5.block w.heap.size (Array.getElem?_eq_some_iff.1 Hh4.out).1).trans Hh4.out)
      have hrd5 : RdL Kd.byte (· < wr.heap.size) wr (some ⟨wc.heap.size, 0, none⟩) ts := hwr.rdB.mono fun b hb => by have := HzW5.out; omega
      have hE5 := HE.out ts (some ⟨wc.heap.size, 0, none⟩) k wr (by unfold maxLen; omega) (by omega) hrd5 g gt hg5 ht5
      rw [Hek.out ts hlen, hlen] at hE5
      obtain ⟨bs, hbs⟩ : ∃ bs, bs = encBs se id N B Q E F len ts := ⟨_, rfl⟩
      rw [← hbs] at hE5
      have HE5 := hide hE5
      have Hg5 := hide hg5
      have Ht5 := hide ht5
      have Hrd5 := hide hrd5
      have Hbs := hide hbs
      have Hlen := hide hlen
      have B5 := hide b5
      obtain ⟨c0, c1, c2, c3, c4, c5, c6, c7⟩ := cells8 Hh5.out
      clear hE5 hbs hlen hwr hch b5 hg5 ht5 hrd5 hw0 hlt
      generalize hke : (if may then 0 else 1 : Nat) = ke at HE5 Hek
      have Hke := hide hke
      clear hke
      go_wp2_with fail
      refine HE5.out.mono ?_
      rintro e w6 ⟨v6, rfl, hf6⟩
      have hb6 := hf6.2.1
      have z6 := hb6.size
      obtain ⟨A6, c6', rfl, hc6, hm6⟩ := hf6.1.shape
      rw [List.length_map] at *
      have Hrow6 := hide hf6.1
      have Hh6 := hide ((hb6.block w.heap.size (by have := (Array.getElem?_eq_some_iff.1 Hh5.out).1; exact this)).trans Hh5.out)
      have Hb6 := hide hb6
      clear hf6 hb6 c0 c1 c2 c3 c4 c5 c6 c7 HE5 HE
      obtain ⟨c0, c1, c2, c3, c4, c5, c6, c7⟩ := cells8 Hh6.out
      have k0 := fun x : Later w6 => later_cell c0 x
      have k1 := fun x : Later w6 => later_cell c1 x
      have k2 := fun x : Later w6 => later_cell c2 x
      have k3 := fun x : Later w6 => later_cell c3 x
      have k4 := fun x : Later w6 => later_cell c4 x
      have k5 := fun x : Later w6 => later_cell c5 x
      have k6 := fun x : Later w6 => later_cell c6 x
      have k7 := fun x : Later w6 => later_cell c7 x
      clear c0 c1 c2 c3 c4 c5 c6 c7
      go_upto_region 13 with fail
      go_cut [10] from 55 to 70 (fun s wx => s = .bool may ∧ Below w6.heap.size w6 wx)
      case first =>
        rcases R4.out with ⟨q1, q2⟩ | ⟨q1, q2, q3⟩ | ⟨q1, q2, q3⟩
        · subst q1; subst q2
          refine wp_region_later (by kernel_rfl) (by kernel_rfl) ?_
          repeat (go_big_quiet_step ((go_at_call 20; exact later_call (hmc.out _))))
          refine wpQuiet_nil ?_
          intro _ hw'
          obtain ⟨⟨w7, hb7⟩, rfl⟩ := hw'
          go_wp2_with fail
          go_meet
          exact ⟨rfl, hb7⟩
        · subst q1; subst q2; subst q3
          have l0' := R2.out rfl
          refine wp_region_later (by kernel_rfl) (by kernel_rfl) ?_
          repeat (go_big_quiet_step ((go_at_call 20; exact later_call (hmc.out _))))
          refine wpQuiet_nil ?_
          intro _ hw'
          obtain ⟨⟨w7, hb7⟩, rfl⟩ := hw'
          go_wp2_with fail
          go_meet
          exact ⟨rfl, hb7⟩
        · subst q1; subst q2
          have l0' := R2.out rfl
          obtain ⟨l1', hmo⟩ := R3.out rfl rfl
          have hmo' := hide hmo
          clear hmo
          refine wp_region_later (by kernel_rfl) (by kernel_rfl) ?_
          repeat (go_big_quiet_step (first | (go_at_call 20; exact later_call (hmc.out _)) | (go_at_call 21; exact later_call (hmo'.out _))))
          refine wpQuiet_nil ?_
          intro _ hw'
          obtain ⟨⟨w7, hb7⟩, rfl⟩ := hw'
          go_wp2_with fail
          go_meet
          exact ⟨by rw [q3], hb7⟩
      case rest =>
      obtain ⟨rfl, hbc⟩ := hcut
      have hup := hide (fun (y : World) (hy : Below w6.heap.size w6 y) => Hb4.out.trans ((B5.out.trans ((Hb6.out.trans (hy.mono z6)).mono B5.out.size)).mono Hb4.out.size))
      have Hhc := hide ((hbc.block w.heap.size (Array.getElem?_eq_some_iff.1 Hh6.out).1).trans Hh6.out)
      obtain ⟨c0, c1, c2, c3, c4, c5, c6, c7⟩ := cells8 Hhc.out
      have Hbc := hide hbc
      clear k0 k1 k2 k3 k4 k5 k6 k7 hbc
      cases may
      case false =>
        have hk1 : ke = 1 := Hke.out.symm
        subst hk1
        have hb0 : bs = [] := by rw [Hbs.out]; exact encBs_no (by rw [Hek.out ts Hlen.out]; decide)
        subst hb0
        have hfc0 := hide (fun w => (show Calls Try.prog 16 #[.agg #[.int .u64 (se.toNat : Int), .int .i64 N, .int .i64 B, .int .i64 Q, .int .i64 E, .int .i64 F, .int .i64 len, .int .u64 (id.toNat : Int)]] w fun e w' => e = .returned (.int .i64 1) ∧ Below w.heap.size w w' from by simpa using hfc.out w))
        go_wp2_with fail
        refine (hfc0.out _).mono ?_
        rintro e w8 ⟨rfl, hb8⟩
        have hbe := hide (hup.out w8 (Hbc.out.trans (hb8.mono Hbc.out.size)))
        clear hb8 c0 c1 c2 c3 c4 c5 c6 c7
        go_wp2_with fail
        exact hR.out _ _ ⟨rfl, hbe.out⟩
      case true =>
        have hk1 : ke = 0 := Hke.out.symm
        subst hk1
        have hek := Hek.out ts Hlen.out
        have hBk : B = (k : Int) := Hbp.out rfl
        have hbl : bs.length = 42 + ts.length := encBs_len hek Hbs.out.symm
        have hfc0 := hide (fun w => (show Calls Try.prog 16 #[.agg #[.int .u64 (se.toNat : Int), .int .i64 N, .int .i64 B, .int .i64 Q, .int .i64 E, .int .i64 F, .int .i64 len, .int .u64 (id.toNat : Int)]] w fun e w' => e = .returned (.int .i64 0) ∧ Below w.heap.size w w' from by simpa using hfc.out w))
        have Hek' := hide hek
        have HBk := hide hBk
        have Hbl := hide hbl
        clear hek hBk hbl
        go_wp2_with fail
        refine (hfc0.out _).mono ?_
        rintro e w8 ⟨rfl, hb8⟩
        have b68 := hide (Hbc.out.trans (hb8.mono Hbc.out.size))
        have b58 := hide (Hb6.out.trans (b68.out.mono z6))
        clear hb8 c0 c1 c2 c3 c4 c5 c6 c7
        have hp := Hpar.out ts bs Hek'.out Hbs.out.symm A6 c6' w8 g gt ((b58.out.block g (Array.getElem?_eq_some_iff.1 Hg5.out).1).trans Hg5.out) (Ht5.out.keep (b58.out.block gt Ht5.out.lt)) hm6 hc6 ((Hrow6.out.keep fun q hq => b68.out.block q (Hrow6.out.lt hq)).rdlt)
        rw [Hlen.out] at hp
        have Hp' := hide hp
        clear hp
        go_wp2_with fail
        refine Hp'.out.mono ?_
        rintro e w9 ⟨A9, c9, rfl, hc9, hm9, hr9, hb9⟩
        obtain ⟨W9, hW9, hbW9, hWs9, hWh9⟩ := pbox' w9 (.int .u64 (se.toNat : Int)) (.int .i64 N) (.int .i64 B) (.int .i64 Q) (.int .i64 E) (.int .i64 F) (.int .i64 len) (.int .u64 (id.toNat : Int)) (.slice A9 k c9) 32
        have HW9 := hide hW9
        have b89 := hb9.trans (hbW9.mono hb9.size)
        have b69 := hide (b68.out.trans (b89.mono b68.out.size))
        have Hh9 := hide ((b69.out.block w.heap.size (Array.getElem?_eq_some_iff.1 Hh6.out).1).trans Hh6.out)
        have s1 := run_str (P := Try.prog) (w := W9) Try.underlying22 Try.underlying5 Try.underlying9 ((hr9.keep fun q hq => hbW9.block q hq.2).srcB) c9
        have s2 := run_str (P := Try.prog) (w := W9) Try.underlying22 Try.underlying5 Try.underlying9 ((Hrd5.out.below (Hb6.out.trans (b69.out.mono z6))).srcB) k
        rw [Hlen.out] at s1 s2
        generalize bstr ts = str at s1 s2
        have hbe := hide (hup.out W9 b69.out)
        obtain ⟨c0, c1, c2, c3, c4, c5, c6, c7⟩ := cells8 Hh9.out
        obtain ⟨d0, d1, d2, d3, d4, d5, d6, d7, d8⟩ := cells9 hWh9
        have hbl1 : (bs.length : Int) = 42 + B := by rw [Hbl.out, HBk.out, Hlen.out]; push_cast; rfl
        have hB1 : 0 ≤ B := by rw [HBk.out]; omega
        have hB2 : B ≤ 3000 := by rw [HBk.out]; omega
        generalize bs.length = nb at *
        clear hW9 hWh9 hr9 hb9 hbW9 b89 Hp' Hpar Hek' HBk Hbl
        go_upto_region 19 with fail
        rw [← HW9.out]
        go_wp2_with fail
        exact hR.out _ _ ⟨rfl, hbe.out⟩
end Go.Proofs.Ytopfpadfjfmmiaa
