/- The blocks of any object are the document's: the long way. -/
import Derived.Test.YtkmnlelfofebfaaSegSplits0
set_option linter.unusedVariables false
set_option linter.unusedSimpArgs false
namespace Go.Proofs.Ytkmnlelfofebfaa
open Go.RowKit

/-- Rows of n bytes each, that can be written; block g has them. -/
def PB (S : Nat → Prop) (g N n : Nat) (w wr : World) : Prop := Ch S w wr ∧ ∀ j, j < N → ∃ u, w.cell? ⟨g, j, none⟩ = some u ∧ WB S wr u n
theorem PB.at {S : Nat → Prop} {g N n : Nat} {w wr : World} (h : PB S g N n w wr) {j : Nat} (hj : j < N) : ∃ u, w.cell? ⟨g, j, none⟩ = some u ∧ WB S wr u n := h.2 j hj
theorem PB.start {S : Nat → Prop} {g c N n : Nat} {w : World} {e : TypeId} {xs : List (List UInt8)} (h : ORow Kd.ow S w e (.slice (some ⟨g, 0, none⟩) N c) xs) (hn : ∀ b ∈ xs, b.length = n) (hN : xs.length = N) : PB S g N n w w :=
  ⟨Ch.refl _, fun j hj => by
    obtain ⟨u, h1, _, h3⟩ := h.cell1 rfl (i := j) (by omega)
    have h4 := Kd.ow_wb h3
    rw [hn _ (List.getElem_mem (by omega))] at h4
    exact ⟨u, h1, h4⟩⟩
theorem PB.set {S : Nat → Prop} {g N n : Nat} {w wr : World} (h : PB S g N n w wr) {g' : Nat} (hs : S g') (j : Nat) (y : UInt8) : PB S g N n w (wr.setCell ⟨g', j, none⟩ (.int .u8 (y.toNat : Int))) :=
  ⟨h.1.trans (Ch.set wr ⟨g', j, none⟩ _) fun b hb => .inl (by simp at hb; subst hb; exact hs), fun i hi => by
    obtain ⟨u, h1, h2⟩ := h.2 i hi
    exact ⟨u, h1, h2.set g' j y⟩⟩

set_option maxRecDepth 100000 in
set_option maxHeartbeats 4000000 in
theorem splits_main (N B : Nat) (Q E F : Int) (A : Option Addr) (o : List UInt8) (c : Nat) (w : World) (hm : c ≤ maxLen) (hc : o.length ≤ c) (hN : N ≤ 100) (hB : B ≤ 100) (hn : o.length ≤ 10001) (hl : o.length ≤ N * B) (hmay : mayB N B Q E F = true)
    (ho : RdL Kd.byte (· < w.heap.size) w A o) :
    Calls Try.prog 3 #[pV N B Q E F, .slice A o.length c] w fun e w' => e = .returned (.bool true) ∧ Below w.heap.size w w' := by
  refine cps fun R hR => ?_
  have Ho := hide ho
  have hsp := hide (fun w ho => split_rd N B Q E F A o c w hmay hN hB hl hm hc ho)
  have hrs := hide (fun w ho => refsplit_calls N B Q E F A o c w (by omega) (by omega) hm hc ho)
  have hmy := hide (by have := fun w => refmay_calls N B Q E F w; rwa [hmay] at this)
  unfold maxLen at hm
  obtain ⟨M, hM⟩ : ∃ M, M = N * B := ⟨_, rfl⟩
  have hMb : M ≤ 10000 := by rw [hM]; exact Nat.mul_le_mul hN hB
  have eMw : IntKind.i64.wrap ((N : Int) * (B : Int)) = (M : Int) := by rw [show (N : Int) * (B : Int) = (M : Int) by rw [hM]; simp, IntKind.wrap_i64]; omega
  rw [← hM] at hl
  clear hmay hM ho
  have g5 : decide (10001 < o.length) = false := by simp; omega
  have g1 : decide (100 < N) = false := by simp; omega
  have g3 : decide (100 < B) = false := by simp; omega
  have g6 : decide (M < o.length) = false := by simp; omega
  go_enter Try.func3, Try.ntmps3
  go_wp2_with fail
  refine (speaks_calls _).mono ?_
  rintro e w1 ⟨rfl, hb1⟩
  obtain ⟨W, hW, hb, hs, ⟨c0, c1, c2, c3, c4⟩⟩ := box5 w N B Q E F 23
  rw [← hW] at hb1
  replace c0 := (hb1.cell (by simpa using hs)).trans c0
  replace c1 := (hb1.cell (by simpa using hs)).trans c1
  replace c2 := (hb1.cell (by simpa using hs)).trans c2
  replace c3 := (hb1.cell (by simpa using hs)).trans c3
  replace c4 := (hb1.cell (by simpa using hs)).trans c4
  have hb1' := hb.trans (hb1.mono hb.size)
  have hs1 := Nat.lt_of_lt_of_le hs hb1.size
  clear hW hb hb1 hs
  go_wp2_with fail
  refine (hsp.out w1 ((Ho.out.below hb1').mono fun k hk => Nat.lt_of_lt_of_le hk hb1'.size)).mono ?_
  rintro e w2 ⟨g, rfl, horw, hrd, hg1, hg2, hb2⟩
  replace c0 := (hb2.cell (by simpa using hs1)).trans c0
  replace c1 := (hb2.cell (by simpa using hs1)).trans c1
  replace c2 := (hb2.cell (by simpa using hs1)).trans c2
  replace c3 := (hb2.cell (by simpa using hs1)).trans c3
  replace c4 := (hb2.cell (by simpa using hs1)).trans c4
  have hb2' := hb1'.trans (hb2.mono hb1'.size)
  have hs2 := Nat.lt_of_lt_of_le hs1 hb2.size
  have Horw := hide horw
  have Hrd := hide hrd
  clear hb2 horw hrd
  go_wp2_with fail
  refine (hmy.out _).mono ?_
  rintro e w3 ⟨rfl, hb3⟩
  replace c0 := (hb3.cell (by simpa using hs2)).trans c0
  replace c1 := (hb3.cell (by simpa using hs2)).trans c1
  replace c2 := (hb3.cell (by simpa using hs2)).trans c2
  replace c3 := (hb3.cell (by simpa using hs2)).trans c3
  replace c4 := (hb3.cell (by simpa using hs2)).trans c4
  have hb3' := hb2'.trans (hb3.mono hb2'.size)
  have hs3 := Nat.lt_of_lt_of_le hs2 hb3.size
  have Hb3 := hide hb3
  have hsA := hide (Ho.out.below hb3').srcB
  have hoA := hide (encB_one o)
  clear hb3 hb2' hs2
  go_wp2_with (at_builtin; with_reducible refine wp_app_lit 71 rfl rfl (.tmp 69) (.tmp 70) 24 rfl Try.underlying24 infoB ?_ (g := w3.heap.size) ?_ (A := A) (c := c) (news := o.map encB) ?_ (hsA.out.below (balloc w3 _)) hoA.out ?_ ?_ ?_)
  case refine_1 => rfl
  case refine_2 => rfl
  case refine_3 => rw [List.length_map]; rfl
  case refine_4 => rw [List.length_map]; omega
  case refine_5 => rw [List.length_map]; simp [maxLen]; omega
  intro v7 w4 hn4
  obtain ⟨A7, c7, rfl, hr7, hb7⟩ := hn4.sl
  have hb34 := hide ((balloc w3 (.cells #[] 5)).trans (hb7.mono (by simp)))
  have hb4' := hide (hb3'.trans (hb34.out.mono hb3'.size))
  replace c0 := (hb34.out.cell (by simpa using hs3)).trans c0
  replace c1 := (hb34.out.cell (by simpa using hs3)).trans c1
  replace c2 := (hb34.out.cell (by simpa using hs3)).trans c2
  replace c3 := (hb34.out.cell (by simpa using hs3)).trans c3
  replace c4 := (hb34.out.cell (by simpa using hs3)).trans c4
  have hs4 := Nat.lt_of_lt_of_le hs3 hb34.out.size
  have hr7' := hide ((Kd.sl Kd.byte).mono (S' := fun k => w3.heap.size ≤ k ∧ k < w4.heap.size) (fun k hk => ⟨by have := hk.1; simp at this; omega, hk.2⟩) hr7)
  have hs23 := hide Hb3.out.size
  have hb24 := hide (Hb3.out.trans (hb34.out.mono Hb3.out.size))
  clear hn4 hr7 hb7 hb3' hs3 hsA
  go_wp2_with fail
  refine (hrs.out w4 ((Ho.out.below hb4'.out).mono fun k hk => Nat.lt_of_lt_of_le hk hb4'.out.size)).mono ?_
  rintro e w5 ⟨v5, us5, rfl, hown5, hb5⟩
  obtain ⟨A5, c5, rfl, hc5, hm5⟩ := hown5.shape
  rw [splitL_len] at hown5 hc5 ⊢
  have hrd5 := hide (hown5.rd.mono (S' := (· < w5.heap.size)) fun k hk => hk.2)
  have hrd25 := hide ((Hrd.out.below (hb24.out.trans (hb5.mono hb24.out.size))).mono (S' := (· < w5.heap.size)) fun k hk => Nat.lt_of_lt_of_le hk (hb24.out.trans (hb5.mono hb24.out.size)).size)
  have hb45 := hide hb5
  have hsm := hide (by
    have := same_calls (some ⟨g, 0, none⟩) (splitL N B o) N A5 (splitL N B o) c5 w5 (by rw [splitL_len]; omega) (by rw [splitL_len]; omega) hrd25.out hrd5.out
    rwa [splitL_len, decide_eq_true rfl] at this)
  clear hown5 hb5 c0 c1 c2 c3 c4
  go_wp2_with fail
  refine hsm.out.mono ?_
  rintro e w6 ⟨rfl, hb6⟩
  have hb46 := hide (hb45.out.trans (hb6.mono hb45.out.size))
  have hb26 := hide (hb24.out.trans (hb46.out.mono hb24.out.size))
  have hb6' := hide (hb4'.out.trans (hb46.out.mono hb4'.out.size))
  have hr76 := hide ((Kd.sl Kd.byte).keep (w' := w6) (fun k hk => hb46.out.block k hk.2) hr7'.out)
  clear hb6 hsm hrd25 hrd5
  have hrow6 := hide (Horw.out.keep (w' := w6) fun k hk => hb26.out.block k (by
    rcases hk with hk | hk
    · exact hk.2
    · simp [Value.ownBlock] at hk; omega))
  have hP := hide (PB.start hrow6.out split_lens (by rw [splitL_len]))
  have hgS : ¬ (g < g ∧ g < w2.heap.size) := by omega
  have HgS := hide hgS
  clear hrow6 hgS
  go_wp2_with fail
  go_loopw [84] (fun i wr => ∃ k : Nat, k ≤ N ∧ i = .int .i64 (k : Int) ∧ PB (fun q => g < q ∧ q < w2.heap.size) g N B w6 wr) (fun i _ => N - (intOf i).toNat)
  case atStart => exact ⟨0, Nat.zero_le _, rfl, hP.out⟩
  case round =>
    clear hP
    obtain ⟨k, hk, rfl, hp⟩ := hrel
    by_cases hlt : k < N
    · obtain ⟨u, hcl, hwb⟩ := hp.at hlt
      have Hcl := hide hcl
      replace hcl := hp.1.cell hcl HgS.out
      obtain ⟨Au, cu, rfl, hcu, hmu, -⟩ := hwb
      have Hp := hide hp
      clear hp
      go_wp2_with fail
      obtain ⟨wo, rfl⟩ : ∃ wo : World, wo = wr := ⟨_, rfl⟩
      go_loopw [90] (fun i wr => ∃ j : Nat, j ≤ B ∧ i = .int .i64 (j : Int) ∧ PB (fun q => g < q ∧ q < w2.heap.size) g N B w6 wr) (fun i _ => B - (intOf i).toNat)
      case atStart => exact ⟨0, Nat.zero_le _, rfl, Hp.out⟩
      case round =>
        obtain ⟨j, hj, rfl, hp⟩ := hrel
        by_cases hjl : j < B
        · obtain ⟨u2, hcl2, hwb2⟩ := hp.at hlt
          have e2 : u2 = .slice Au B cu := by
            have := Hcl.out
            rw [hcl2] at this
            injection this
          subst e2
          obtain ⟨gk, off, x, c9, e9, -, -, hsk, hcx, hfx⟩ := hwb2.cell hjl
          injection e9 with e9 _ _
          subst e9
          obtain ⟨y, hy⟩ := inc8 x
          have Hp2 := hide (hp.set hsk (off + j) y)
          clear hp hcl2 hwb2 hcl
          generalize (x.toNat : Int) = xi at hcx hy
          generalize (y.toNat : Int) = yi at hy Hp2
          go_wp2_with fail
          go_roundw
          case rel => exact ⟨j + 1, by omega, by go_num, Hp2.out⟩
          case measure => simp [intOf]; omega
        · obtain rfl : B = j := by omega
          have Hp2 := hide hp
          clear hp hcl
          go_wp2_with fail
          go_roundw
          case rel => exact ⟨k + 1, by omega, by go_num, Hp2.out⟩
          case measure => simp [intOf]; omega
    · obtain rfl : N = k := by omega
      have hch := hp.1
      have h7 := (Kd.sl Kd.byte).keep (w' := wr) (fun q hq => hch.block q (Nat.lt_of_lt_of_le hq.2 hb46.out.size) (by have := hs23.out; omega)) hr76.out
      have hbf := hide (hch.below hb6'.out hb6'.out.size (fun b hb => by omega))
      obtain ⟨A8, c8, e8, -, -, h8⟩ := h7
      injection e8 with e8 _
      injection e8 with e8 _ e9
      subst e8; subst e9
      have r1 := run_str (P := Try.prog) (w := wr) Try.underlying24 Try.underlying5 Try.underlying9 (Ho.out.below hbf.out).srcB c
      have r2 := run_str (P := Try.prog) (w := wr) Try.underlying24 Try.underlying5 Try.underlying9 h8.srcB c7
      generalize bstr o = str at r1 r2
      clear h8 hch hp
      go_wp2_with fail
      exact hR.out _ _ ⟨rfl, hbf.out⟩
/-- All ways. -/
theorem Splits_calls (N B Q E F : Int) (A : Option Addr) (o : List UInt8) (c : Nat) (w : World) (hm : c ≤ maxLen) (hc : o.length ≤ c) (ho : RdL Kd.byte (· < w.heap.size) w A o) :
    Calls Try.prog 3 #[pV N B Q E F, .slice A o.length c] w fun e w' => e = .returned (.bool true) ∧ Below w.heap.size w w' := by
  by_cases hbig : (100 < N ∧ N ≤ 1048576) ∨ ((N ≤ 100 ∨ 1048576 < N) ∧ 100 < B ∧ B ≤ 65535) ∨ ((N ≤ 100 ∨ 1048576 < N) ∧ (B ≤ 100 ∨ 65535 < B) ∧ 10001 < o.length)
  · exact splits_big N B Q E F A o.length c w hm hc hbig
  have hsm : (N ≤ 100 ∨ 1048576 < N) ∧ (B ≤ 100 ∨ 65535 < B) ∧ o.length ≤ 10001 := by omega
  cases hmay : mayB N B Q E F
  · exact splits_bad N B Q E F A o.length c w hm hc hsm hmay
  obtain ⟨hN1, hN2, hB1, hB2, -⟩ := may_bd hmay
  obtain ⟨N, rfl⟩ := Int.eq_ofNat_of_zero_le (show 0 ≤ N by omega)
  obtain ⟨B, rfl⟩ := Int.eq_ofNat_of_zero_le (show 0 ≤ B by omega)
  by_cases hl : o.length ≤ N * B
  · exact splits_main N B Q E F A o c w hm hc (by omega) (by omega) hsm.2.2 hl hmay ho
  · exact splits_long N B Q E F A o.length c w hm hc (by omega) (by omega) hsm.2.2 (by omega) hmay
end Go.Proofs.Ytkmnlelfofebfaa
