/- WireParts, walked. -/
import Derived.Test.YtoiojkjmldlhcaaWireWrites
set_option linter.unusedVariables false
set_option linter.unusedSimpArgs false
namespace Go.Proofs.Ytoiojkjmldlhcaa
open Go.RowKit

theorem lit1b {S : Nat → Prop} {w : World} {A : Option Addr} {xs : List UInt8} {n c : Nat} (hn : xs.length = n) (hc : n ≤ c) (hm : c ≤ maxLen) (h : RdL Kd.byte S w A xs) (hS : ∀ k, S k → k < w.heap.size) (e : TypeId) :
    RdL (Kd.sl Kd.byte) (fun k => S k ∨ k = w.heap.size) (w.alloc (.cells #[.slice A n c] e)) (some ⟨w.heap.size, 0, none⟩) [xs] := by
  subst hn
  refine RdL.block1 rfl (heap_alloc_new w _) (.inr rfl) (fun i x hx => ?_)
  match i, hx with
  | 0, hx =>
    simp at hx; subst hx
    exact ⟨_, rfl, A, c, rfl, hc, hm, (h.keep fun k hk => (balloc w _).block k (hS k hk)).mono fun k hk => .inl hk⟩
  | n + 1, hx => simp at hx
theorem mod20 (x : UInt8) : (wrap64 (x.toNat : Int)).tmod 20 = ((x.toNat % 20 : Nat) : Int) := by
  have hx : x.toNat < 256 := x.toNat_lt
  have h1 : wrap64 (x.toNat : Int) = x.toNat := by unfold wrap64; omega
  rw [h1, Int.tmod_eq_emod_of_nonneg (by omega)]
  omega

set_option maxRecDepth 100000 in
set_option maxHeartbeats 1000000 in
theorem parts_calls (B : Option Addr) (l : List (List UInt8)) (d : Nat) (C : Option Addr) (cu : List UInt8) (f : Nat) (w : World) (hd : d ≤ maxLen) (hdl : l.length ≤ d) (hb : RdL (Kd.sl Kd.byte) (· < w.heap.size) w B l)
    (hcm : f ≤ maxLen) (hcl : cu.length ≤ f) (hcr : RdL Kd.byte (· < w.heap.size) w C cu) :
    Calls Try.prog 6 #[.slice B l.length d, .slice C cu.length f] w fun e w' => e = .returned (.bool true) ∧ Below w.heap.size w w' := by
  refine cps fun R hR => ?_
  have hd' := hd
  have hcm' := hcm
  unfold maxLen at hd' hcm'
  go_enter Try.func6, Try.ntmps6
  go_wp2_with fail
  refine (speaks_calls w).mono ?_
  rintro e w1 ⟨rfl, hb1⟩
  replace hb := (hb.below hb1).mono fun k h => Nat.lt_of_lt_of_le h hb1.size
  replace hcr := (hcr.below hb1).mono fun k h => Nat.lt_of_lt_of_le h hb1.size
  by_cases h30 : 30 < l.length
  · clear hb hcr
    go_wp2_with fail
    exact hR.out _ _ ⟨rfl, hb1⟩
  by_cases h100 : 100 < cu.length
  · clear hb hcr
    go_wp2_with fail
    exact hR.out _ _ ⟨rfl, hb1⟩
  have Hb := hide hb
  have Hcr := hide hcr
  clear hb hcr
  go_wp2_with fail
  obtain ⟨w0, hw0⟩ : ∃ w0, w0 = w1.alloc (.cells #[.slice none 0 0] 26) := ⟨_, rfl⟩
  have h0s : w0.heap.size = w1.heap.size + 1 := by rw [hw0]; simp
  have h0b : Below w1.heap.size w1 w0 := by rw [hw0]; exact balloc _ _
  have h0w := hide (show Wri 26 w0 w1.heap.size (.slice none 0 0) [] by rw [hw0]; exact Wri.new w1 _)
  have H0s := hide h0s
  rw [← hw0]
  clear h0s hw0
  go_loopw [7, 30] (fun p i wr => ∃ (k : Nat) (vw : Value), k ≤ l.length ∧ i = .int .i64 (k : Int) ∧ (l.take k).flatten.length ≤ 100 * k ∧ WriI (w1.heap.size + 1) w0 wr (w1.heap.size + 1) p vw (l.take k).flatten (l.take k).flatten) (fun _ i _ => l.length - (intOf i).toNat)
  case atStart => exact ⟨0, _, Nat.zero_le _, rfl, by simp, Row.nil, by have := Wri.new w0 26; rw [H0s.out] at this; exact this, (balloc _ _).mono (by rw [H0s.out]; exact Nat.le_refl _), by simp [H0s.out], fun b hb => by simp [Value.ownBlock] at hb, fun b hb => by rw [fp_new hb]; exact Nat.le_refl _⟩
  case round =>
    obtain ⟨k, vw, hk, rfl, hfl, hI⟩ := hrel
    have HI := hide hI
    have hbe := h0b.trans (hI.bel.mono (Nat.le_succ _))
    clear hI
    by_cases hlt : k < l.length
    · obtain ⟨b, off, u, rfl, hsb, hu, hcell⟩ := (Hb.out.below hbe).at1 rfl hlt
      obtain ⟨Ab, cb, rfl, hcb, hmb, hrd⟩ := Kd.sl_cell hu
      have Hrd := hide hrd
      have Hsn := hide (show (l.take (k + 1)).flatten = (l.take k).flatten ++ l[k] by rw [List.take_succ_eq_append_getElem hlt, List.flatten_append, List.flatten_cons, List.flatten_nil, List.append_nil])
      clear hu hrd
      generalize l[k] = x at hcell Hrd Hsn hcb
      generalize (l.take k).flatten = a at hfl HI Hsn
      generalize hlx : x.length = n at hcell hcb
      have Hlx := hide hlx
      clear hlx
      by_cases hbig : 100 < n
      · go_wp2_with fail
        exact hR.out _ _ ⟨rfl, hb1.trans (hbe.mono hb1.size)⟩
      have hW := hide (HI.out.alloc (.cells #[.slice Ab n cb] 24))
      have hs1 := HI.out.le
      have h01 : w1.heap.size ≤ w0.heap.size := by have := H0s.out; omega
      have hca := hide (append_calls (w1.heap.size + 1) vw a _ [x] 1 _ _ hW.out.wri (by simp [maxLen]) (by simp) (lit1b Hlx.out hcb hmb Hrd.out (fun q hq => by omega) 24) (fun q hq => hq.elim (fun h => ⟨by simp; omega, fun hf => by have := HI.out.fp q hf; omega⟩) (fun h => by subst h; exact ⟨by simp, fun hf => by have := HI.out.wri.fp hf; omega⟩)) (by simp [Hlx.out]; omega))
      simp only [show [x].flatten = x by simp, show ([x] : List (List UInt8)).length = 1 from rfl] at hca
      go_wp2_with fail
      refine hca.out.mono ?_
      rintro e w4 ⟨rfl, vw', hw4, hc4, hf4⟩
      have hI4 := hide (hW.out.writer hw4 hc4 hf4)
      have hrd4 := hide (Hrd.out.keep (w' := w4) (fun q hq => ((h0b.trans (hI4.out.bel.mono (Nat.le_succ _))).block q hq).trans (hbe.block q hq).symm))
      clear hw4 hc4 hf4 hca
      have lma := hide (show (a.map encB).length = a.length by simp)
      have lmx := hide (show (x.map encB).length = n by rw [List.length_map, Hlx.out])
      go_wp2_with (at_builtin; with_reducible refine wp_app 42 rfl rfl (.tmp 40) (.tmp 41) 24 rfl Try.underlying24 infoB ?_ (us := a.map encB) ?_ hI4.out.row (A := Ab) (c := cb) (news := x.map encB) ?_ hrd4.out.srcB (encB_one x) ?_ ?_ ?_)
      case refine_1 => rfl
      case refine_2 => rfl
      case refine_3 => rw [lmx.out]; rfl
      case refine_4 => rw [lmx.out, lma.out]; omega
      case refine_5 => rw [lmx.out, lma.out]; unfold maxLen; omega
      case refine_6 =>
        intro v5 w5 h5 g5 a5
        have hI5 := hide (hI4.out.grow (a' := a ++ x) (by rw [List.map_append]; exact h5) g5 a5)
        clear h5 g5 a5
        go_wp2_with fail
        go_roundw
        case rel => exact ⟨k + 1, vw', by omega, by go_num, by rw [Hsn.out, List.length_append, Hlx.out]; omega, by rw [Hsn.out]; exact hI5.out⟩
        case measure => simp [intOf]; omega
    · obtain rfl : k = l.length := by omega
      rw [List.take_length] at hfl HI
      have h5w := h0w.out.keep (w' := wr) (fun q hq => HI.out.bel.block q (by rw [fp_new hq]; exact Nat.lt_succ_self _))
      have hca := hide (append_calls w1.heap.size _ [] B l d _ wr h5w hd hdl (Hb.out.below hbe) (fun q hq => ⟨by have := HI.out.le; have := H0s.out; omega, fun hf => by rw [fp_new hf] at hq; omega⟩) (by show 0 + l.flatten.length ≤ 100000; omega))
      clear h5w
      rw [List.nil_append] at hca
      go_wp2_with fail
      refine hca.out.mono ?_
      rintro e w2 ⟨rfl, vw5, hw5, hc5, hf5⟩
      have h5s := hc5.size
      have hI2 := hide (show WriI (w1.heap.size + 1) w2 w2 (w1.heap.size + 1) u7 vw l.flatten l.flatten from
        ⟨HI.out.row.keep fun q hq => hc5.block q (HI.out.row.lt hq) (fun hf => by have := (HI.out.own q hq).1; rw [fp_new hf] at this; omega),
          HI.out.wri.keep fun q hq => hc5.block q (HI.out.wri.fp hq) (fun hf => by have := HI.out.fp q hq; rw [fp_new hf] at this; omega), Below.refl _ _, Nat.le_trans HI.out.le h5s, HI.out.own, HI.out.fp⟩)
      have hb2 := hide (hc5.below hbe (Nat.le_trans (Nat.le_succ _) HI.out.le) (fun q hq => by rw [fp_new hq]; exact Nat.le_refl _))
      have hby := hide (bytes_calls w1.heap.size vw5 l.flatten w2 hw5 (by omega))
      have hf5' := hide hf5
      clear hw5 hc5 hf5 hca
      go_wp2_with fail
      refine hby.out.mono ?_
      rintro e w3 ⟨v3, rfl, hf3⟩
      obtain ⟨A3, c3, rfl, hc3, hm3⟩ := hf3.shape
      have hI3 := hide (hI2.out.later hf3.2.1)
      have hb3 := hide (hb2.out.trans (hf3.2.1.mono (Nat.le_trans (Nat.le_succ _) hI2.out.le)))
      have hrd := hide (read_calls A3 l.flatten c3 _ w3 hm3 hc3 (by omega) (hf3.1.rd (d := Kd.byte) rfl _ (fun b hb => hb) fun x => ⟨_, rfl, rfl⟩))
      clear hf3 hc3 hby
      generalize hal : l.flatten = al at hfl HI hI2 hI3 hrd
      have Hal := hide hal
      clear hal
      generalize hnl : al.length = n at hfl hrd
      have Hnl := hide hnl
      clear hnl
      go_wp2_with fail
      refine hrd.out.mono ?_
      rintro e w5 ⟨g10, A10, c10, S10, rfl, hr5, hf10, hg10⟩
      have hI5 := hide (hI3.out.later hf10)
      have hb5 := hide (hb3.out.trans (hf10.mono (Nat.le_trans (Nat.le_succ _) hI3.out.le)))
      have Hr5 := hide hr5
      have hg10' : w3.heap.size ≤ g10 := hg10 g10 (.inl rfl)
      have hlt10 := hr5.glt
      have hl3 := hI3.out.le
      have hl5 := hI5.out.le
      have hgI := hide (fun q (hq : (u7.ownBlock = some q ∨ Fp (w1.heap.size + 1) vw q)) => (hq.elim (fun h => hI3.out.row.lt h) (fun h => hI3.out.wri.fp h) : q < w3.heap.size))
      clear hr5 hf10 hg10 hrd
      go_wp2_with fail
      go_loopw [11, 50] (fun p i wr => ∃ (k : Nat) (A' : Option Addr) (c' : Nat) (got rest : List UInt8), k ≤ cu.length ∧ i = .int .i64 (k : Int) ∧ got ++ rest = al ∧ Rea wr g10 A' c' rest S10 ∧ Row wr 5 p (got.map encB) ∧ (∀ q, p.ownBlock = some q → w5.heap.size ≤ q) ∧ Ch (· = g10) w5 wr) (fun _ i _ => cu.length - (intOf i).toNat)
      case atStart => exact ⟨0, _, _, [], al, Nat.zero_le _, rfl, rfl, Hr5.out, Row.nil, fun q hq => by simp [Value.ownBlock] at hq, Ch.refl _⟩
      case round =>
        obtain ⟨k, A', c', got, rest, hk, rfl, hgr, hrr, hrow, hown, hch⟩ := hrel
        have hbr := hch.below hb5.out (Nat.le_trans (Nat.le_succ _) hl5) (fun q hq => by rw [hq]; omega)
        have Hgr := hide hgr
        have Hrr := hide hrr
        have Hrow := hide hrow
        have Hown := hide hown
        have hlg := congrArg List.length hgr
        rw [List.length_append, Hnl.out] at hlg
        clear hgr hrr hrow hown
        by_cases hkl : k < cu.length
        · obtain ⟨b, off, u, rfl, hsb, hu, hcell⟩ := (Hcr.out.below hbr).at1 rfl hkl
          obtain rfl := Kd.byte_cell hu
          clear hu
          generalize cu[k] = x at hcell
          have hm := mod20 x
          have hm20 : x.toNat % 20 < 20 := Nat.mod_lt _ (by omega)
          generalize x.toNat % 20 = m at hm hm20
          by_cases hmr : m ≤ rest.length
          · have hc := hide (cut_calls g10 A' c' rest S10 m wr Hrr.out hmr (by omega))
            have hlg' := hide hlg
            clear hlg
            go_wp2_with fail
            refine hc.out.mono ?_
            rintro e w6 ⟨v6, A6, rfl, hrow6, hown6, hr6, hc6⟩
            have lt6 : ((rest.take m).map encB).length = m := by rw [List.length_map, List.length_take]; omega
            have Lt6 := hide lt6
            obtain ⟨A7, c7, rfl, -, -⟩ := hrow6.shape
            have hgotr := Hrow.out.keep (w' := w6) (fun q hq => hc6.block q (Hrow.out.lt hq) (fun e => by have := Hown.out q hq; omega))
            have hsrc := hrow6.src
            have Hr6 := hide hr6
            have lmg := hide (show (got.map encB).length = got.length by simp)
            have Hc6 := hide (hch.trans hc6 fun b hb => .inl hb)
            clear hrow6 hown6 hr6 hc6
            rw [lt6]
            clear lt6
            go_wp2_with (at_builtin; with_reducible refine wp_app 74 rfl rfl (.tmp 72) (.tmp 73) 24 rfl Try.underlying24 infoB ?_ (us := got.map encB) ?_ hgotr (A := A7) (c := c7) (news := (rest.take m).map encB) ?_ hsrc (encB_one _) ?_ ?_ ?_)
            case refine_1 => rfl
            case refine_2 => rfl
            case refine_3 => rw [Lt6.out]; rfl
            case refine_4 => rw [Lt6.out, lmg.out]; have := hlg'.out; omega
            case refine_5 => rw [Lt6.out, lmg.out]; have := hlg'.out; unfold maxLen; omega
            case refine_6 =>
              intro v8 w8 h8 g8 a8
              have hr8 := hide (Hr6.out.ch (Ch.of_grown g8) (fun b hb e => by have h1 := Hown.out b e; have h2 := Hr5.out.blt hb; omega))
              have hc8 := hide (Hc6.out.trans (Ch.of_grown g8) fun b hb => .inr (Hown.out b hb))
              have ho8 := hide (show ∀ q, v8.ownBlock = some q → w5.heap.size ≤ q from fun q hq => by
                rcases a8 with a8 | a8
                · exact Hown.out q (a8 ▸ hq)
                · rw [a8] at hq; injection hq with hq; have := Hc6.out.size; omega)
              have hrow8 := hide (show Row w8 5 v8 ((got ++ rest.take m).map encB) by rw [List.map_append]; exact h8)
              clear h8 g8 a8 hgotr hsrc
              go_wp2_with fail
              go_roundw
              case rel => exact ⟨k + 1, _, _, got ++ rest.take m, rest.drop m, by omega, by go_num, by rw [List.append_assoc, List.take_append_drop]; exact Hgr.out, hr8.out, hrow8.out, ho8.out, hc8.out⟩
              case measure => simp [intOf]; omega
          · have hc := hide (cut_no g10 A' c' rest S10 (m : Int) wr Hrr.out (by omega))
            have hl := hide (left_calls g10 A' c' rest S10 wr Hrr.out)
            have hlg' := hide hlg
            have lmg := hide (show (got.map encB).length = got.length by simp)
            clear hlg
            go_wp2_with fail
            refine hc.out.mono ?_
            rintro e w6 ⟨rfl, rfl⟩
            go_wp2_with fail
            refine hl.out.mono ?_
            rintro e w6 ⟨rfl, rfl⟩
            go_wp2_with (at_builtin; with_reducible refine wp_app 74 rfl rfl (.tmp 72) (.tmp 73) 24 rfl Try.underlying24 infoB ?_ (us := got.map encB) ?_ Hrow.out (A := none) (c := 0) (news := []) ?_ Src.nil (by simp) ?_ ?_ ?_)
            case refine_1 => rfl
            case refine_2 => rfl
            case refine_3 => rfl
            case refine_4 => rw [lmg.out]; have := hlg'.out; simp; omega
            case refine_5 => rw [lmg.out]; have := hlg'.out; unfold maxLen; simp; omega
            case refine_6 =>
              intro v8 w8 h8 g8 a8
              have hr8 := hide (Hrr.out.ch (Ch.of_grown g8) (fun b hb e => by have h1 := Hown.out b e; have h2 := Hr5.out.blt hb; omega))
              have hc8 := hide (hch.trans (Ch.of_grown g8) fun b hb => .inr (Hown.out b hb))
              have ho8 := hide (show ∀ q, v8.ownBlock = some q → w5.heap.size ≤ q from fun q hq => by
                rcases a8 with a8 | a8
                · exact Hown.out q (a8 ▸ hq)
                · rw [a8] at hq; injection hq with hq; have := hch.size; omega)
              have hrow8 := hide (show Row w8 5 v8 (got.map encB) by simpa using h8)
              clear h8 g8 a8
              go_wp2_with fail
              go_roundw
              case rel => exact ⟨k + 1, _, _, got, rest, by omega, by go_num, Hgr.out, hr8.out, hrow8.out, ho8.out, hc8.out⟩
              case measure => simp [intOf]; omega
        · have hc := hide (cut_calls g10 A' c' rest S10 rest.length wr Hrr.out (Nat.le_refl _) (by omega))
          have hl := hide (left_calls g10 A' c' rest S10 wr Hrr.out)
          have hlg' := hide hlg
          clear hlg
          go_wp2_with fail
          refine hl.out.mono ?_
          rintro e w6 ⟨rfl, rfl⟩
          go_wp2_with fail
          refine hc.out.mono ?_
          rintro e w6 ⟨v6, A6, rfl, hrow6, hown6, hr6, hc6⟩
          rw [List.take_length] at hrow6
          rw [List.drop_length] at hr6
          obtain ⟨A7, c7, rfl, -, -⟩ := hrow6.shape
          have lr := hide (show (rest.map encB).length = rest.length by simp)
          have lmg := hide (show (got.map encB).length = got.length by simp)
          rw [lr.out] at hrow6 hown6 ⊢
          have hgotr := Hrow.out.keep (w' := w6) (fun q hq => hc6.block q (Hrow.out.lt hq) (fun e => by have := Hown.out q hq; omega))
          have Hgotr := hide hgotr
          have Hrow6 := hide hrow6
          have Hr6 := hide hr6
          have Hc6 := hide (hch.trans hc6 fun b hb => .inl hb)
          have hI6 := hide (hI5.out.ch Hc6.out fun q hq => by
            subst hq
            exact ⟨by omega, fun hf => by have := hgI.out q (.inr hf); omega, fun e => by have := hgI.out q (.inl e); omega⟩)
          have hb6 := hide (Hc6.out.below hb5.out (by omega) (fun q hq => by rw [hq]; omega))
          clear hgotr hrow6 hown6 hr6 hc6 hc hl hch hbr
          obtain ⟨Av, cv, rfl, -, -⟩ := hI6.out.row.shape
          have lal := hide (show (al.map encB).length = n by rw [List.length_map, Hnl.out])
          rw [lal.out] at hI6 hgI hI5 hI3 hI2 HI ⊢
          go_wp2_with fail
          have hcv := hide (fun (x : World) (hx : WriI (w1.heap.size + 1) w2 x (w1.heap.size + 1) (Value.slice Av n cv) vw al al) => by
            have := run_str (P := Try.prog) (w := x) Try.underlying24 Try.underlying5 Try.underlying9 hx.row.src cv
            rwa [Hnl.out] at this)
          have Hgr' := hide Hgr.out
          have s6 := hcv.out w6 hI6.out
          have s6d := hcv.out w6.drew hI6.out.drew
          generalize hstr : bstr al = str at hcv s6 s6d
          have Hstr := hide hstr
          clear hstr
          go_region_held_law (fun x => Sem.run Try.prog (convert 24 9 (.slice Av n cv)) x = Result.ok (.string str) x) (assumption) (first
            | (rw [if_pos (by rfl)]
               refine op_app 87 rfl (.tmp 85) (.tmp 86) 24 rfl Try.underlying24 infoB rfl (us := got.map encB) (by rfl) (Hgotr.out.keep (w' := w6.drew) fun _ _ => rfl) (A := A7) (c := c7) (news := rest.map encB) (by rw [lr.out]; rfl) (Hrow6.out.keep (w' := w6.drew) fun _ _ => rfl).src (encB_one _) (by rw [lr.out, lmg.out]; have := hlg'.out; omega) (by rw [lr.out, lmg.out]; have := hlg'.out; unfold maxLen; omega) ?_
               intro v7 w7 h7 g7 a7
               have hI7 := hide (hI6.out.drew.ch (Ch.of_grown g7) fun q hq => by
                 have h9 := Hown.out q hq
                 exact ⟨by omega, fun hf => by have := hgI.out q (.inr hf); omega, fun e => by have := hgI.out q (.inl e); omega⟩)
               have s7 := hcv.out w7 hI7.out
               have hr7 := hide ((Hr6.out.ch (Ch.of_below (S := fun _ => False) (Below.refl _ _).drew) (fun _ _ h => h)).ch (Ch.of_grown g7) (fun b hb e => by have h1 := Hown.out b e; have h2 := Hr5.out.blt hb; omega))
               rw [← List.map_append, Hgr'.out] at h7
               obtain ⟨A77, c77, rfl, -, -⟩ := h7.shape
               have t7 := run_str (P := Try.prog) (w := w7) Try.underlying24 Try.underlying5 Try.underlying9 h7.src c77
               have hb7 := hide ((Ch.of_grown g7).below (hb6.out.drew) (by have := hb6.out.size; have := Hc6.out.size; simp only [World.drew]; omega) (fun q hq => by have := Hown.out q hq; omega))
               rw [Hnl.out, Hstr.out] at t7
               rw [lal.out] at a7 ⊢
               clear h7 g7 a7)
            | (go_at_call 17
               refine (bytes_calls (w1.heap.size + 1) vw al _ hI7.out.wri (by rw [Hnl.out]; omega)).mono ?_
               rintro e w8 ⟨v8, rfl, hf8⟩
               have hI8 := hide (hI7.out.later hf8.2.1)
               have s8 := hcv.out w8 hI8.out
               have hr8 := hide (hr7.out.ch (Ch.of_below (S := fun _ => False) hf8.2.1) (fun _ _ h => h))
               obtain ⟨A8, c8, rfl, -, -⟩ := hf8.shape
               have t8 := run_str (P := Try.prog) (w := w8) Try.underlying24 Try.underlying5 Try.underlying9 hf8.1.src c8
               have hb8 := hide (hb7.out.trans (hf8.2.1.mono hb7.out.size))
               rw [Hnl.out, Hstr.out] at t8
               rw [Hnl.out]
               clear hf8)
            | (go_at_call 19
               refine (left_calls g10 _ _ _ S10 _ hr8.out).mono ?_
               rintro e w9 ⟨rfl, rfl⟩))
          go_wp2_with fail

          exact hR.out _ _ ⟨rfl, hb1.trans (hb8.out.mono hb1.size)⟩
end Go.Proofs.Ytoiojkjmldlhcaa
