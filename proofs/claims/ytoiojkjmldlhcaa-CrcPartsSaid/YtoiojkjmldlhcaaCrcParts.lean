/- CrcParts, walked. -/
import Derived.Test.YtoiojkjmldlhcaaCrcLaws
set_option linter.unusedVariables false
set_option linter.unusedSimpArgs false
namespace Go.Proofs.Ytoiojkjmldlhcaa
open Go.RowKit

theorem eq_self32 (r : UInt32) : (((r.toNat : Int)) == (r.toNat : Int)) = true := by simp
set_option maxHeartbeats 1000000 in
theorem CrcParts_calls (B : Option Addr) (l : List (List UInt8)) (d : Nat) (w : World) (hd : d ≤ maxLen) (hdl : l.length ≤ d) (hb : RdL (Kd.sl Kd.byte) (· < w.heap.size) w B l) :
    Calls Try.prog 8 #[.slice B l.length d] w fun e w' => e = .returned (.bool true) ∧ Below w.heap.size w w' := by
  refine cps fun R hR => ?_
  have hd' := hd
  unfold maxLen at hd'
  go_enter Try.func8, Try.ntmps8
  go_wp2_with fail
  refine (crcspeaks_calls w).mono ?_
  rintro e w1 ⟨rfl, hb1⟩
  replace hb := (hb.below hb1).mono fun k h => Nat.lt_of_lt_of_le h hb1.size
  by_cases h50 : 50 < l.length
  · clear hb
    go_wp2_with fail
    exact hR.out _ _ ⟨rfl, hb1⟩
  have Hb := hide hb
  clear hb
  go_wp2_with fail
  go_loopw [3, 14] (fun p i wr => ∃ (k : Nat), k ≤ l.length ∧ i = .int .i64 (k : Int) ∧ (l.take k).flatten.length ≤ 200 * k ∧ Fresh w1 wr p (l.take k).flatten) (fun _ i _ => l.length - (intOf i).toNat)
  case atStart => exact ⟨0, Nat.zero_le _, rfl, by simp, Row.nil, Below.refl _ _, fun q hq => by simp [Value.ownBlock] at hq⟩
  case round =>
    obtain ⟨k, hk, rfl, hfl, hF⟩ := hrel
    have HF := hide hF
    clear hF
    by_cases hlt : k < l.length
    · obtain ⟨b, off, u, rfl, hsb, hu, hcell⟩ := (Hb.out.below HF.out.2.1).at1 rfl hlt
      obtain ⟨Ab, cb, rfl, hcb, hmb, hrd⟩ := Kd.sl_cell hu
      have Hrd := hide hrd
      have Hsn := hide (show (l.take (k + 1)).flatten = (l.take k).flatten ++ l[k] by rw [List.take_succ_eq_append_getElem hlt, List.flatten_append, List.flatten_cons, List.flatten_nil, List.append_nil])
      clear hu hrd
      generalize l[k] = x at hcell Hrd Hsn hcb
      generalize (l.take k).flatten = a at hfl HF Hsn
      generalize hlx : x.length = n at hcell hcb
      have Hlx := hide hlx
      clear hlx
      by_cases hbig : 200 < n
      · go_wp2_with fail
        exact hR.out _ _ ⟨rfl, hb1.trans (HF.out.2.1.mono hb1.size)⟩
      have lma := hide (show (a.map encB).length = a.length by simp)
      have lmx := hide (show (x.map encB).length = n by rw [List.length_map, Hlx.out])
      go_wp2_with (at_builtin; with_reducible refine wp_app 23 rfl rfl (.tmp 21) (.tmp 22) 24 rfl Try.underlying24 infoB ?_ (us := a.map encB) ?_ HF.out.row (A := Ab) (c := cb) (news := x.map encB) ?_ Hrd.out.srcB (encB_one x) ?_ ?_ ?_)
      case refine_1 => rfl
      case refine_2 => rfl
      case refine_3 => rw [lmx.out]; rfl
      case refine_4 => rw [lmx.out, lma.out]; omega
      case refine_5 => rw [lmx.out, lma.out]; unfold maxLen; omega
      case refine_6 =>
        intro v5 w5 h5 g5 a5
        have hI5 := hide (HF.out.grow (ys := x) (by rw [List.map_append]; exact h5) g5 a5)
        clear h5 g5 a5
        go_wp2_with fail
        go_roundw
        case rel => exact ⟨k + 1, by omega, by go_num, by rw [Hsn.out, List.length_append, Hlx.out]; omega, by rw [Hsn.out]; exact hI5.out⟩
        case measure => simp [intOf]; omega
    · obtain rfl : k = l.length := by omega
      rw [List.take_length] at hfl HF
      obtain ⟨Av, cv, rfl, hcv, hmv⟩ := HF.out.shape
      have hs1 := HF.out.2.1.size
      go_wp2_with fail
      refine (new_calls wr).mono ?_
      rintro e w2 ⟨rfl, ht2, hb2, hlt2⟩
      have hbs := HF.out.2.1.trans (hb2.mono hs1)
      have hs2 := hbs.size
      have hsum := hide (sum_calls wr.heap.size B l d _ w2 ht2 hd hdl (Hb.out.below hbs))
      have HF2 := hide (HF.out.1.keep (w' := w2) fun k hk => hb2.block k (HF.out.1.lt hk))
      have Ht2 := hide ht2
      have hend := hb1.trans (hbs.mono hb1.size)
      have hsum2 := hide (sum_calls wr.heap.size _ [l.flatten] 1 _ (w2.alloc (.cells #[.slice Av l.flatten.length cv] 24)) (ht2.keep ((balloc w2 _).block _ ht2.lt)) (by simp [maxLen]) (by simp) (lit1b rfl hcv hmv (HF2.out.rd (d := Kd.byte) rfl (fun k => (Value.slice Av l.flatten.length cv).ownBlock = some k) (fun b hb => hb) fun x => ⟨_, rfl, rfl⟩) (fun k hk => HF2.out.lt hk) 24))
      rw [show [l.flatten].flatten = l.flatten by simp, show ([l.flatten] : List (List UInt8)).length = 1 from rfl] at hsum2
      have hq := eq_self32 (crcS l.flatten)
      generalize crcS l.flatten = sm at hsum hsum2 hq
      generalize l.flatten.length = n at hsum2 ⊢
      clear ht2 hb2 hcv hfl
      go_wp2_with fail
      refine hsum.out.mono ?_
      rintro e w3 ⟨rfl, rfl⟩
      go_wp2_with fail
      refine hsum2.out.mono ?_
      rintro e w3 ⟨rfl, rfl⟩
      go_wp2_with fail
      exact hR.out _ _ ⟨rfl, hend.alloc (Nat.le_trans hb1.size hs2) _⟩
end Go.Proofs.Ytoiojkjmldlhcaa
