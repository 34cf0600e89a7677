/- The reference's cutting and joining. -/
import Derived.Test.YtkmnlelfofebfaaSeg
import Derived.Test.YtkmnlelfofebfaaSame12
set_option linter.unusedVariables false
set_option linter.unusedSimpArgs false
namespace Go.Proofs.Ytkmnlelfofebfaa
open Go.RowKit

theorem cutL_get? (o : List UInt8) (p B k : Nat) (hk : k < B) : (cutL o p B)[k]? = some (o.getD (p + k) 0) := by
  unfold cutL
  by_cases h : p + k < o.length
  · rw [List.getElem?_append_left (by rw [List.length_take, List.length_drop]; omega), List.getElem?_take_of_lt hk, List.getElem?_drop]
    simp [List.getD, h]
  · rw [List.getElem?_append_right (by rw [List.length_take, List.length_drop]; omega), List.getElem?_replicate, List.length_take, List.length_drop, if_pos (by omega)]
    simp [List.getD, List.getElem?_eq_none (Nat.le_of_not_lt h)]
theorem cutL_succ (o : List UInt8) (p B k : Nat) (hk : k < B) : (cutL o p B).take (k + 1) = (cutL o p B).take k ++ [o.getD (p + k) 0] := by
  have h := cutL_get? o p B k hk
  have hl : k < (cutL o p B).length := by rw [cutL_len]; exact hk
  rw [List.getElem?_eq_getElem hl] at h
  injection h with h
  rw [List.take_succ_eq_append_getElem hl, h]
theorem splitL_succ (N B : Nat) (o : List UInt8) (k : Nat) (hk : k < N) : (splitL N B o).take (k + 1) = (splitL N B o).take k ++ [cutL o (k * B) B] := by
  have h := splitL_get? N B o k
  have hl : k < (splitL N B o).length := by rw [splitL_len]; exact hk
  rw [if_pos hk, List.getElem?_eq_getElem hl] at h
  injection h with h
  rw [List.take_succ_eq_append_getElem hl, h]
/-- A row of bytes of the call's own, as a slice. -/
theorem Row.kd {w : World} {e : TypeId} {v : Value} {xs : List UInt8} (h : Row w e v (xs.map encB)) : ∃ A c, v = .slice A xs.length c ∧ xs.length ≤ c ∧ c ≤ maxLen ∧ (Kd.sl Kd.byte).R (fun k => v.ownBlock = some k) w xs [v] := by
  obtain ⟨A, c, rfl, h1, h2⟩ := h.shape
  rw [List.length_map] at h1 h
  exact ⟨A, c, by rw [List.length_map], h1, h2, A, c, by rw [List.length_map], h1, h2, by rw [List.length_map]; exact h.rd rfl _ (fun _ h => h) (fun x => ⟨_, rfl, rfl⟩)⟩
theorem OwnL.lit {w : World} {e : TypeId} : OwnL w.heap.size (w.alloc (.cells #[] e)) e (.slice (some ⟨w.heap.size, 0, none⟩) 0 0) [] [] :=
  ⟨Row.lit [] (by simp), rfl, fun i u xs hu _ => by simp at hu, fun k hk => by simp [Value.ownBlock] at hk; omega⟩
/-- append of one block: what it leaves. -/
theorem own_push {B0 : Nat} {wo wr w' : World} {e t1 : TypeId} {v v' z : Value} {us : List Value} {xss : List (List UInt8)} {xs : List UInt8} (h : OwnL B0 wo e v us xss) (hb : Below wo.heap.size wo wr) (hB : B0 ≤ wo.heap.size)
    (hr : Row wr 5 z (xs.map encB)) (hz : ∀ k, z.ownBlock = some k → wo.heap.size ≤ k)
    (h' : Row w' e v' (us ++ [z])) (hg : (wr.alloc (.cells #[z] t1)).grownBy w' v.ownBlock) (hat : v'.ownBlock = v.ownBlock ∨ v'.ownBlock = some (wr.alloc (.cells #[z] t1)).heap.size) :
    OwnL B0 w' e v' (us ++ [z]) (xss ++ [xs]) ∧ Ch (fun b => v.ownBlock = some b) wr w' := by
  obtain ⟨A, c, rfl, h1, h2, hk⟩ := hr.kd
  have hs := hb.size
  have h3 : OwnL B0 (wr.alloc (.cells #[.slice A xs.length c] t1)) e v us xss := (h.below hb).below (balloc _ _)
  refine ⟨h3.push (by simp; omega) ((Kd.sl Kd.byte).keep (fun k hk => Below.heap_alloc wr _ k (hr.lt hk)) hk) (fun k hk => ⟨by have := hz k hk; omega, by have := hr.lt hk; simp; omega, fun e => ?_⟩) h' hg hat, (Ch.alloc (S := fun b => v.ownBlock = some b) wr _).trans (Ch.of_grown hg) fun b hb => .inl hb⟩
  have := hz k hk
  have := h.row.lt e.symm
  omega

/-- append of one byte: what it leaves. -/
theorem bytes_step {wo wr w' : World} {e t1 : TypeId} {v v' z : Value} {x : UInt8} {l l' : List UInt8} (hl : l' = l ++ [x]) (hb : Below wo.heap.size wo wr) (hz : ∀ q, v.ownBlock = some q → wo.heap.size ≤ q) (hr : Row wr e v (l.map encB)) (hzx : [z] = [x].map encB)
    (h1 : Row w' e v' (l.map encB ++ [z])) (h2 : (wr.alloc (.cells #[z] t1)).grownBy w' v.ownBlock) (h3 : v'.ownBlock = v.ownBlock ∨ v'.ownBlock = some (wr.alloc (.cells #[z] t1)).heap.size) :
    Row w' e v' (l'.map encB) ∧ Below wo.heap.size wo w' ∧ (∀ q, v'.ownBlock = some q → wo.heap.size ≤ q) := by
  have hs := hb.size
  refine ⟨by rw [hl, List.map_append, ← hzx]; exact h1, hb.trans (((Ch.alloc (S := fun b => v.ownBlock = some b) wr _).trans (Ch.of_grown h2) fun b hb => .inl hb).toBelow (B := wo.heap.size) hs hz), fun q hq => ?_⟩
  rcases h3 with h3 | h3
  · exact hz q (h3 ▸ hq)
  · rw [h3] at hq; injection hq with hq; simp at hq; omega
theorem encB_lit (x : UInt8) : [encB x] = [x].map encB := rfl
set_option maxHeartbeats 1000000 in
theorem refsplit_calls (N B : Nat) (Q E F : Int) (A : Option Addr) (o : List UInt8) (c : Nat) (w : World) (hN : N ≤ 1000) (hB : B ≤ 1000) (hm : c ≤ maxLen) (hc : o.length ≤ c)
    (ho : RdL Kd.byte (· < w.heap.size) w A o) :
    Calls Try.prog 11 #[pV N B Q E F, .slice A o.length c] w fun e w' => ∃ v us, e = .returned v ∧ OwnL w.heap.size w' 24 v us (splitL N B o) ∧ Below w.heap.size w w' := by
  refine cps fun R hR => ?_
  have Ho := hide ho
  unfold maxLen at hm
  obtain ⟨W, hW, hb, hs, ⟨c0, c1, -, -, -⟩⟩ := box5 w N B Q E F 23
  clear ho
  go_enter Try.func11, Try.ntmps11
  go_wp2_with fail
  rw [← hW]
  have hl0 := hide (OwnL.lit (w := W) (e := 24))
  have es : w.heap.size + 1 = W.heap.size := by rw [hW]; simp
  rw [es]
  have hWs := hs
  clear hW es
  go_loopw [5, 6] (fun v i wr => ∃ (k : Nat) (us : List Value), k ≤ N ∧ i = .int .i64 (k : Int) ∧ OwnL W.heap.size wr 24 v us ((splitL N B o).take k) ∧ Below W.heap.size W wr) (fun _ i _ => N - (intOf i).toNat)
  case atStart => exact ⟨0, [], Nat.zero_le _, rfl, by rw [List.take_zero]; exact hl0.out, balloc _ _⟩
  case round =>
    obtain ⟨k, us, hk, rfl, hown, hbr⟩ := hrel
    have d0 := (hbr.cell hs).trans c0
    have d1 := (hbr.cell hs).trans c1
    by_cases hlt : k < N
    · have hsp := hide (splitL_succ N B o k hlt)
      have hkl : ((splitL N B o).take k).length = k := by rw [List.length_take, splitL_len]; omega
      have hul := hide (hown.len.trans hkl)
      have Hown := hide hown
      have Hbr := hide hbr
      obtain ⟨p, hp⟩ : ∃ p, p = k * B := ⟨_, rfl⟩
      have ep : IntKind.i64.wrap ((k : Int) * (B : Int)) = (p : Int) := by
        have h1 : p ≤ 1000 * 1000 := by rw [hp]; exact Nat.mul_le_mul (by omega) hB
        rw [show (k : Int) * (B : Int) = (p : Int) by rw [hp]; simp, IntKind.wrap_i64]; omega
      have hp1 : p ≤ 1000 * 1000 := by rw [hp]; exact Nat.mul_le_mul (by omega) hB
      rw [← hp] at hsp
      have ep' : (k : Int) * (B : Int) = (p : Int) := by rw [hp]; simp
      have Ep := hide ep'
      clear hp hkl hown hbr ep'
      go_wp2_with fail
      obtain ⟨wo, rfl⟩ : ∃ wo : World, wo = wr := ⟨_, rfl⟩
      have hr0 := hide (Row.lit (w := wo) (e := 5) [] (by simp))
      have hso := hide (Hbr.out.size)
      go_loopw [7, 8] (fun v i wr => ∃ j : Nat, j ≤ B ∧ i = .int .i64 (j : Int) ∧ Row wr 5 v (((cutL o p B).take j).map encB) ∧ Below wo.heap.size wo wr ∧ (∀ q, v.ownBlock = some q → wo.heap.size ≤ q)) (fun _ i _ => B - (intOf i).toNat)
      case atStart => exact ⟨0, Nat.zero_le _, rfl, by rw [List.take_zero]; exact hr0.out, balloc _ _, fun q hq => by simp [Value.ownBlock] at hq; omega⟩
      case round =>
        obtain ⟨j, hj, rfl, hrow, hbr, hzo⟩ := hrel
        have f0 := (hbr.cell (by have := hso.out; show w.heap.size < _; omega)).trans d0
        have f1 := (hbr.cell (by have := hso.out; show w.heap.size < _; omega)).trans d1
        clear d0 d1
        by_cases hjl : j < B
        · have hcs := hide (cutL_succ o p B j hjl)
          have hcl : ((cutL o p B).take j).length = j := by rw [List.length_take, cutL_len]; omega
          have Hcl := hide hcl
          have Hrow := hide hrow
          have Hbr2 := hide hbr
          have Hzo := hide hzo
          have hor := hide ((Ho.out.below (hb.trans ((Hbr.out.trans (hbr.mono hso.out)).mono (Nat.le_of_lt hs)))))
          have j1 : (p : Int) + (j : Int) ≤ 1001000 := by omega
          clear hrow hbr hzo hcl
          by_cases hpo : p + j < o.length
          · obtain ⟨b, off, u, rfl, hsb, hu, hcell⟩ := hor.out.at1 rfl hpo
            obtain rfl := Kd.byte_cell hu
            have hx := hide (show o.getD (p + j) 0 = o[p + j] by simp [List.getD, hpo])
            rw [hx.out] at hcs
            have hpo' : (p : Int) + (j : Int) < (o.length : Int) := by omega
            clear hu hx
            generalize o[p + j] = x at hcell hcs
            have hsrc := hide (Src.lit1 wr (.int .u8 (x.toNat : Int)) 5)
            have hr1 := hide (Hrow.out.keep (w' := wr.alloc (.cells #[.int .u8 (x.toNat : Int)] 5)) fun q hq => Below.heap_alloc wr _ q (Hrow.out.lt hq))
            go_wp2_with (at_builtin; with_reducible refine wp_app 45 rfl rfl (.tmp 42) (.tmp 44) 24 rfl Try.underlying24 infoB ?_ (us := ((cutL o p B).take j).map encB) ?_ hr1.out (A := some ⟨wr.heap.size, 0, none⟩) (c := 1) (news := [.int .u8 (x.toNat : Int)]) ?_ hsrc.out ?_ ?_ ?_ ?_)
            case refine_1 => rfl
            case refine_2 => rfl
            case refine_3 => rfl
            case refine_4 => intro u hu; simp at hu; subst hu; rfl
            case refine_5 => rw [List.length_map, Hcl.out]; simp; omega
            case refine_6 => rw [List.length_map, Hcl.out]; simp [maxLen]; omega
            intro v' w' h1 h2 h3
            have hfin := hide (bytes_step hcs.out Hbr2.out Hzo.out Hrow.out (encB_lit x) h1 h2 h3)
            clear h1 h2 h3
            go_wp2_with fail
            go_roundw
            case rel => exact ⟨j + 1, by omega, by go_num, hfin.out⟩
            case measure => simp [intOf]; omega
          · have hx := hide (show o.getD (p + j) 0 = 0 by simp [List.getD, List.getElem?_eq_none (Nat.le_of_not_lt hpo)])
            rw [hx.out] at hcs
            have hpo' : (o.length : Int) ≤ (p : Int) + (j : Int) := by omega
            have hsrc := hide (Src.lit1 wr (.int .u8 0) 5)
            have hr1 := hide (Hrow.out.keep (w' := wr.alloc (.cells #[.int .u8 0] 5)) fun q hq => Below.heap_alloc wr _ q (Hrow.out.lt hq))
            go_wp2_with (at_builtin; with_reducible refine wp_app 45 rfl rfl (.tmp 42) (.tmp 44) 24 rfl Try.underlying24 infoB ?_ (us := ((cutL o p B).take j).map encB) ?_ hr1.out (A := some ⟨wr.heap.size, 0, none⟩) (c := 1) (news := [.int .u8 0]) ?_ hsrc.out ?_ ?_ ?_ ?_)
            case refine_1 => rfl
            case refine_2 => rfl
            case refine_3 => rfl
            case refine_4 => intro u hu; simp at hu; subst hu; rfl
            case refine_5 => rw [List.length_map, Hcl.out]; simp; omega
            case refine_6 => rw [List.length_map, Hcl.out]; simp [maxLen]; omega
            intro v' w' h1 h2 h3
            have hfin := hide (bytes_step hcs.out Hbr2.out Hzo.out Hrow.out (encB_lit 0) h1 h2 h3)
            clear h1 h2 h3
            go_wp2_with fail
            go_roundw
            case rel => exact ⟨j + 1, by omega, by go_num, hfin.out⟩
            case measure => simp [intOf]; omega
        · obtain rfl : B = j := by omega
          rw [List.take_of_length_le (by rw [cutL_len]; exact Nat.le_refl _)] at hrow
          obtain ⟨A7, c7, rfl, hc7, hm7, -⟩ := hrow.kd
          rw [cutL_len] at hc7
          have Hrow := hide hrow
          have Hbr2 := hide hbr
          have Hzo := hide hzo
          have Hul := hul.out
          clear hrow hbr hzo hjl
          rw [cutL_len] at *
          have hr49 := hide (Hown.out.row.keep (w' := wr.alloc (.cells #[.slice A7 B c7] 24)) fun q hq => (Below.heap_alloc wr _ q (Nat.lt_of_lt_of_le (Hown.out.row.lt hq) Hbr2.out.size)).trans (Hbr2.out.block q (Hown.out.row.lt hq)))
          have hs49 := hide (Src.lit1 wr (.slice A7 B c7) 24)
          go_wp2_with (at_builtin; with_reducible refine wp_app 49 rfl rfl (.tmp 46) (.tmp 48) 26 rfl Try.underlying26 infoSB ?_ (us := us) ?_ hr49.out (A := some ⟨wr.heap.size, 0, none⟩) (c := 1) (news := [.slice A7 B c7]) ?_ hs49.out ?_ ?_ ?_ ?_)
          case refine_1 => rfl
          case refine_2 => rfl
          case refine_3 => rfl
          case refine_4 =>
            intro u hu; simp at hu; subst hu; rfl
          case refine_5 => rw [Hul]; simp; omega
          case refine_6 => rw [Hul]; simp [maxLen]; omega
          intro v' w' h1 h2 h3
          have hp := own_push Hown.out Hbr2.out hso.out Hrow.out Hzo.out h1 h2 h3
          rw [← hsp.out] at hp
          have hfin := hide hp.1
          have hbf := hide (hp.2.below (Hbr.out.trans (Hbr2.out.mono hso.out)) (Nat.le_trans hso.out Hbr2.out.size) fun b hb => Hown.out.own b hb)
          clear h1 h2 h3 hp
          go_wp2_with fail
          go_roundw
          case rel => exact ⟨k + 1, _, by omega, by go_num, hfin.out, hbf.out⟩
          case measure => simp [intOf]; omega
    · obtain rfl : N = k := by omega
      rw [List.take_of_length_le (by rw [splitL_len]; exact Nat.le_refl _)] at hown
      have Hown := hide hown
      clear hown
      go_wp2_with fail
      exact hR.out _ _ ⟨_, _, rfl, ⟨Hown.out.row, Hown.out.len, fun i u xs hu hx => (Kd.sl Kd.byte).mono (fun k hk => ⟨by have := hk.1; omega, hk.2⟩) (Hown.out.el i u xs hu hx), fun k hk => by have := Hown.out.own k hk; omega⟩, hb.trans (hbr.mono (Nat.le_of_lt hs))⟩
end Go.Proofs.Ytkmnlelfofebfaa
