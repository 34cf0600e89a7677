/- The blocks of an equation that are left, and what is left of its value. -/
import Derived.Test.YtdppjhfndolbjaaBatA
set_option linter.unusedVariables false
set_option linter.unusedSimpArgs false
namespace Go.Proofs.Ytdppjhfndolbjaa
open Go.RowKit

theorem infoI : (Try.prog.info? 3).map (fun i => (i.zero, i.size, i.bytes)) = some (some (.int .i64 0), 1, 8) := by kernel_rfl
theorem infoSB : (Try.prog.info? 38).map (fun i => (i.zero, i.size, i.bytes)) = some (some (.slice none 0 0), 1, 24) := by kernel_rfl
theorem left_take {vs : Vals} {of : List Int} {k : Nat} (hk : k < of.length) : leftV vs (of.take (k + 1)) = leftV vs (of.take k) ++ (if knB vs of[k] = true then [] else [of[k]]) := by
  rw [List.take_succ_eq_append_getElem hk, leftV, List.filter_append]
  congr 1
  cases h : knB vs of[k] <;> simp [h]
/-- A row of numbers of the call's own. -/
structure OI (w0 w : World) (v : Value) (l : List Int) : Prop where
  row : Row w 3 v (l.map encI)
  own : ∀ z, v.ownBlock = some z → w0.heap.size ≤ z
  bel : Below w0.heap.size w0 w
theorem OI.push {w0 w w' : World} {v v' : Value} {l : List Int} {x : Int} {o : Obj} (h : OI w0 w v l) (hr : Row w' 3 v' (l.map encI ++ [.int .i64 x])) (hg : (w.alloc o).grownBy w' v.ownBlock) (ho : v'.ownBlock = v.ownBlock ∨ v'.ownBlock = some (w.alloc o).heap.size) : OI w0 w' v' (l ++ [x]) := by
  have hz := h.bel.size
  refine ⟨by rw [List.map_append]; exact hr, fun z hz' => ?_, (Ch.of_grown hg).below (h.bel.alloc hz o) (by simp; omega) h.own⟩
  rcases ho with e | e
  · exact h.own z (e ▸ hz')
  · rw [hz'] at e; injection e with e; simp at e; omega
theorem OI.shape {w0 w : World} {v : Value} {l : List Int} (h : OI w0 w v l) : ∃ A c, v = .slice A l.length c ∧ l.length ≤ c ∧ c ≤ maxLen := by
  obtain ⟨A, c, e, h1, h2⟩ := h.row.shape
  rw [List.length_map] at e h1
  exact ⟨A, c, e, h1, h2⟩
set_option maxHeartbeats 2000000 in
theorem left_calls {A B : Option Addr} {of : List Int} {c lv d : Nat} {vs : Vals} {S : Nat → Prop} {w : World} {p : Addr} (hc : of.length ≤ c) (hm : c ≤ maxLen) (hl : of.length ≤ 100000) (h : RdL kInt S w A of) (hS : ∀ k, S k → k < w.heap.size)
    (hk : ∀ y : World, Below w.heap.size w y → ∀ i, Calls Try.prog 21 #[.int .i64 i, .pointer (some p)] y fun e w' => e = .returned (.bool (knB vs i)) ∧ y = w') :
    Calls Try.prog 24 #[.agg #[.slice A of.length c, .slice B lv d], .func (.func 21) #[] #[.pointer (some p)]] w fun e w' => ∃ v, e = .returned v ∧ OI w w' v (leftV vs of) := by
  refine cps fun R hR => ?_
  unfold maxLen at hm
  obtain ⟨w1, hw1⟩ : ∃ w1, w1 = w.alloc (.cells #[.slice A of.length c, .slice B lv d] 43) := ⟨_, rfl⟩
  have hb1 : Below w.heap.size w w1 := by rw [hw1]; exact balloc w _
  have hh : w1.heap[w.heap.size]? = some (.cells #[.slice A of.length c, .slice B lv d] 43 (0, 0)) := by rw [hw1]; exact heap_alloc_new w _
  have c0 : w1.cell? ⟨w.heap.size, 0, none⟩ = some (.slice A of.length c) := by rw [cell_of_row _ _ 0 _ _ _ hh]; rfl
  have H := hide (h.keep (w' := w1) fun k hk => hb1.block k (hS k hk))
  have HS := hide hS
  have Hk := hide hk
  have Hw1 := hide hw1
  have Hb1 := hide hb1
  clear h hS hk hw1 hb1 hh
  obtain ⟨L, hL⟩ : ∃ L, L = of.length := ⟨_, rfl⟩
  rw [← hL] at hc hl c0 Hw1 ⊢
  have HL := hide hL
  clear hL
  go_enter Try.func24, Try.ntmps24
  go_upto_region 1 with fail
  rw [← Hw1.out]
  clear Hw1
  go_wp2_with fail
  go_loopw [5, 11] (fun v i wr => ∃ k : Nat, k ≤ L ∧ i = .int .i64 (k : Int) ∧ OI w1 wr v (leftV vs (of.take k))) (fun _ i _ => L - (intOf i).toNat)
  case atStart => exact ⟨0, Nat.zero_le _, rfl, Row.nil, (fun z hz => by cases hz), Below.refl _ _⟩
  case round =>
    obtain ⟨k, hkl, rfl, ho⟩ := hrel
    obtain ⟨Ao, co, rfl, hco, hcm⟩ := ho.shape
    have Hbw := hide (Hb1.out.trans (ho.bel.mono Hb1.out.size))
    by_cases hlt : k < L
    · have hko : k < of.length := by rw [← HL.out]; exact hlt
      have hS1 : ∀ z, S z → z < w1.heap.size := fun z hz => Nat.lt_of_lt_of_le (HS.out z hz) Hb1.out.size
      obtain ⟨b, off, u, rfl, -, hu, hcx⟩ := (H.out.keep (w' := wr) fun z hz => ho.bel.block z (hS1 z hz)).at1 rfl hko
      obtain rfl := (Kd.int_cell hu).1
      have htk := left_take (vs := vs) hko
      have hll : (leftV vs (of.take k)).length ≤ k := by
        have h1 : (leftV vs (of.take k)).length ≤ (of.take k).length := List.length_filter_le _ _
        rw [List.length_take] at h1; omega
      obtain ⟨x, hx⟩ : ∃ x, x = of[k] := ⟨_, rfl⟩
      rw [← hx] at hcx htk
      have Htk := hide htk
      have Hkx := hide (Hk.out wr Hbw.out x)
      obtain ⟨ys, hys⟩ : ∃ ys, ys = leftV vs (of.take k) := ⟨_, rfl⟩
      rw [← hys] at ho hco hll Htk ⊢
      have Ho := hide ho
      have Hll := hide hll
      obtain ⟨kb, hkb⟩ : ∃ kb, kb = knB vs x := ⟨_, rfl⟩
      rw [← hkb] at Htk Hkx
      clear ho hu htk hx hys hkb hS1 hll
      go_wp2_with fail
      refine Hkx.out.mono ?_
      rintro _ w2 ⟨rfl, rfl⟩
      cases kb
      · have hr7 := hide (Ho.out.row.keep (w' := wr.alloc (.cells #[.int .i64 x] 3)) fun z hz => (balloc wr _).block z (Ho.out.row.lt hz))
        have s7 := hide (Src.lit1 wr (.int .i64 x) 3)
        have hym := hide (show (ys.map encI).length = ys.length from List.length_map _)
        go_wp2_with (at_builtin; with_reducible refine wp_app 22 rfl rfl (.tmp 19) (.tmp 21) 31 rfl Try.underlying31 infoI ?_ (us := ys.map encI) ?_ hr7.out (A := some ⟨wr.heap.size, 0, none⟩) (c := 1) (news := [.int .i64 x]) ?_ s7.out ?_ ?_ ?_ ?_)
        case refine_1 => rfl
        case refine_2 => rfl
        case refine_3 => rfl
        case refine_4 => intro u hu; simp at hu; subst hu; rfl
        case refine_5 => have := Hll.out; rw [hym.out, List.length_singleton]; omega
        case refine_6 => have := Hll.out; rw [hym.out, List.length_singleton]; unfold maxLen; omega
        case refine_7 =>
          intro v5 w5 hr5 g5 o5
          have Hnew := hide (Ho.out.push hr5 g5 o5)
          clear hr5 g5 o5
          go_wp2_with fail
          go_roundw
          case rel => exact ⟨k + 1, by omega, by go_num, by rw [Htk.out]; exact Hnew.out⟩
          case measure => simp [intOf]; omega
      · go_wp2_with fail
        go_roundw
        case rel => exact ⟨k + 1, by omega, by go_num, by rw [Htk.out, if_pos (by first | rfl | trivial), List.append_nil]; exact Ho.out⟩
        case measure => simp [intOf]; omega
    · obtain rfl : k = L := by omega
      have hfull : of.take k = of := List.take_of_length_le (by rw [← HL.out]; exact Nat.le_refl _)
      rw [hfull] at ho hco ⊢
      have Ho := hide ho
      clear ho hfull
      go_wp2_with fail
      exact hR.out _ _ ⟨_, rfl, Ho.out.row, fun z hz => Nat.le_trans Hb1.out.size (Ho.out.own z hz), Hbw.out⟩
end Go.Proofs.Ytdppjhfndolbjaa
