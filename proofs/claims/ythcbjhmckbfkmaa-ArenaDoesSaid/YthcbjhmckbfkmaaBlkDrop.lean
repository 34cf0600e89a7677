/- The reference's row of blocks: Drop. -/
import Derived.Test.YthcbjhmckbfkmaaBlk
import Derived.Test.YthcbjhmckbfkmaaAppS
set_option linter.unusedVariables false
set_option linter.unusedSimpArgs false
namespace Go.Proofs.Ythcbjhmckbfkmaa
open Go.RowKit

theorem infoBlk : (Try.prog.info? 53).map (fun i => (i.zero, i.size, i.bytes)) = some (some (.agg #[.int .i64 0, .slice none 0 0]), kBlk.sz, 32) := by kernel_rfl
def dropB (l : List (Int × List UInt8)) (n : Int) : List (Int × List UInt8) := l.filter fun p => p.1 != n
theorem drop_take {l : List (Int × List UInt8)} {n : Int} {k : Nat} (hk : k < l.length) : dropB (l.take (k + 1)) n = dropB (l.take k) n ++ (if l[k].1 = n then [] else [l[k]]) := by
  rw [List.take_succ_eq_append_getElem hk, dropB, List.filter_append]
  congr 1
  by_cases h : l[k].1 = n
  · simp [List.filter, h]
  · have hb : (l[k].1 != n) = true := by simp [h]
    simp [List.filter, h, hb]
theorem drop_len (l : List (Int × List UInt8)) (n : Int) (k : Nat) : (dropB (l.take k) n).length ≤ k := by
  have h1 : (dropB (l.take k) n).length ≤ (l.take k).length := List.length_filter_le _ _
  rw [List.length_take] at h1
  omega
theorem orow_lit0 {α : Type} {d : Kd α} {S : Nat → Prop} (w : World) (e : TypeId) : ORow d S (w.alloc (.cells #[] e)) e (.slice (some ⟨w.heap.size, 0, none⟩) 0 0) [] :=
  ⟨[], ⟨by simp, .inr ⟨_, _, _, rfl, Nat.zero_le _, heap_alloc_new w _, Nat.le_refl _, by unfold maxLen; omega, by simp, by simp⟩⟩, fun i x hx => by simp at hx⟩
/-- What is left of a row so far. -/
structure Dr (w wr : World) (S : Nat → Prop) (v : Value) (xs : List (Int × List UInt8)) : Prop where
  row : ORow kBlk S wr 53 v xs
  own : ∀ z, v.ownBlock = some z → w.heap.size ≤ z
  bel : Below w.heap.size w wr
set_option maxHeartbeats 2000000 in
theorem drop_calls (B : Option Addr) (l : List (Int × List UInt8)) (d : Nat) (n : Int) (S : Nat → Prop) (w : World) (hd : d ≤ maxLen) (hdl : l.length ≤ d) (hlen : l.length ≤ 1000000) (h : RdL kBlk S w B l) (hS : ∀ k, S k → k < w.heap.size) :
    Calls Try.prog 31 #[.slice B l.length d, .int .i64 n] w fun e w' => ∃ v, e = .returned v ∧ Dr w w' S v (dropB l n) := by
  refine cps fun R hR => ?_
  unfold maxLen at hd
  have H := hide h
  have HS := hide hS
  clear h hS
  obtain ⟨L, hL⟩ : ∃ L, L = l.length := ⟨_, rfl⟩
  rw [← hL] at hdl hlen ⊢
  have HL := hide hL
  clear hL
  have hd0 : Dr w (w.alloc (.cells #[] 53)) S (.slice (some ⟨w.heap.size, 0, none⟩) 0 0) [] := ⟨orow_lit0 w _, fun z hz => Nat.le_of_eq (by simpa [Value.ownBlock] using hz), balloc w _⟩
  have Hd0 := hide hd0
  clear hd0
  go_enter Try.func31, Try.ntmps31
  go_wp2_with fail
  go_loopw [5, 6] (fun v i wr => ∃ (k : Nat), k ≤ L ∧ i = .int .i64 (k : Int) ∧ Dr w wr S v (dropB (l.take k) n)) (fun _ i _ => L - (intOf i).toNat)
  case atStart => exact ⟨0, Nat.zero_le _, rfl, Hd0.out⟩
  case round =>
    obtain ⟨k, hk, rfl, hdr⟩ := hrel
    obtain ⟨Ao, co, rfl, hco, hcm⟩ := hdr.row.shape
    clear Hd0 hco hcm
    by_cases hlt : k < L
    · have hkl : k < l.length := by rw [← HL.out]; exact hlt
      have htk := drop_take (n := n) hkl
      have hfl := drop_len l n k
      obtain ⟨ys, hys⟩ : ∃ ys, ys = dropB (l.take k) n := ⟨_, rfl⟩
      rw [← hys] at hdr htk hfl ⊢
      clear hys
      obtain ⟨fl, hfl0⟩ : ∃ fl, fl = ys.length := ⟨_, rfl⟩
      have hbw := hdr.bel
      obtain ⟨b, off, Bx, c, rfl, hsb, hcx, hcy, h1, h2, h3, hk0⟩ := blk_at H.out hkl
      have qx := (hbw.cell (HS.out b hsb)).trans hcx
      have qy := (hbw.cell (HS.out b hsb)).trans hcy
      have hkb := kBlk.keep (w' := wr) (fun z hz => hbw.block z (HS.out z hz)) hk0
      obtain ⟨x, hx⟩ : ∃ x, x = l[k] := ⟨_, rfl⟩
      rw [← hx] at hkb qx qy htk
      obtain ⟨m, hm⟩ : ∃ m, m = x.1 := ⟨_, rfl⟩
      obtain ⟨xl, hxl⟩ : ∃ xl, xl = x.2.length := ⟨_, rfl⟩
      rw [← hm] at qx htk hkb
      rw [← hxl] at qy hkb
      rw [← hfl0] at hfl ⊢
      have Hkb := hide hkb
      have Htk := hide htk
      have Hdr := hide hdr
      have Hfl := hide hfl0
      clear hkb htk hdr hfl0 hm hxl hx hcx hcy h1 h2 h3 hk0 hsb hkl
      by_cases hx : m = n
      · have e1 : (m != n) = false := by simp [hx]
        have Hx := hide hx
        clear hx
        go_wp2_with fail
        go_roundw
        case rel =>
          refine ⟨k + 1, by omega, by go_num, ?_⟩
          rw [Htk.out, if_pos Hx.out, List.append_nil]
          have := Hdr.out
          rwa [← Hfl.out] at this
        case measure => simp [intOf]; omega
      · have e1 : (m != n) = true := by simp [hx]
        have Hx := hide hx
        clear hx
        have hsz := hide hbw.size
        have hrow1 : ORow kBlk S (wr.alloc (.cells #[.int .i64 m, .slice Bx xl c] 53)) 53 (.slice Ao fl co) ys := by
          rw [Hfl.out]
          exact Hdr.out.row.keep fun z hz => (balloc wr _).block z (hz.elim (fun h => Nat.lt_of_lt_of_le (HS.out z h) hsz.out) fun h => Hdr.out.row.lt h)
        have Hrow1 := hide hrow1
        have Hown1 := hide (show ∀ z, (Value.slice Ao fl co).ownBlock = some z → w.heap.size ≤ z by rw [Hfl.out]; exact Hdr.out.own)
        have Hbw := hide hbw
        clear hrow1 hbw
        go_wp2_with (at_builtin; with_reducible refine wp_push 27 rfl rfl (.tmp 21) (.tmp 26) 46 rfl Try.underlying46 infoBlk ?_ (S := S) (xs := ys) ?_ Hrow1.out (g := wr.heap.size) (y := x) (cs := [.int .i64 m, .slice Bx xl c]) ?_ (heap_alloc_new wr _) ?_ ?_ ?_ ?_ ?_ ?_)
        case refine_1 => rfl
        case refine_2 => rfl
        case refine_3 => rfl
        case refine_4 => exact kBlk.keep (fun z hz => (balloc wr _).block z (Nat.lt_of_lt_of_le (HS.out z hz) hsz.out)) Hkb.out
        case refine_5 => simp [Value.oneCell']
        case refine_6 => have := Hfl.out; omega
        case refine_7 => have := Hfl.out; unfold maxLen; omega
        case refine_8 => exact fun q hq => ⟨by have := HS.out q hq; have := hsz.out; simp; omega, fun e => by have := Hown1.out q e.symm; have := HS.out q hq; omega⟩
        case refine_9 =>
          intro v5 w5 hr5 g5 a5
          have hfin : Dr w w5 S v5 (ys ++ [x]) := by
            have s5 := g5.size
            have hbn : Below w.heap.size w (wr.alloc (.cells #[.int .i64 m, .slice Bx xl c] 53)) := Hbw.out.alloc hsz.out _
            refine ⟨hr5, fun z hz => ?_, (Ch.of_grown g5).below hbn (by simp; have := hsz.out; omega) fun z hz => Hown1.out z hz⟩
            rcases a5 with e | e
            · exact Hown1.out z (e ▸ hz)
            · rw [hz] at e; injection e with e; have := hsz.out; simp at e; omega
          have Hfin := hide hfin
          clear hfin hr5 g5 a5
          go_wp2_with fail
          go_roundw
          case rel =>
            refine ⟨k + 1, by omega, by go_num, ?_⟩
            rw [Htk.out, if_neg Hx.out]
            exact Hfin.out
          case measure => simp [intOf]; omega
    · obtain rfl : k = L := by omega
      have hfull : l.take k = l := List.take_of_length_le (by rw [← HL.out]; exact Nat.le_refl _)
      rw [hfull] at hdr ⊢
      have Hdr := hide hdr
      clear hdr hfull
      go_wp2_with fail
      exact hR.out _ _ ⟨_, rfl, Hdr.out⟩
end Go.Proofs.Ythcbjhmckbfkmaa
