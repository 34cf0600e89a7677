/- Equations, walked. -/
import Derived.Test.YtdppjhfndolbjaaBatF
import Derived.Deep.Cut
import Derived.Deep.CutRange
set_option linter.unusedVariables false
set_option linter.unusedSimpArgs false
namespace Go.Proofs.Ytdppjhfndolbjaa
open Go.RowKit

theorem sl_at {α : Type} {d : Kd α} {S : Nat → Prop} {w : World} {B : Option Addr} {l : List (List α)} (h : RdL (Kd.sl d) S w B l) {i : Nat} (hi : i < l.length) : ∃ b off A c, B = some ⟨b, off, none⟩ ∧ S b ∧ w.cell? ⟨b, off + i, none⟩ = some (.slice A l[i].length c) ∧ l[i].length ≤ c ∧ c ≤ maxLen ∧ RdL d S w A l[i] := by
  obtain ⟨b, off, u, e, hs, hu, hc⟩ := h.at1 rfl hi
  obtain ⟨A, c, rfl, h1, h2, h3⟩ := Kd.sl_cell hu
  exact ⟨b, off, A, c, e, hs, hc, h1, h2, h3⟩
set_option maxHeartbeats 40000000 in
set_option maxRecDepth 100000 in
theorem eqs_calls (al sz : Int) (n : Nat) (hn : sz.tmod 6 = (n : Int)) (hn6 : n < 6) (hsz : 0 ≤ sz ∧ sz ≤ 255) (Bo Bv : Option Addr) (of : List (List Int)) (vals : List (List UInt8)) (co cv : Nat) (w : World) (hco : of.length ≤ co) (hcom : co ≤ maxLen) (hcv : vals.length ≤ cv) (hcvm : cv ≤ maxLen)
    (ho : RdL (Kd.sl kInt) (· < w.heap.size) w Bo of) (hv : RdL (Kd.sl Kd.byte) (· < w.heap.size) w Bv vals) (hol : of.length ≤ 1000) :
    Calls Try.prog 10 #[.agg #[.int .u8 al, .int .u8 sz, .slice Bo of.length co, .slice Bv vals.length cv]] w fun e w' => ∃ vl vv S, e = .returned (.tuple #[vl, vv]) ∧ ES w w' vl vv S (eqN n of vals of.length) (valN n vals of.length) := by
  refine cps fun R hR => ?_
  unfold maxLen at hcom hcvm
  obtain ⟨w1, hw1⟩ : ∃ w1, w1 = w.alloc (.cells #[.int .u8 al, .int .u8 sz, .slice Bo of.length co, .slice Bv vals.length cv] 25) := ⟨_, rfl⟩
  have hb1 : Below w.heap.size w w1 := by rw [hw1]; exact balloc w _
  have hh : w1.heap[w.heap.size]? = some (.cells #[.int .u8 al, .int .u8 sz, .slice Bo of.length co, .slice Bv vals.length cv] 25 (0, 0)) := by rw [hw1]; exact heap_alloc_new w _
  have c1 : w1.cell? ⟨w.heap.size, 1, none⟩ = some (.int .u8 sz) := by rw [cell_of_row _ _ 1 _ _ _ hh]; rfl
  have c2 : w1.cell? ⟨w.heap.size, 2, none⟩ = some (.slice Bo of.length co) := by rw [cell_of_row _ _ 2 _ _ _ hh]; rfl
  have c3 : w1.cell? ⟨w.heap.size, 3, none⟩ = some (.slice Bv vals.length cv) := by rw [cell_of_row _ _ 3 _ _ _ hh]; rfl
  have HO := hide (ho.below hb1)
  have HV := hide (hv.below hb1)
  have Hb1 := hide hb1
  have hq := hide (show w.heap.size < w1.heap.size by rw [hw1]; simp)
  have Hw1 := hide hw1
  have hes : ES w1 w1 (.slice none 0 0) (.slice none 0 0) (· < w1.heap.size) [] [] := ⟨ORow.nil, ORow.nil, fun k hk => ⟨hk, (by simp [Value.ownBlock]), (by simp [Value.ownBlock])⟩, (fun k hk => by cases hk), (fun k hk => by cases hk), Below.refl _ _⟩
  have Hes := hide hes
  have h00 := hide (show eqN n of vals 0 = [] ∧ valN n vals 0 = [] from ⟨rfl, rfl⟩)
  clear ho hv hb1 hh hw1 hes
  obtain ⟨L, hL⟩ : ∃ L, L = of.length := ⟨_, rfl⟩
  rw [← hL] at hco hol c2 Hw1 hR ⊢
  have HL := hide hL
  obtain ⟨lv, hlv⟩ : ∃ lv, lv = vals.length := ⟨_, rfl⟩
  rw [← hlv] at hcv c3 Hw1 ⊢
  have Hlv := hide hlv
  have hmk := make_bytes n (by omega)
  clear hL hlv
  go_enter Try.func10, Try.ntmps10
  go_upto_region 1 with fail
  rw [← Hw1.out]
  clear Hw1
  go_wp2_with fail
  go_loopw [4, 5, 12] (fun vl vv i wr => ∃ (k : Nat) (S : Nat → Prop), k ≤ L ∧ i = .int .i64 (k : Int) ∧ (∀ z, z < w1.heap.size → S z) ∧ ES w1 wr vl vv S (eqN n of vals k) (valN n vals k)) (fun _ _ i _ => L - (intOf i).toNat)
  case atStart => exact ⟨0, _, Nat.zero_le _, rfl, fun z hz => hz, by rw [h00.out.1, h00.out.2]; exact Hes.out⟩
  case round =>
    obtain ⟨k, S, hk, rfl, hSw, hE⟩ := hrel
    have hbw := hE.bel
    have Hbw := hide hbw
    by_cases hlt : k < L
    · have d1 : wr.cell? ⟨w.heap.size, 1, none⟩ = some (.int .u8 sz) := (hbw.cell hq.out).trans c1
      have d3 : wr.cell? ⟨w.heap.size, 3, none⟩ = some (.slice Bv lv cv) := (hbw.cell hq.out).trans c3
      have hko : k < of.length := by rw [← HL.out]; exact hlt
      have hbr := Hb1.out.trans (hbw.mono Hb1.out.size)
      obtain ⟨b, off, Ai, ci, rfl, hsb, q0, a1, a2, hrA⟩ := sl_at (HO.out.below (hbw.mono Hb1.out.size)) hko
      have hes := eqN_succ n of vals k
      have hvs := valN_succ n vals k
      rw [show of.getD k [] = of[k] by rw [List.getD_eq_getElem?_getD, List.getElem?_eq_getElem hko]; rfl] at hes
      obtain ⟨oi, hoi⟩ : ∃ oi, oi = of[k] := ⟨_, rfl⟩
      rw [← hoi] at q0 a1 hrA hes
      obtain ⟨li, hli⟩ : ∃ li, li = oi.length := ⟨_, rfl⟩
      rw [← hli] at q0 a1
      obtain ⟨bk, hbk⟩ : ∃ bk, bk = vals.getD k [] := ⟨_, rfl⟩
      rw [← hbk] at hes hvs
      have Hes2 := hide hes
      have Hvs2 := hide hvs
      have Hli := hide hli
      have Hbk := hide hbk
      have HrA := hide hrA
      have HE := hide hE
      have HSw := hide (show ∀ z, z < w.heap.size → S z from fun z hz => hSw z (Nat.lt_of_lt_of_le hz Hb1.out.size))
      have HSw1 := hide hSw
      have Hbr := hide hbr
      clear hes hvs hli hoi hbk hrA hE hSw hbr hbw hsb
      obtain ⟨z0, hz0⟩ : ∃ z0, z0 = wr.heap.size := ⟨_, rfl⟩
      obtain ⟨w3, hw3⟩ : ∃ w3, w3 = wr.alloc (.cells (madeCells #[.int .u8 0] n) 5) := ⟨_, rfl⟩
      have hh3 : w3.heap[z0]? = some (.cells ((zs n).map encB).toArray 5 (0, 0)) := by rw [hw3, hz0, show ((zs n).map encB).toArray = madeCells #[.int .u8 0] n from (made_cells n).symm]; exact heap_alloc_new wr _
      have hb3 : Below wr.heap.size wr w3 := by rw [hw3]; exact balloc wr _
      have e1 : w3.cell? ⟨w.heap.size, 1, none⟩ = some (.int .u8 sz) := (hb3.cell (World.block_lt_of_cell? _ _ d1)).trans d1
      have e3 : w3.cell? ⟨w.heap.size, 3, none⟩ = some (.slice Bv lv cv) := (hb3.cell (World.block_lt_of_cell? _ _ d3)).trans d3
      have Hh3 := hide hh3
      have Hb3 := hide hb3
      have HW3 := hide hw3
      have Hz0 := hide hz0
      clear hz0 hw3 hh3 hb3
      go_upto_region 7 with fail
      rw [← HW3.out, ← Hz0.out]
      clear HW3 hmk
      go_upto_if 26 with fail
      go_cut [8, 26] from 27 to 33 (fun s8 s26 wx => s8 = .slice (some ⟨z0, 0, none⟩) n n ∧ wx.heap[z0]? = some (.cells ((padN n bk).map encB).toArray 5 (0, 0)) ∧ Below wr.heap.size wr wx)
      case first =>
        by_cases hkv : k < lv
        · have hkl : k < vals.length := by rw [← Hlv.out]; exact hkv
          obtain ⟨b5, off5, Bk, ck, rfl, hsb5, q5, g1, g2, hrB⟩ := sl_at (HV.out.below (Hbw.out.mono Hb1.out.size)) hkl
          have hbe : bk = vals[k] := by rw [Hbk.out, List.getD_eq_getElem?_getD, List.getElem?_eq_getElem hkl]; rfl
          rw [← hbe] at q5 g1 hrB
          obtain ⟨fl, hfl⟩ : ∃ fl, fl = bk.length := ⟨_, rfl⟩
          rw [← hfl] at q5 g1
          have p5 : w3.cell? ⟨b5, off5 + k, none⟩ = some (.slice Bk fl ck) := (Hb3.out.cell (World.block_lt_of_cell? _ _ q5)).trans q5
          obtain ⟨cs0, hcs0⟩ : ∃ cs0, cs0 = (bk.take n).map encB := ⟨_, rfl⟩
          have hln := hide (show cs0.length = Nat.min fl n by rw [hcs0, List.length_map, List.length_take, hfl]; exact Nat.min_comm ..)
          have hone := hide (show ∀ v ∈ cs0, v.oneCell' = true by rw [hcs0]; exact encB_one _)
          have hsr := hide (show 0 < cs0.length → (some ⟨z0, 0, none⟩ : Option Addr) = some ⟨z0, 0, none⟩ ∧ ∃ ad, Bk = some ad ∧ ∀ j v, cs0[j]? = some v → w3.cell? (ad.add j) = some v from fun hp => by
            obtain ⟨ad, e, hc'⟩ := ((hrB.take n).keep (w' := w3) fun z hz => Hb3.out.block z (by have := Hbr.out.size; omega)).srcB (by rw [← hcs0]; exact hp)
            exact ⟨rfl, ad, e, fun j v hv => hc' j v (by rw [← hcs0]; exact hv)⟩)
          have hfit := hide (show 0 + cs0.length ≤ ((zs n).map encB).length by rw [hcs0]; simp [zs]; omega)
          have hspl := hide (show splice ((zs n).map encB) 0 cs0 = (padN n bk).map encB by
            rw [hcs0]
            unfold splice padN zs
            simp
            omega)
          have i1 : (k : Int) < (lv : Int) := by omega
          have i2 : (0 : Int) ≤ (k : Int) := by omega
          have i3 : decide ((k : Int) < (lv : Int)) = true := by simp; omega
          clear hcs0 hfl hbe hsb5 hrB q5
          go_wp2_with (with_reducible refine wpList_copy_splice rfl (.tmp 27) (.tmp 32) 38 38 rfl 5 Try.underlying38 (by kernel_rfl) (some ⟨z0, 0, none⟩) Bk n n fl ck rfl rfl z0 0 ((zs n).map encB) 5 Hh3.out cs0 hln.out hsr.out hfit.out hone.out z0 w3 (Below.refl _ _) (Nat.le_refl _) ?_; intro w4 hg4 hb4)
          have hh4 : w4.heap[z0]? = some (.cells ((padN n bk).map encB).toArray 5 (0, 0)) := by rw [← hspl.out]; exact hg4.out
          have Hh4 := hide hh4
          have Hb4 := hide (show Below wr.heap.size wr w4 from Hb3.out.trans (by rw [← Hz0.out]; exact hb4))
          clear hg4 hb4 hh4
          go_wp2_with fail
          go_meet
          case rel => exact ⟨rfl, Hh4.out, Hb4.out⟩
        · have hpz : padN n bk = zs n := by
            have hbe : bk = [] := by rw [Hbk.out, List.getD_eq_getElem?_getD, List.getElem?_eq_none (by rw [← Hlv.out]; omega)]; rfl
            rw [hbe, padN_nil]
          have Hpz := hide hpz
          have i3 : decide ((k : Int) < (lv : Int)) = false := by simp; omega
          clear hpz
          go_wp2_with fail
          go_meet
          case rel => exact ⟨rfl, by rw [Hpz.out]; exact Hh3.out, Hb3.out⟩
      case rest =>
        obtain ⟨rfl, hh4, hb4⟩ := hcut
        have hz0e := Hz0.out
        have hz4 : z0 < wc.heap.size := (Array.getElem?_eq_some_iff.1 hh4).1
        have hpl := hide (padN_len n bk)
        obtain ⟨pb, hpb⟩ : ∃ pb, pb = padN n bk := ⟨_, rfl⟩
        rw [← hpb] at hh4 hpl Hes2 Hvs2
        have hE4 := (HE.out.below hb4).more (S' := fun z => S z ∨ z = z0) (fun z hz => .inl hz) (fun z hz => by
          have hs := hb4.size
          rcases hz with hz | rfl
          · have := HE.out.sb z hz; exact ⟨by omega, this.2⟩
          · exact ⟨hz4, fun e => by have := HE.out.rl.lt e; omega, fun e => by have := HE.out.rv.lt e; omega⟩)
        obtain ⟨Vl, cl, rfl, hcl1, hcl2⟩ := HE.out.rl.shape
        obtain ⟨Vv, cv2, rfl, hcv1, hcv2⟩ := HE.out.rv.shape
        have hel : (eqN n of vals k).length = k := by simp [eqN]
        have hvl : (valN n vals k).length = k := by simp [valN]
        rw [hel] at hE4 hcl1 ⊢
        rw [hvl] at hE4 hcv1 ⊢
        obtain ⟨es, hes⟩ : ∃ es, es = eqN n of vals k := ⟨_, rfl⟩
        obtain ⟨vs, hvs⟩ : ∃ vs, vs = valN n vals k := ⟨_, rfl⟩
        rw [← hes] at hE4 hel Hes2
        rw [← hvs] at hE4 hvl Hvs2
        have HE4 := hide hE4
        have Hel := hide hel
        have Hvl := hide hvl
        have Hh4 := hide hh4
        have Hb4 := hide hb4
        have hw9 : Below wc.heap.size wc (wc.alloc (.cells #[.slice (some ⟨z0, 0, none⟩) n n] 38)) := balloc wc _
        have hor := hide ((HE4.out.below hw9).rv)
        have hrz : RdL Kd.byte (fun z => S z ∨ z = z0) wc (some ⟨z0, 0, none⟩) pb := (RdL.block1 (d := Kd.byte) (S := fun z => z = z0) rfl hh4 rfl (fun i x hx => ⟨encB x, by rw [List.getElem?_toArray, List.getElem?_map, hx]; rfl, _, rfl, rfl⟩)).mono fun z hz => .inr hz
        have hel9 : (Kd.sl Kd.byte).R (fun z => S z ∨ z = z0) (wc.alloc (.cells #[.slice (some ⟨z0, 0, none⟩) n n] 38)) pb [.slice (some ⟨z0, 0, none⟩) n n] :=
          ⟨some ⟨z0, 0, none⟩, n, by rw [hpl.out], by rw [hpl.out]; exact Nat.le_refl _, by unfold maxLen; omega, hrz.keep fun z hz => hw9.block z (HE4.out.sb z hz).1⟩
        have Hel9 := hide hel9
        have Hrz := hide hrz
        clear hes hvs hE4 hel hvl hh4 hb4 hw9 hrz hel9 hpb HE hz0e
        go_wp2_with (at_builtin; with_reducible refine wp_push 37 rfl rfl (.tmp 34) (.tmp 36) 23 rfl Try.underlying23 infoSB ?_ (d := Kd.sl Kd.byte) (S := fun z => S z ∨ z = z0) (xs := vs) ?_ hor.out (g := wc.heap.size) (y := pb) (cs := [.slice (some ⟨z0, 0, none⟩) n n]) ?_ (heap_alloc_new wc _) Hel9.out ?_ ?_ ?_ ?_ ?_)
        case refine_1 => rfl
        case refine_2 => rfl
        case refine_3 => rfl
        case refine_4 => intro u hu; simp at hu; subst hu; rfl
        case refine_5 => rw [Hvl.out]; omega
        case refine_6 => rw [Hvl.out]; unfold maxLen; omega
        case refine_7 => exact fun z hz => ⟨by have := (HE4.out.sb z hz).1; simp; omega, fun e => (HE4.out.sb z hz).2.2 e.symm⟩
        case refine_8 =>
        intro v5 w5 hr5 g5 o5
        have HE5 := hide (HE4.out.pushV hr5 g5 o5)
        have hb5k : ∀ z, z < wc.heap.size → (Value.slice Vv k cv2).ownBlock ≠ some z → w5.heap[z]? = wc.heap[z]? := fun z hz hne => (g5.block z (by simp; omega) fun e => hne e.symm).trans ((balloc wc _).block z hz)
        have hz5 : w5.heap[z0]? = some (.cells (pb.map encB).toArray 5 (0, 0)) := (hb5k z0 (HE4.out.sb z0 (.inr rfl)).1 (HE4.out.sb z0 (.inr rfl)).2.2).trans Hh4.out
        have hsrc := hide (RdL.srcB ((RdL.block1 (d := Kd.byte) (S := fun z => z = z0) rfl hz5 rfl (fun i x hx => ⟨encB x, by rw [List.getElem?_toArray, List.getElem?_map, hx]; rfl, _, rfl, rfl⟩)).keep (w' := w5.alloc (.cells #[] 5)) fun z hz => (balloc w5 _).block z (by rw [hz]; exact (Array.getElem?_eq_some_iff.1 hz5).1)))
        have lmb := hide (show (pb.map encB).length = n by rw [List.length_map, hpl.out])
        have hAi := hide (HrA.out.keep (w' := w5) fun z hz => (hb5k z (HE4.out.sb z (.inl (HSw.out z hz))).1 (HE4.out.sb z (.inl (HSw.out z hz))).2.2).trans (Hb4.out.block z (by have := Hbr.out.size; omega)))
        obtain ⟨V5, c5, rfl, -, -⟩ := hr5.shape
        rw [List.length_append, Hvl.out, List.length_singleton] at HE5 ⊢
        clear hr5 g5 o5 hz5 hb5k
        go_wp2_with (at_builtin; with_reducible refine wp_app_lit 42 rfl rfl (.tmp 40) (.tmp 41) 38 rfl Try.underlying38 infoB ?_ (g := w5.heap.size) ?_ (A := some ⟨z0, 0, none⟩) (c := n) (news := pb.map encB) ?_ hsrc.out (encB_one pb) ?_ ?_ ?_)
        case refine_1 => rfl
        case refine_2 => rfl
        case refine_3 => rw [lmb.out]; rfl
        case refine_4 => rw [lmb.out]; omega
        case refine_5 => rw [lmb.out]; unfold maxLen; omega
        case refine_6 =>
        intro v6 w6 hn6
        obtain ⟨A6, c6, rfl, hk6, hb6⟩ := hn6.sl
        rw [hpl.out] at hk6 ⊢
        have hz5 : (w5.alloc (.cells #[] 5)).heap.size = w5.heap.size + 1 := by simp
        rw [hz5] at hk6
        have hb56 : Below w5.heap.size w5 w6 := (balloc w5 _).trans (hb6.mono (by simp))
        have hE6 := (HE5.out.below hb56).more (S' := fun z => (S z ∨ z = z0) ∨ (w5.heap.size + 1 ≤ z ∧ z < w6.heap.size)) (fun z hz => .inl hz) (fun z hz => by
          rcases hz with hz | hz
          · have := HE5.out.sb z hz; have := hb56.size; exact ⟨by omega, (HE5.out.sb z hz).2⟩
          · exact ⟨hz.2, fun e => by have := HE5.out.rl.lt e; omega, fun e => by have := HE5.out.rv.lt e; omega⟩)
        have HE6 := hide hE6
        have hw7 : Below w6.heap.size w6 (w6.alloc (.cells #[.slice Ai li ci, .slice A6 n c6] 43)) := balloc w6 _
        have hor7 := hide ((HE6.out.below hw7).rl)
        have hAi6 := hAi.out.keep (w' := w6.alloc (.cells #[.slice Ai li ci, .slice A6 n c6] 43)) fun z hz => (hw7.block z (HE6.out.sb z (.inl (.inl (HSw.out z hz)))).1).trans (hb56.block z (HE5.out.sb z (.inl (HSw.out z hz))).1)
        have hel7 : kEq.R (fun z => (S z ∨ z = z0) ∨ (w5.heap.size + 1 ≤ z ∧ z < w6.heap.size)) (w6.alloc (.cells #[.slice Ai li ci, .slice A6 n c6] 43)) (oi, pb) [.slice Ai li ci, .slice A6 n c6] :=
          ⟨[.slice Ai li ci], [.slice A6 n c6], rfl, ⟨Ai, ci, by rw [← Hli.out], by rw [← Hli.out]; exact a1, a2, hAi6.mono fun z hz => .inl (.inl (HSw.out z hz))⟩, (Kd.sl Kd.byte).mono (fun z hz => .inr hz) ((Kd.sl Kd.byte).keep (fun z hz => hw7.block z hz.2) hk6)⟩
        have Hel7 := hide hel7
        have Hb56 := hide hb56
        clear hE6 hw7 hAi6 hel7 hk6 hb6 hn6 hb56 hz5 hsrc lmb
        go_wp2_with (at_builtin; with_reducible refine wp_push 45 rfl rfl (.tmp 38) (.tmp 44) 28 rfl Try.underlying28 infoEq ?_ (d := kEq) (S := fun z => (S z ∨ z = z0) ∨ (w5.heap.size + 1 ≤ z ∧ z < w6.heap.size)) (xs := es) ?_ hor7.out (g := w6.heap.size) (y := (oi, pb)) (cs := [.slice Ai li ci, .slice A6 n c6]) ?_ (heap_alloc_new w6 _) Hel7.out ?_ ?_ ?_ ?_ ?_)
        case refine_1 => rfl
        case refine_2 => rfl
        case refine_3 => rfl
        case refine_4 => intro u hu; simp at hu; rcases hu with rfl | rfl <;> rfl
        case refine_5 => rw [Hel.out]; omega
        case refine_6 => rw [Hel.out]; unfold maxLen; omega
        case refine_7 => exact fun z hz => ⟨by have := (HE6.out.sb z hz).1; simp; omega, fun e => (HE6.out.sb z hz).2.1 e.symm⟩
        case refine_8 =>
        intro v8 w8 hr8 g8 o8
        have HE8 := hide (HE6.out.pushL hr8 g8 o8)
        obtain ⟨V8, c8, rfl, -, -⟩ := hr8.shape
        rw [List.length_append, Hel.out, List.length_singleton] at HE8 ⊢
        clear hr8 g8 o8
        go_wp2_with fail
        exact ⟨⟨k + 1, fun z => (S z ∨ z = z0) ∨ (w5.heap.size + 1 ≤ z ∧ z < w6.heap.size), by omega, by rw [Int.natCast_succ], fun z hz => .inl (.inl (HSw1.out z hz)), by rw [Hes2.out, Hvs2.out]; exact HE8.out⟩, by simp only [intOf]; omega⟩
    · obtain rfl : k = L := by omega
      have HE := hide hE
      clear hE
      go_wp2_with fail
      exact hR.out _ _ ⟨_, _, S, rfl, HE.out.rl, HE.out.rv, HE.out.sb, fun z hz => Nat.le_trans Hb1.out.size (HE.out.ol z hz), fun z hz => ⟨Nat.le_trans Hb1.out.size (HE.out.ov z hz).1, (HE.out.ov z hz).2⟩, Hb1.out.trans (HE.out.bel.mono Hb1.out.size)⟩
end Go.Proofs.Ytdppjhfndolbjaa
