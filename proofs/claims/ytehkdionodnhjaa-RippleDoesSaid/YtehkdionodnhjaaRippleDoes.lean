/- RippleDoes, walked. -/
import Derived.Test.YtehkdionodnhjaaQueue5
set_option linter.unusedVariables false
set_option linter.unusedSimpArgs false
namespace Go.Proofs.Ytehkdionodnhjaa
open Go.RowKit Go.Maps

abbrev KA := Kd.sl (Kd.int .i64)
theorem row_bd {w : World} {A : Option Addr} {n c : Nat} {xs : List Int} (h : Row w 3 (.slice A n c) (xs.map encI)) : n = xs.length ∧ xs.length ≤ c ∧ c ≤ maxLen := by
  obtain ⟨A', c', es, h1, h2⟩ := h.shape
  rw [List.length_map] at es h1
  injection es with e1 e2 e3
  subst e3
  exact ⟨e2, h1, h2⟩
theorem row_cell {w : World} {A : Option Addr} {n c : Nat} {xs : List Int} (h : Row w 3 (.slice A n c) (xs.map encI)) {i : Nat} (hi : i < xs.length) : ∃ b, A = some ⟨b, 0, none⟩ ∧ w.cell? ⟨b, i, none⟩ = some (.int .i64 xs[i]) := by
  have hn := (row_bd h).1
  rcases h.2 with ⟨he, hn'⟩ | ⟨gv, cap, cur, he, _, hh, _, _, _, _⟩
  · rw [List.length_map] at hn'; omega
  · injection he with h1 h2 h3
    refine ⟨gv, h1, ?_⟩
    have := World.ownsRow.cells h (g := gv) (by rw [h1]; rfl) i (encI xs[i]) (by rw [List.getElem?_map, List.getElem?_eq_getElem hi]; rfl)
    unfold Addr.add at this
    split at this
    · rename_i h0
      subst h0
      exact this
    · rw [Nat.zero_add] at this; exact this
section
variable {w0 w : World}
set_option maxHeartbeats 4000000 in
set_option maxRecDepth 100000 in
theorem Does_calls (A : Option Addr) (c : Nat) (acts : List (List Int)) (x : Int) (w : World) (hx : (Lit.int .i64 x).wf = true) (hc : c ≤ maxLen) (hl : acts.length ≤ c) (h : RdL KA (· < w.heap.size) w A acts) :
    Calls Try.prog 3 #[.slice A acts.length c, .int .i64 x] w fun e w' => e = .returned (.bool true) ∧ Below w.heap.size w w' := by
  refine cps fun R hR => ?_
  have Hsp := hide (qspeaks w)
  have Hx := hide h
  have Hwf := hide hx
  unfold maxLen at hc
  obtain ⟨N, hN⟩ : ∃ N, N = acts.length := ⟨_, rfl⟩
  rw [← hN] at hl ⊢
  have HN := hide hN
  clear h hN hx
  by_cases h200 : 200 < N
  · go_enter Try.func3, Try.ntmps3
    go_wp2_with fail
    refine Hsp.out.mono ?_
    rintro _ w1 ⟨rfl, hb1⟩
    go_wp2_with fail
    exact hR.out _ _ ⟨rfl, hb1⟩
  go_enter Try.func3, Try.ntmps3
  go_wp2_with fail
  refine Hsp.out.mono ?_
  rintro _ w1 ⟨rfl, hb1⟩
  have hq1 := ql_new w w1 hb1
  obtain ⟨w2, hw2⟩ : ∃ w2, w2 = w1.alloc (.cells #[.slice none 0 0, .int .i64 0, .map none] 27) := ⟨_, rfl⟩
  rw [← hw2] at hq1
  obtain ⟨g, hg⟩ : ∃ g, g = w1.heap.size := ⟨_, rfl⟩
  rw [← hg] at hq1
  have Hq1 := hide hq1
  have HW2 := hide hw2
  have Hg := hide hg
  clear hw2 hq1 hb1 hg Hsp
  go_upto_region 6 with fail
  rw [← HW2.out, ← Hg.out]
  clear HW2 Hg
  go_wp2_with fail
  go_loopw [6, 7, 21] (fun ever at' i wr => ∃ (k p : Nat) (S : Nat → Prop) (F : List Int) (Av : Option Addr) (cv : Nat), k ≤ N ∧ i = .int .i64 (k : Int) ∧ ever = .slice Av F.length cv ∧ at' = .int .i64 (p : Int) ∧ F.length ≤ 20 * k ∧ Row wr 3 (.slice Av F.length cv) (F.map encI) ∧ (∀ k', (Value.slice Av F.length cv).ownBlock = some k' → w.heap.size ≤ k' ∧ ¬ S k') ∧ QL w wr S g F p) (fun _ _ i _ => N - (intOf i).toNat)
  case atStart => exact ⟨0, 0, _, [], none, 0, by omega, rfl, rfl, rfl, by simp, Row.nil, (fun k hk => by cases hk), Hq1.out⟩
  case round =>
    obtain ⟨k, p, S, F, Av, cv, hk, rfl, rfl, rfl, hFl, hr, ho, hq⟩ := hrel
    by_cases hlt : k < N
    · have hkl : k < acts.length := by rw [← HN.out]; exact hlt
      obtain ⟨bx, off, u, rfl, hbx, hu, hcx⟩ := Hx.out.at1 rfl hkl
      obtain ⟨B, d, rfl, hdl, hdm, hrx⟩ := Kd.sl_cell hu
      have hcr : wr.cell? ⟨bx, off + k, none⟩ = some (.slice B acts[k].length d) := (hq.bel.cell hbx).trans hcx
      obtain ⟨xs, hxs⟩ : ∃ xs, xs = acts[k] := ⟨_, rfl⟩
      rw [← hxs] at hcr hrx hdl
      clear hu hcx hxs hkl
      have hrx' := hrx.below hq.bel
      have Hrx := hide hrx'
      have Hdm := hide hdm
      clear hrx hrx' hdm
      obtain ⟨M, hM⟩ : ∃ M, M = xs.length := ⟨_, rfl⟩
      rw [← hM] at hcr hdl
      have HM := hide hM
      clear hM
      have hdm' : d ≤ 9223372036854775807 := by have := Hdm.out; unfold maxLen at this; omega
      have b3 := hide (balloc wr (.cells #[.slice B M d] 29))
      have hk200 : k < 200 := by omega
      have hpe := hq.pe
      have Hq := hide hq
      have Hr := hide hr
      have Ho := hide ho
      have HFl := hide (show F.length ≤ 4000 by omega)
      have HFk := hide hFl
      have Hpe := hide hpe
      clear hq hr ho hFl hpe
      by_cases h20 : 20 < M
      · go_wp2_with fail
        exact hR.out _ _ ⟨rfl, (Hq.out.below b3.out).bel⟩
      · obtain ⟨w3, hw3⟩ : ∃ w3, w3 = wr.alloc (.cells #[.slice B M d] 29) := ⟨_, rfl⟩
        have hc3 : w3.cell? ⟨wr.heap.size, 0, none⟩ = some (.slice B M d) := by rw [hw3]; rw [cell_of_row _ _ 0 _ _ (0, 0) (heap_alloc_new wr _)]; rfl
        rw [← hw3] at b3
        have hq3 := Hq.out.below b3.out
        have hr3 := Hr.out.keep (w' := w3) fun k' hk' => b3.out.block k' (Hr.out.lt hk')
        have hrx3 : RdL (Kd.int .i64) (· < w.heap.size) w3 B xs := Hrx.out.keep fun k' hk' => b3.out.block k' (Nat.lt_of_lt_of_le hk' Hq.out.bel.size)
        obtain ⟨-, hcv, hcm⟩ := row_bd hr3
        have HW3 := hide hw3
        have hcm' : cv ≤ 9223372036854775807 := by unfold maxLen at hcm; omega
        have Hcm := hide hcm
        have Hq3 := hide hq3
        have Hr3 := hide hr3
        have Hrx3 := hide hrx3
        have hg3 : Hid (∀ k', S k' → k' < w3.heap.size) := hide hq3.lt
        clear hw3 hq3 hr3 hrx3 hcm Hq Hr Hrx
        by_cases hM0 : 0 < M
        · have hrp := hide (refpush_calls Av B cv d F xs (· < w3.heap.size) w3 Hcm.out hcv Hdm.out (by have := HM.out; omega) (by have := HM.out; have := HFl.out; omega) (fun k' hk' => hk') (Hr3.out.rdI.mono fun k' hk' => Hr3.out.lt hk') (Hrx3.out.int_i.mono fun k' hk' => by have := Hq3.out.bel.size; show k' < w3.heap.size; omega))
          rw [← HM.out] at hrp
          have hpl := pushL_len F xs
          rw [← HM.out] at hpl
          have Hpl := hide hpl
          obtain ⟨G, hG⟩ : ∃ G, G = pushL F xs := ⟨_, rfl⟩
          have HG := hide hG
          rw [← hG] at hrp Hpl
          clear hpl hG
          go_upto_region 11 with fail
          rw [← HW3.out]
          go_wp2_with fail
          refine hrp.out.mono ?_
          rintro _ w4 ⟨A4, c4, rfl, hr4, ho4, hb4⟩
          have hq4 := Hq3.out.below hb4
          have hrx4 := Hrx3.out.keep (w' := w4) fun k' hk' => hb4.block k' (by have := Hq3.out.bel.size; omega)
          have hc4 : w4.cell? ⟨wr.heap.size, 0, none⟩ = some (.slice B M d) := (hb4.cell (World.block_lt_of_cell? _ _ hc3)).trans hc3
          have hps := ql_push B d xs (· < w.heap.size) hq4 (by have := HM.out; have := HFl.out; omega) Hdm.out (by have := HM.out; omega) hrx4 fun k' hk' => ⟨by have := hq4.bel.size; omega, fun hs => by have := hq4.ge _ hs; omega⟩
          rw [← HM.out, ← HG.out] at hps
          have Hps := hide hps
          have Hr4 := hide hr4
          have Ho4 := hide ho4
          have Hb4 := hide hb4
          have Hlt4 := hide hq4.lt
          clear hrp hc3 hr4 ho4 hb4 hq4 hrx4 hps HW3
          go_wp2_with fail
          refine Hps.out.mono ?_
          rintro _ w5 ⟨rfl, S5, hq5, hs5⟩
          have ho5 : ∀ k', (Value.slice A4 G.length c4).ownBlock = some k' → w.heap.size ≤ k' ∧ ¬ S5 k' := fun k' hk' => by
            have h1 := Ho4.out k' hk'
            have h2 := Hq3.out.bel.size
            refine ⟨by omega, fun hs => ?_⟩
            have h3 := Hr4.out.lt hk'
            rcases hs5.new k' hs with h4 | h4
            · have := hg3.out k' h4; omega
            · omega
          have hr5 := Hr4.out.keep (w' := w5) fun k' hk' => hs5.ch.block k' (Hr4.out.lt hk') fun hs => by have := hg3.out k' hs; have := Ho4.out k' hk'; omega
          have hGl : G.length ≤ 20 * (k + 1) := by have := Hpl.out; have := HFk.out; omega
          have hpG : p ≤ G.length := by have := Hpl.out; have := Hpe.out; omega
          have Hq5 := hide hq5
          have Hr5 := hide hr5
          have Ho5 := hide ho5
          have HGl := hide hGl
          have HpG := hide hpG
          clear hs5 hq5 hr5 ho5 hGl hpG Hps Hr4 Ho4 Hb4 Hq3 Hr3 Hrx3
          obtain ⟨-, hcv5, hcm5⟩ := row_bd Hr5.out
          have Hcm5 := hide hcm5
          have hln := hide (len_calls Hq5.out.qs (by have := HGl.out; omega))
          have HFb : G.length ≤ 4000 := by have := HGl.out; omega
          have hi1 : (p : Nat) ≤ G.length := HpG.out
          have hi2 : ((p : Nat) : Int) ≤ (G.length : Int) := by omega
          have te : (((G.length - p : Nat) : Int) == ((G.length : Int) - ((p : Nat) : Int))) = true := by simp; omega
          have tn : (((G.length - p : Nat) : Int) != ((G.length : Int) - ((p : Nat) : Int))) = false := by simp; omega
          clear hcm5
          go_wp2_with fail
          refine hln.out.mono ?_
          rintro _ w6 ⟨rfl, hb6⟩
          obtain ⟨bb, hbb⟩ : ∃ bb, bb = decide (x ∈ G) := ⟨_, rfl⟩
          have hev := ever_calls x Hwf.out (Hq5.out.below hb6).qs
          rw [← hbb] at hev
          have Hev := hide hev
          have HB6 := hide hb6
          have tb : (bb != bb) = false := by cases bb <;> rfl
          have Hbb := hide hbb
          clear hev hb6 hbb hln
          go_wp2_with fail
          refine Hev.out.mono ?_
          rintro _ w7 ⟨rfl, hb7⟩
          have hb57 := below_tr HB6.out HB6.out.size hb7
          have hhs := has_calls A4 c4 G x _ w7 Hcm5.out hcv5 (Hr5.out.keep (w' := w7) fun k' hk' => hb57.block k' (Hr5.out.lt hk')).rdI
          rw [← Hbb.out] at hhs
          have Hhs := hide hhs
          have HB7 := hide hb57
          clear hb7 hb57 hhs Hev
          go_wp2_with fail
          refine Hhs.out.mono ?_
          rintro _ w8 ⟨rfl, rfl⟩
          go_wp2_with fail
          refine ⟨⟨k + 1, p, S5, G, A4, c4, by omega, by rw [Int.natCast_succ], rfl, rfl, HGl.out, Hr5.out.keep (fun k' hk' => HB7.out.block k' (Hr5.out.lt hk')), Ho5.out, Hq5.out.below HB7.out⟩, by simp only [intOf]; omega⟩
        · obtain rfl : M = 0 := by omega
          by_cases hp : p < F.length
          · have hpop := hide (ql_pop Hq3.out hp (by have := HFl.out; omega))
            obtain ⟨y, hy⟩ : ∃ y, y = F[p] := ⟨_, rfl⟩
            rw [← hy] at hpop
            obtain ⟨gv, rfl, hcell⟩ := row_cell Hr3.out hp
            rw [← hy] at hcell
            have Hcell := hide hcell
            have hpF : (p : Int) < (F.length : Int) := by omega
            have HFm : F.length ≤ 4000 := HFl.out
            clear hcell hy
            go_upto_region 11 with fail
            rw [← HW3.out]
            go_wp2_with fail
            refine hpop.out.mono ?_
            rintro _ w5 ⟨rfl, S5, hq5, hs5⟩
            have ho5 : ∀ k', (Value.slice (some ⟨gv, 0, none⟩) F.length cv).ownBlock = some k' → w.heap.size ≤ k' ∧ ¬ S5 k' := fun k' hk' => by
              have h1 := Ho.out k' hk'
              refine ⟨h1.1, fun hs => ?_⟩
              have h3 := Hr3.out.lt hk'
              rcases hs5.new k' hs with h4 | h4
              · exact h1.2 h4
              · omega
            have hr5 := Hr3.out.keep (w' := w5) fun k' hk' => hs5.ch.block k' (Hr3.out.lt hk') (Ho.out k' hk').2
            have hc5 : w5.cell? ⟨gv, p, none⟩ = some (.int .i64 y) := hs5.ch.cell Hcell.out fun hs => (Ho.out gv rfl).2 hs
            have hGl : F.length ≤ 20 * (k + 1) := by have := HFk.out; omega
            have hpG : p + 1 ≤ F.length := by omega
            have Hq5 := hide hq5
            have Hr5 := hide hr5
            have Ho5 := hide ho5
            have HGl := hide hGl
            have HpG := hide hpG
            have ty : ((y : Int) == y) = true := by simp
            clear hs5 hq5 hr5 ho5 hGl hpG hpop Hq3 Hr3 Hrx3 Hcell
            obtain ⟨-, hcv5, hcm5⟩ := row_bd Hr5.out
            have Hcm5 := hide hcm5
            have hln := hide (len_calls Hq5.out.qs (by have := HGl.out; omega))
            have HFb : F.length ≤ 4000 := by have := HGl.out; omega
            have hi1 : ((p + 1) : Nat) ≤ F.length := HpG.out
            have hi2 : (((p + 1) : Nat) : Int) ≤ (F.length : Int) := by omega
            have te : (((F.length - (p + 1) : Nat) : Int) == ((F.length : Int) - (((p + 1) : Nat) : Int))) = true := by simp; omega
            have tn : (((F.length - (p + 1) : Nat) : Int) != ((F.length : Int) - (((p + 1) : Nat) : Int))) = false := by simp; omega
            clear hcm5
            go_wp2_with fail
            refine hln.out.mono ?_
            rintro _ w6 ⟨rfl, hb6⟩
            obtain ⟨bb, hbb⟩ : ∃ bb, bb = decide (x ∈ F) := ⟨_, rfl⟩
            have hev := ever_calls x Hwf.out (Hq5.out.below hb6).qs
            rw [← hbb] at hev
            have Hev := hide hev
            have HB6 := hide hb6
            have tb : (bb != bb) = false := by cases bb <;> rfl
            have Hbb := hide hbb
            clear hev hb6 hbb hln
            go_wp2_with fail
            refine Hev.out.mono ?_
            rintro _ w7 ⟨rfl, hb7⟩
            have hb57 := below_tr HB6.out HB6.out.size hb7
            have hhs := has_calls (some ⟨gv, 0, none⟩) cv F x _ w7 Hcm5.out hcv5 (Hr5.out.keep (w' := w7) fun k' hk' => hb57.block k' (Hr5.out.lt hk')).rdI
            rw [← Hbb.out] at hhs
            have Hhs := hide hhs
            have HB7 := hide hb57
            clear hb7 hb57 hhs Hev
            go_wp2_with fail
            refine Hhs.out.mono ?_
            rintro _ w8 ⟨rfl, rfl⟩
            go_wp2_with fail
            refine ⟨⟨k + 1, (p + 1), S5, F, (some ⟨gv, 0, none⟩), cv, by omega, by rw [Int.natCast_succ], rfl, rfl, HGl.out, Hr5.out.keep (fun k' hk' => HB7.out.block k' (Hr5.out.lt hk')), Ho5.out, Hq5.out.below HB7.out⟩, by simp only [intOf]; omega⟩
          · have hpp : p = F.length := by have := Hpe.out; omega
            have hpop := hide (pop_none Hq3.out.qs hpp)
            have hpF : ¬ ((p : Int) < (F.length : Int)) := by omega
            have hpd : decide ((p : Int) < (F.length : Int)) = false := by simp; omega
            have HFm : F.length ≤ 4000 := HFl.out
            clear hpp hp
            go_upto_region 11 with fail
            rw [← HW3.out]
            go_wp2_with fail
            refine hpop.out.mono ?_
            rintro _ w5 ⟨rfl, hb5⟩
            have hq5 := Hq3.out.below hb5
            have hr5 := Hr3.out.keep (w' := w5) fun k' hk' => hb5.block k' (Hr3.out.lt hk')
            have hGl : F.length ≤ 20 * (k + 1) := by have := HFk.out; omega
            have hpG : p ≤ F.length := Hpe.out
            have Hq5 := hide hq5
            have Hr5 := hide hr5
            have Ho5 := Ho
            have HGl := hide hGl
            have HpG := hide hpG
            clear hb5 hq5 hr5 hGl hpG hpop Hq3 Hr3 Hrx3
            obtain ⟨-, hcv5, hcm5⟩ := row_bd Hr5.out
            have Hcm5 := hide hcm5
            have hln := hide (len_calls Hq5.out.qs (by have := HGl.out; omega))
            have HFb : F.length ≤ 4000 := by have := HGl.out; omega
            have hi1 : (p : Nat) ≤ F.length := HpG.out
            have hi2 : ((p : Nat) : Int) ≤ (F.length : Int) := by omega
            have te : (((F.length - p : Nat) : Int) == ((F.length : Int) - ((p : Nat) : Int))) = true := by simp; omega
            have tn : (((F.length - p : Nat) : Int) != ((F.length : Int) - ((p : Nat) : Int))) = false := by simp; omega
            clear hcm5
            go_wp2_with fail
            refine hln.out.mono ?_
            rintro _ w6 ⟨rfl, hb6⟩
            obtain ⟨bb, hbb⟩ : ∃ bb, bb = decide (x ∈ F) := ⟨_, rfl⟩
            have hev := ever_calls x Hwf.out (Hq5.out.below hb6).qs
            rw [← hbb] at hev
            have Hev := hide hev
            have HB6 := hide hb6
            have tb : (bb != bb) = false := by cases bb <;> rfl
            have Hbb := hide hbb
            clear hev hb6 hbb hln
            go_wp2_with fail
            refine Hev.out.mono ?_
            rintro _ w7 ⟨rfl, hb7⟩
            have hb57 := below_tr HB6.out HB6.out.size hb7
            have hhs := has_calls Av cv F x _ w7 Hcm5.out hcv5 (Hr5.out.keep (w' := w7) fun k' hk' => hb57.block k' (Hr5.out.lt hk')).rdI
            rw [← Hbb.out] at hhs
            have Hhs := hide hhs
            have HB7 := hide hb57
            clear hb7 hb57 hhs Hev
            go_wp2_with fail
            refine Hhs.out.mono ?_
            rintro _ w8 ⟨rfl, rfl⟩
            go_wp2_with fail
            refine ⟨⟨k + 1, p, S, F, Av, cv, by omega, by rw [Int.natCast_succ], rfl, rfl, HGl.out, Hr5.out.keep (fun k' hk' => HB7.out.block k' (Hr5.out.lt hk')), Ho5.out, Hq5.out.below HB7.out⟩, by simp only [intOf]; omega⟩
    · obtain rfl : k = N := by omega
      have Hq := hide hq.bel
      clear hr ho hq
      go_wp2_with fail
      exact hR.out _ _ ⟨rfl, Hq.out⟩
end
end Go.Proofs.Ytehkdionodnhjaa
