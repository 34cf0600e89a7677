/- What is left of an equation's value: its known blocks put upon it. -/
import Derived.Test.YtdppjhfndolbjaaBatB
import Derived.Deep.RegionLaw
set_option linter.unusedVariables false
set_option linter.unusedSimpArgs false
namespace Go.Proofs.Ytdppjhfndolbjaa
open Go.RowKit

theorem RdL.lit1 {w w' : World} {A : Option Addr} {xs : List UInt8} {c : Nat} {S : Nat → Prop} {e : TypeId} (hc : xs.length ≤ c) (hm : c ≤ maxLen) (h : RdL Kd.byte S w A xs) (hS : ∀ k, S k → k < w.heap.size) (e' : w' = w.alloc (.cells #[.slice A xs.length c] e)) : RdL (Kd.sl Kd.byte) (fun k => S k ∨ k = w.heap.size) w' (some ⟨w.heap.size, 0, none⟩) [xs] := by
  subst e'
  refine RdL.block1 rfl (heap_alloc_new w _) (.inr rfl) (fun i x hx => ?_)
  cases i with
  | zero =>
    simp at hx; subst hx
    exact ⟨_, rfl, A, c, rfl, hc, hm, (h.keep fun k hk => (balloc w _).block k (hS k hk)).mono fun k hk => .inl hk⟩
  | succ i => simp at hx
theorem make_cap (n : Nat) (hn : n ≤ 1000000) (w : World) : ∃ w', (Instr.makeSlice 38 (.int .i64 0) (.int .i64 ((n : Int) + 1))).run Try.prog w = .ok (.slice (some ⟨w.heap.size, 0, none⟩) 0 (n + 1)) w' ∧
    Row w' 5 (.slice (some ⟨w.heap.size, 0, none⟩) 0 (n + 1)) [] ∧ w.grownBy w' none := by
  obtain ⟨i, hi, hzz⟩ := Option.map_eq_some_iff.1 infoB
  simp only [Prod.mk.injEq] at hzz
  obtain ⟨h1, h2, h3⟩ := hzz
  obtain ⟨w', a, b, c⟩ := run_make_own (P := Try.prog) w 0 38 5 i _ 1 Try.underlying38 hi h1 h2 .i64 .i64 (n + 1) (by rw [h3]; omega) (by unfold maxLen; omega) (Nat.zero_le _)
  exact ⟨w', by simpa using a, by simpa [Row] using b, c⟩
theorem row_wr {w : World} {e : TypeId} {A : Option Addr} {ts : List UInt8} {c : Nat} {g : Nat} (h : Row w e (.slice A ts.length c) (ts.map encB)) (hA : (Value.slice A ts.length c).ownBlock = some g) : ∃ post, A = some ⟨g, 0, none⟩ ∧ Wr w A g [] post e ts := by
  rcases h.2 with ⟨h1, h2⟩ | ⟨g', cap, cur, h1, -, h3, h4, h5, h6, h7⟩
  · injection h1 with h1; subst h1; cases hA
  · injection h1 with h1 h1' h1''
    subst h1
    obtain rfl : g' = g := by simpa [Value.ownBlock] using hA
    refine ⟨cur.toList.drop ts.length, rfl, fun hp => ⟨rfl, ?_⟩⟩
    rw [List.length_map, Nat.mul_one] at h7
    rw [h3]
    congr 2
    rw [← Array.toList_inj]
    simp only [List.nil_append]
    rw [← h7, List.take_append_drop]
theorem rest_take {vs : Vals} {of : List Int} {v : List UInt8} {k : Nat} (hk : k < of.length) : restV vs (of.take (k + 1)) v = if knB vs of[k] = true then xorL (restV vs (of.take k) v) (valAt vs of[k]) else restV vs (of.take k) v := by
  rw [restV, List.take_succ_eq_append_getElem hk, List.filter_append]
  cases h : knB vs of[k]
  · simp [h, restV]
  · simp only [List.filter_cons, h, if_true, List.filter_nil, List.map_append, List.map_cons, List.map_nil]
    exact sumL_snoc _ _ _
theorem val_cell {vs : Vals} {k : Nat} (hk : k < vs.length) : (knB vs (k : Int) = false ∧ vs[k] = none) ∨ (knB vs (k : Int) = true ∧ vs[k] = some (valAt vs (k : Int))) := by
  have h := knB_nat (vs := vs) (k := k)
  rw [List.getD_eq_getElem?_getD, List.getElem?_eq_getElem hk, Option.getD_some] at h
  cases hx : vs[k] with
  | none => exact .inl ⟨by rw [h, hx]; rfl, rfl⟩
  | some b => exact .inr ⟨by rw [h, hx]; rfl, by rw [valAt_of (b := b) (by rw [List.getElem?_eq_getElem hk, hx])]⟩
theorem step_app6 {P : Program} {ops : Array Oper} {o : Oper} {a : Act} {w : World} {K : Act → World → Prop} {Q : Exit → Act → World → Prop} {X : Prop} (hg : o.guard = none) (N : Tmp) (_hN : o.dst = some N) (s x : Operand) (t : TypeId)
    (ho : o.op = .call { callee := .builtin .append, args := #[s, x], argTypes := #[t, t] }) {e : TypeId} {z : Value} {bytes : Nat} (ht : P.underlying t = some (.slice e)) (hi : (P.info? e).map (fun i => (i.zero, i.size, i.bytes)) = some (some z, 1, bytes)) (hz : z.cells.size = 1)
    {v : Value} {us : List Value} (hv : a.eval s = v) (hown : Row w e v us) {A : Option Addr} {c : Nat} {news : List Value} (hx : a.eval x = .slice A news.length c) (hs : Src w A news) (h1 : ∀ u ∈ news, u.oneCell' = true)
    (hb : (us.length + news.length) * bytes ≤ 140737488355328) (hl : us.length + news.length ≤ maxLen)
    (h : ∀ v' w', Row w' e v' (us ++ news) → w.grownBy w' v.ownBlock → (v'.ownBlock = v.ownBlock ∨ v'.ownBlock = some w.heap.size) → K (a.put (some N) v') w') : if Region.wanted o (yielded ops a.tmps) = true then Oper.wp P o a w K Q else X := by
  rw [if_pos (by simp [Region.wanted, hg])]
  exact op_app N _hN s x t ho ht hi hz hv hown hx hs h1 hb hl h
theorem rest_len' {vs : Vals} {of : List Int} {v : List UInt8} {n : Nat} (hn : n = v.length) (hl : ∀ i, knB vs i = true → (valAt vs i).length = n) : (restV vs of v).length = n := by
  refine sumL_len n _ _ hn.symm fun b hb => ?_
  obtain ⟨i, hi, rfl⟩ := List.mem_map.1 hb
  exact hl i (List.mem_filter.1 hi).2
theorem rest_row {w1 w2 w3 : World} {v : List UInt8} {v3 : Value} {n : Nat} (hn : n = v.length) (hr : Row w3 5 v3 ([] ++ v.map encB)) (hb : Below w1.heap.size w1 w2) (hg : w2.grownBy w3 (Value.slice (some ⟨w1.drew.heap.size, 0, none⟩) 0 (n + 1)).ownBlock) (ho : v3.ownBlock = (Value.slice (some ⟨w1.drew.heap.size, 0, none⟩) 0 (n + 1)).ownBlock ∨ v3.ownBlock = some w2.heap.size) :
    ∃ g c', v3 = .slice (some ⟨g, 0, none⟩) n c' ∧ n ≤ c' ∧ c' ≤ maxLen ∧ (∃ post, Wr w3 (some ⟨g, 0, none⟩) g [] post 5 v) ∧ w1.heap.size ≤ g ∧ g < w3.heap.size ∧ Below w1.heap.size w1 w3 := by
  rw [List.nil_append] at hr
  obtain ⟨A, c', rfl, h1, h2⟩ := hr.shape
  rw [List.length_map, ← hn] at hr ho h1 ⊢
  have e : w1.drew.heap.size = w1.heap.size := rfl
  have hsz := hb.size
  obtain ⟨g, hgo, hge⟩ : ∃ g, (Value.slice A n c').ownBlock = some g ∧ w1.heap.size ≤ g := by
    rcases ho with h | h
    · exact ⟨_, h, Nat.le_refl _⟩
    · exact ⟨_, h, hsz⟩
  rw [hn] at hr hgo
  obtain ⟨post, rfl, hw⟩ := row_wr hr hgo
  exact ⟨g, c', rfl, h1, h2, ⟨post, hw⟩, hge, hr.lt hgo, (Ch.of_grown hg).below hb hsz fun k hk => by have hk' : some w1.heap.size = some k := hk; injection hk' with hk'; omega⟩
set_option maxHeartbeats 4000000 in
theorem rest_calls {A B C : Option Addr} {of : List Int} {v : List UInt8} {c d cv : Nat} {vs : Vals} {S : Nat → Prop} {w : World} (hc : of.length ≤ c) (hm : c ≤ maxLen) (hd : v.length ≤ d) (hdm : d ≤ maxLen) (hv : v.length ≤ 1000) (hcv : vs.length ≤ cv) (hcvm : cv ≤ maxLen)
    (hA : RdL kInt S w A of) (hB : RdL Kd.byte S w B v) (hC : RdL kOb S w C vs) (hS : ∀ k, S k → k < w.heap.size) (hin : ∀ i ∈ of, 0 ≤ i ∧ i < (vs.length : Int)) (hlen : ∀ i, knB vs i = true → (valAt vs i).length = v.length) :
    Calls Try.prog 25 #[.agg #[.slice A of.length c, .slice B v.length d], .slice C vs.length cv] w fun e w' => ∃ g c', e = .returned (.slice (some ⟨g, 0, none⟩) v.length c') ∧ v.length ≤ c' ∧ c' ≤ maxLen ∧ (∃ post, Wr w' (some ⟨g, 0, none⟩) g [] post 5 (restV vs of v)) ∧ w.heap.size ≤ g ∧ g < w'.heap.size ∧ Below w.heap.size w w' := by
  refine cps fun R hR => ?_
  unfold maxLen at hm hdm hcvm
  obtain ⟨w1, hw1⟩ : ∃ w1, w1 = w.alloc (.cells #[.slice A of.length c, .slice B v.length d] 43) := ⟨_, rfl⟩
  have hb1 : Below w.heap.size w w1 := by rw [hw1]; exact balloc w _
  have hh : w1.heap[w.heap.size]? = some (.cells #[.slice A of.length c, .slice B v.length d] 43 (0, 0)) := by rw [hw1]; exact heap_alloc_new w _
  have c0 : w1.cell? ⟨w.heap.size, 0, none⟩ = some (.slice A of.length c) := by rw [cell_of_row _ _ 0 _ _ _ hh]; rfl
  have c1 : w1.cell? ⟨w.heap.size, 1, none⟩ = some (.slice B v.length d) := by rw [cell_of_row _ _ 1 _ _ _ hh]; rfl
  have hS1 : ∀ k, S k → k < w1.heap.size := fun k hk => Nat.lt_of_lt_of_le (hS k hk) hb1.size
  have HA := hide (hA.keep (w' := w1) fun k hk => hb1.block k (hS k hk))
  have HB := hide (hB.keep (w' := w1) fun k hk => hb1.block k (hS k hk))
  have HC := hide (hC.keep (w' := w1) fun k hk => hb1.block k (hS k hk))
  have HS := hide hS1
  have Hin := hide hin
  have Hlen := hide hlen
  have Hw1 := hide hw1
  have Hb1 := hide hb1
  have hq := hide (show w.heap.size < w1.heap.size by rw [hw1]; simp)
  clear hA hB hC hS hS1 hin hlen hw1 hb1 hh
  obtain ⟨L, hL⟩ : ∃ L, L = of.length := ⟨_, rfl⟩
  rw [← hL] at hc c0 Hw1 ⊢
  have HL := hide hL
  obtain ⟨n, hn⟩ : ∃ n, n = v.length := ⟨_, rfl⟩
  rw [← hn] at hd hv c1 Hw1 Hlen hR ⊢
  have Hn := hide hn
  obtain ⟨m, hm'⟩ : ∃ m, m = vs.length := ⟨_, rfl⟩
  rw [← hm'] at hcv Hin ⊢
  have Hm := hide hm'
  obtain ⟨w2, hmk, hr2, hg2⟩ := make_cap n (by omega) w1.drew
  have hb2 : Below w1.heap.size w1 w2 := ⟨hg2.os, hg2.tape, hg2.output, hg2.size, fun q hq => hg2.block q hq (by simp)⟩
  have c2 : w2.cell? ⟨w.heap.size, 1, none⟩ = some (.slice B n d) := (hb2.cell hq.out).trans c1
  have hsrc := hide (HB.out.keep (w' := w2) fun k hk => hb2.block k (HS.out k hk)).srcB
  have lmv := hide (show (v.map encB).length = n by rw [List.length_map, Hn.out])
  have Hr2 := hide hr2
  have Hb2 := hide hb2
  have hmk' : (Instr.makeSlice 38 (.int .i64 0) (.int .i64 ((n : Int) + 1))).run Try.prog w1.drew = .ok (.slice (some ⟨w1.heap.size, 0, none⟩) 0 (n + 1)) w2 := hmk
  have hwn : IntKind.i64.wrap ((n : Int) + 1) = (n : Int) + 1 := by rw [IntKind.wrap_i64]; omega
  clear hL hn hm' hmk hr2 hg2 hb2
  go_enter Try.func25, Try.ntmps25
  go_upto_region 1 with fail
  rw [← Hw1.out]
  clear Hw1
  go_cut [5] from 8 to 15 (fun v5 wx => ∃ g c', v5 = .slice (some ⟨g, 0, none⟩) n c' ∧ n ≤ c' ∧ c' ≤ maxLen ∧ (∃ post, Wr wx (some ⟨g, 0, none⟩) g [] post 5 v) ∧ w1.heap.size ≤ g ∧ g < wx.heap.size ∧ Below w1.heap.size w1 wx)
  case first =>
    go_region_law (refine step_app6 rfl 15 rfl (.tmp 12) (.tmp 14) 38 rfl Try.underlying38 infoB rfl (us := []) (by rfl) Hr2.out (A := B) (c := d) (news := v.map encB) (by rw [lmv.out]; rfl) hsrc.out (encB_one v) (by rw [lmv.out]; simp; omega) (by rw [lmv.out]; simp [maxLen]; omega) ?_; intro v3 w3 hr3 g3 o3; have Hr3 := hide hr3; have G3 := hide g3; have O3 := hide o3; clear hr3 g3 o3)
    all_goals
      go_wp2_with fail
      go_meet
      case rel => exact rest_row Hn.out Hr3.out Hb2.out G3.out O3.out
  case rest =>
    obtain ⟨g, c', rfl, hc1, hc2, ⟨post, hwr⟩, hg1, hg2, hbc⟩ := hcut
    have Hwr := hide hwr
    have Hbc := hide hbc
    have hr0 := hide (show restV vs (of.take 0) v = v by simp [restV, sumL])
    have c3 : wc.cell? ⟨w.heap.size, 0, none⟩ = some (.slice A L c) := (hbc.cell hq.out).trans c0
    clear hwr hbc c0 c1 c2 hwn hmk' hsrc lmv Hr2 Hb2
    go_wp2_with fail
    go_loopw [19] (fun i wr => ∃ k : Nat, k ≤ L ∧ i = .int .i64 (k : Int) ∧ Wr wr (some ⟨g, 0, none⟩) g [] post 5 (restV vs (of.take k) v) ∧ Below w1.heap.size w1 wr ∧ g < wr.heap.size) (fun i _ => L - (intOf i).toNat)
    case atStart => exact ⟨0, Nat.zero_le _, rfl, by rw [hr0.out]; exact Hwr.out, Hbc.out, hg2⟩
    case round =>
      obtain ⟨k, hkl, rfl, hw, hbw, hgw⟩ := hrel
      by_cases hlt : k < L
      · have hko : k < of.length := by rw [← HL.out]; exact hlt
        obtain ⟨b, off, u, rfl, -, hu, hcx⟩ := (HA.out.keep (w' := wr) fun z hz => hbw.block z (HS.out z hz)).at1 rfl hko
        obtain rfl := (Kd.int_cell hu).1
        have hin := Hin.out of[k] (List.getElem_mem hko)
        have htk := rest_take (vs := vs) (v := v) hko
        obtain ⟨x, hx⟩ : ∃ x, x = of[k] := ⟨_, rfl⟩
        rw [← hx] at hcx htk hin
        obtain ⟨j, rfl⟩ := Int.eq_ofNat_of_zero_le hin.1
        have hjm : (j : Int) < (m : Int) := hin.2
        have hj0 : (0 : Int) ≤ (j : Int) := hin.1
        have hjv : j < vs.length := by rw [← Hm.out]; omega
        obtain ⟨b2, off2, u2, rfl, -, hu2, hcy⟩ := (HC.out.keep (w' := wr) fun z hz => hbw.block z (HS.out z hz)).at1 rfl hjv
        have hnil := fun a l c => run_neq_slice_nil (P := Try.prog) (w := wr) 38 5 a l c Try.underlying38
        have Htk := hide htk
        have Hw := hide hw
        have Hbw := hide hbw
        clear hu hx hin htk hw hbw
        rcases val_cell hjv with ⟨h1, h2⟩ | ⟨h1, h2⟩
        · rw [h2] at hu2
          have hu2' : [u2] = [.slice none 0 0] := hu2
          injection hu2' with hu2'
          subst hu2'
          have H1 := hide h1
          clear h1 h2
          go_wp2_with fail
          go_roundw
          case rel => exact ⟨k + 1, by omega, by go_num, by rw [Htk.out, H1.out]; exact Hw.out, Hbw.out, hgw⟩
          case measure => simp [intOf]; omega
        · rw [h2] at hu2
          have hlx := Hlen.out (j : Int) h1
          obtain ⟨y, hy⟩ : ∃ y, y = valAt vs (j : Int) := ⟨_, rfl⟩
          rw [← hy] at hu2 hlx
          obtain ⟨a, c2, hu2', g1, g2, hrd⟩ := hu2
          injection hu2' with hu2'
          subst hu2'
          rw [hlx] at hcy g1
          have hbl := balloc wr (.cells #[.slice (some a) n c2] 38)
          have hsz := Hbw.out.size
          have hlit := RdL.lit1 (w := wr) (w' := wr.alloc (.cells #[.slice (some a) n c2] 38)) (e := 38) (c := c2) (by rw [hlx]; exact g1) g2 hrd (fun z hz => Nat.lt_of_lt_of_le (HS.out z hz) hsz) (by rw [hlx])
          have hrl : (restV vs (of.take k) v).length = n := rest_len' Hn.out Hlen.out
          obtain ⟨ts, hts⟩ : ∃ ts, ts = restV vs (of.take k) v := ⟨_, rfl⟩
          rw [← hts] at hrl
          rw [← hts, h1, if_pos rfl, ← hy] at Htk
          have hw0 := Hw.out
          rw [← hts] at hw0
          have hx := xorall_yes (some ⟨g, 0, none⟩) g [] post 5 ts c' (some ⟨wr.heap.size, 0, none⟩) [y] 1 _ (wr.alloc (.cells #[.slice (some a) n c2] 38)) hc2 (by rw [hrl]; exact hc1) (by unfold maxLen; omega) (by simp) (hw0.keep (hbl.block g hgw)) (fun z hz => by simp at hz; rw [hz, hlx, hrl]) hlit (fun z hz => by
            rcases hz with hz | hz
            · have := HS.out z hz; simp; omega
            · rw [hz]; simp; omega)
          rw [hrl] at hx
          have Hx := hide hx
          clear hx hw0 hrl hts Hw hlit hrd h1 h2 hlx hy hbl
          go_wp2_with fail
          refine Hx.out.mono ?_
          rintro _ w9 ⟨rfl, hw9, hg9⟩
          have Hw9 := hide hw9
          have Hg9 := hide hg9
          clear hw9 hg9
          go_wp2_with fail
          go_roundw
          case rel =>
            have hs9 := Hg9.out.size
            simp at hs9
            exact ⟨k + 1, by omega, by go_num, by rw [Htk.out]; exact Hw9.out, (Ch.of_grown Hg9.out).below (Hbw.out.alloc Hbw.out.size _) (by simp; omega) fun z hz => by have hz' : some g = some z := hz; injection hz' with hz'; omega, by omega⟩
          case measure => simp [intOf]; omega
      · obtain rfl : k = L := by omega
        have hfull : of.take k = of := List.take_of_length_le (by rw [← HL.out]; exact Nat.le_refl _)
        rw [hfull] at hw
        have Hw := hide hw
        have Hbw := hide hbw
        clear hw hbw hfull
        go_wp2_with fail
        exact hR.out _ _ ⟨g, c', rfl, hc1, hc2, ⟨post, Hw.out⟩, Nat.le_trans Hb1.out.size hg1, hgw, Hb1.out.trans (Hbw.out.mono Hb1.out.size)⟩
end Go.Proofs.Ytdppjhfndolbjaa
