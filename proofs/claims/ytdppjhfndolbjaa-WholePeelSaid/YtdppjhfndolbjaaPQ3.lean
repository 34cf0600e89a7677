/- A queue's other calls, walked. -/
import Derived.Test.YtdppjhfndolbjaaPQ2
import Derived.Deep.QuietTactic
import Derived.BigQuiet
import Derived.Deep.RegionLaw
set_option linter.unusedVariables false
set_option linter.unusedSimpArgs false
namespace Go.Proofs.Ytdppjhfndolbjaa
open Go.RowKit Go.Maps

section
variable {w w' : World} {S : Nat → Prop} {g : Nat} {E : List Int} {p : Nat} {v : Value} {l : List Int} {at' : Nat} {m : Option Nat}
theorem below_drewN (w : World) (n : Nat) : Below w.heap.size w (w.drewN n) := ⟨rfl, rfl, rfl, Nat.le_refl _, fun _ _ => rfl⟩
theorem step_appq {P : Program} {ops : Array Oper} {o : Oper} {a : Act} {w : World} {K : Act → World → Prop} {Q : Exit → Act → World → Prop} {X : Prop} (hg : o.guard = none) (N : Tmp) (_hN : o.dst = some N) (s x : Operand) (t : TypeId)
    (ho : o.op = .call { callee := .builtin .append, args := #[s, x], argTypes := #[t, t] }) {e : TypeId} {z : Value} {bytes : Nat} (ht : P.underlying t = some (.slice e)) (hi : (P.info? e).map (fun i => (i.zero, i.size, i.bytes)) = some (some z, 1, bytes)) (hz : z.cells.size = 1)
    {v : Value} {us : List Value} (hv : a.eval s = v) (hown : Row w e v us) {A : Option Addr} {c : Nat} {news : List Value} (hx : a.eval x = .slice A news.length c) (hs : Src w A news) (h1 : ∀ u ∈ news, u.oneCell' = true)
    (hb : (us.length + news.length) * bytes ≤ 140737488355328) (hl : us.length + news.length ≤ maxLen)
    (h : ∀ v' w', Row w' e v' (us ++ news) → w.grownBy w' v.ownBlock → (v'.ownBlock = v.ownBlock ∨ v'.ownBlock = some w.heap.size) → K (a.put (some N) v') w') : if Region.wanted o (yielded ops a.tmps) = true then Oper.wp P o a w K Q else X := by
  rw [if_pos (by simp [Region.wanted, hg])]
  exact op_app N _hN s x t ho ht hi hz hv hown hx hs h1 hb hl h
theorem drop_src {w : World} {e : TypeId} {gv c k : Nat} {us : List Value} (h : Row w e (.slice (some ⟨gv, 0, none⟩) k c) us) (a : Nat) (ha : a ≤ us.length) (n : Nat) : Src { w with drawn := n } (some ⟨gv, a, none⟩) (us.drop a) := fun hp => by
  refine ⟨_, rfl, fun j u hu => ?_⟩
  rw [List.getElem?_drop] at hu
  have hh : Row { w with drawn := n } e (.slice (some ⟨gv, 0, none⟩) k c) us := h.keep fun _ _ => rfl
  have := World.ownsRow.cells hh (g := gv) rfl (a + j) u hu
  rw [show (⟨gv, a, none⟩ : Addr).add j = (⟨gv, 0, none⟩ : Addr).add (a + j) from ?_]
  · exact this
  · unfold Addr.add
    split <;> split <;> simp_all
theorem row3 {w : World} {g : Nat} {a b c : Value} {t : TypeId} (h : w.heap[g]? = some (.cells #[a, b, c] t (0, 0))) : w.cell? ⟨g, 0, none⟩ = some a ∧ w.frozen? ⟨g, 0, none⟩ = false ∧ w.cell? ⟨g, 1, none⟩ = some b ∧ w.frozen? ⟨g, 1, none⟩ = false :=
  ⟨by rw [cell_of_row w g 0 _ _ (0, 0) h]; rfl, by simp [World.frozen?, h], by rw [cell_of_row w g 1 _ _ (0, 0) h]; rfl, by simp [World.frozen?, h]⟩
theorem after_app {w w7 : World} {S : Nat → Prop} {g : Nat} {E : List Int} {p : Nat} {v : Value} {l : List Int} {at' : Nat} {m : Option Nat} (h : QA w S g E p v l at' m) (ho : w.drew.grownBy w7 (Value.slice none 0 0).ownBlock) : True ∧ w7.heap[g]? = some (.cells #[v, .int .i64 (at' : Int), .map m] 50 (0, 0)) :=
  ⟨trivial, (ho.block g (h.lt g h.sg) fun e => by cases e).trans h.head⟩
theorem grown_drew {w w' : World} {o : Option Nat} (h : w.drew.grownBy w' o) : w.grownBy w' o := ⟨h.os, h.tape, h.output, h.size, h.block⟩
theorem QA.left (h : QA w S g E p v l at' m) : l.length - at' = E.length - p := by
  have := congrArg List.length h.dr
  simpa using this
set_option maxHeartbeats 1000000 in
theorem ever_calls (x : Int) (hx : (Lit.int .i64 x).wf = true) (h : QS w S g E p) : Calls Try.prog 20 #[.pointer (some ⟨g, 0, none⟩), .int .i64 x] w fun e w' => e = .returned (.bool (decide (x ∈ E))) ∧ Below w.heap.size w w' := by
  refine cps fun R hR => ?_
  obtain ⟨v, l, at', m, hq⟩ := h
  obtain ⟨c0, c1, c2, cf⟩ := hq.cells
  have Hkey := hide (show keyOf Try.prog 3 (.int .i64 x) = some (.int .i64 x) from keyOf_int_mk Try.underlying3 hx)
  have hb := hide (balloc w (.cells #[] 67))
  rcases hq.mp with ⟨rfl, hE⟩ | ⟨b, rfl, hown⟩
  · rw [hE] at hR
    have hR := hR
    clear hq cf c0 c1 hE hx
    go_enter Try.func20, Try.ntmps20
    go_wp2_with (at_lookup; refine wp_lookup_nil _ rfl _ _ 48 rfl 3 67 law3 Try.underlying48 (zeroU _) rfl _ _ rfl Hkey.out ?_)
    exact hR.out _ _ ⟨by simp, hb.out⟩
  · have hh := keysOf_has E x
    obtain ⟨D, hD⟩ : ∃ D : DataW Unit, D = setOf (.agg []) (keysOf E) := ⟨_, rfl⟩
    rw [← hD] at hown hh
    have Hh := hide hh
    clear hq cf c0 c1 hD hx hh
    go_enter Try.func20, Try.ntmps20
    go_wp2_with (at_lookup; refine wpList_lookup_own_unit _ rfl _ _ 48 rfl 3 67 law3 Try.underlying48 (zeroU _) b E.length _ rfl hown _ _ rfl Hkey.out ?_)
    exact hR.out _ _ ⟨by rw [Hh.out]; rfl, hb.out⟩
theorem pop_none (h : QS w S g E p) (hp : p = E.length) : Calls Try.prog 18 #[.pointer (some ⟨g, 0, none⟩)] w fun e w' => e = .returned (.tuple #[.int .i64 0, .bool false]) ∧ Below w.heap.size w w' := by
  refine cps fun R hR => ?_
  obtain ⟨v, l, at', m, hq⟩ := h
  obtain ⟨A, c, rfl, -, -⟩ := hq.row.shape
  rw [List.length_map] at *
  obtain ⟨c0, c1, c2, cf⟩ := hq.cells
  obtain rfl : at' = l.length := by have := hq.left; have := hq.le; omega
  clear hq cf c2 hp
  go_enter Try.func18, Try.ntmps18
  go_wp2_with fail
  go_quiet (fail)
  go_wp2_with fail
  exact hR.out _ _ ⟨rfl, below_drewN w _⟩
theorem QA.next (h : QA w S g E p v l at' m) (hp : p < E.length) (hc : Ch (fun k => k = g) w w') (hd : w'.heap[g]? = some (.cells #[v, .int .i64 ((at' + 1 : Nat) : Int), .map m] 50 (0, 0))) : QA w' S g E (p + 1) v l (at' + 1) m := by
  have hk : ∀ k, S k → k ≠ g → w'.heap[k]? = w.heap[k]? := fun k hk hg => hc.block k (h.lt k hk) hg
  have hl := h.left
  have hle := h.le
  refine ⟨hd, h.row.keep fun k hv => hk k (h.sv k hv).1 (h.sv k hv).2.1, by omega, ?_, by omega, h.ll, h.mp.keep fun b hb => hk b (h.sm b hb).1 (h.sm b hb).2, h.sg, h.sv, h.sm, fun k hk' => Nat.lt_of_lt_of_le (h.lt k hk') hc.size, h.wf⟩
  rw [← List.drop_drop, ← List.drop_drop, h.dr]
theorem shrunk {w1 w2 : World} {v' : Value} {a : Nat} {q : Nat} (h : QA w1 S g E q v l a m) (hr : Row w2 3 v' ((l.map encI).drop a)) (hg : w1.grownBy w2 none) (ho : v'.ownBlock = none ∨ v'.ownBlock = some w1.heap.size) {w3 : World}
    (hk : ∀ k, k ≠ g → w3.heap[k]? = w2.heap[k]?) (hd : w3.heap[g]? = some (.cells #[v', .int .i64 0, .map m] 50 (0, 0))) (h3 : w3.os = w2.os ∧ w3.tape = w2.tape ∧ w3.output = w2.output ∧ w3.heap.size = w2.heap.size) :
    ∃ S', QS w3 S' g E q ∧ Step S S' w1 w3 := by
  have gl := h.lt g h.sg
  have s2 := hg.size
  have hC : Ch S w1 w3 := ⟨h3.1.trans hg.os, h3.2.1.trans hg.tape, h3.2.2.1.trans hg.output, by rw [h3.2.2.2]; exact s2, fun k hk' hn => (hk k fun e => hn (e ▸ h.sg)).trans (hg.block k hk' fun e => by cases e)⟩
  have vn : ∀ k, v'.ownBlock = some k → k = w1.heap.size := fun k hk' => by
    rcases ho with e | e
    · rw [e] at hk'; cases hk'
    · rw [e] at hk'; injection hk' with e; exact e.symm
  have hb : ∀ k, k < w1.heap.size → k ≠ g → w3.heap[k]? = w1.heap[k]? := fun k h1 h2 => (hk k h2).trans (hg.block k h1 fun e => by cases e)
  refine ⟨moreS S w1 w3, ⟨v', l.drop a, 0, m, hd, (by rw [List.map_drop]; exact hr.keep fun k h1 => hk k fun e => by have := vn k h1; omega), Nat.zero_le _, by rw [List.drop_zero]; exact h.dr, h.pe, ?_, ?_, .inl h.sg, ?_, ?_, ?_, h.wf⟩, moreS_step hC⟩
  · have := h.ll; rw [List.length_drop]; omega
  · exact h.mp.keep fun b hb' => hb b (h.lt b (h.sm b hb').1) (h.sm b hb').2
  · intro k h1
    have := vn k h1
    have := hr.lt h1
    refine ⟨.inr ⟨by omega, by omega⟩, by omega, fun e => ?_⟩
    have := h.lt k (h.sm k e).1
    omega
  · exact fun b hb' => ⟨.inl (h.sm b hb').1, (h.sm b hb').2⟩
  · intro k hk'
    rcases hk' with h1 | h1
    · have := h.lt k h1; omega
    · exact h1.2
set_option maxHeartbeats 2000000 in
theorem pop_some (h : QS w S g E p) (hp : p < E.length) (hE : E.length ≤ 1000000) : Calls Try.prog 18 #[.pointer (some ⟨g, 0, none⟩)] w fun e w' => e = .returned (.tuple #[.int .i64 E[p], .bool true]) ∧ ∃ S', QS w' S' g E (p + 1) ∧ Step S S' w w' := by
  refine cps fun R hR => ?_
  obtain ⟨v, l, at', m, hq⟩ := h
  have hle := hq.le
  have hlf := hq.left
  have hll := hq.ll
  have hal : at' < l.length := by omega
  obtain ⟨A, c, rfl, hlc, -⟩ := hq.row.shape
  rw [List.length_map] at *
  obtain ⟨gv, rfl, hcell⟩ : ∃ gv, A = some ⟨gv, 0, none⟩ ∧ w.cell? ⟨gv, at', none⟩ = some (.int .i64 l[at']) := by
    rcases hq.row.2 with ⟨he, hn⟩ | ⟨gv, cap, cur, he, _, hh, _, _, _, _⟩
    · simp at hn; subst hn; simp at hal
    · injection he with h1 h2 h3
      refine ⟨gv, h1, ?_⟩
      have := World.ownsRow.cells hq.row (g := gv) (by rw [h1]; rfl) at' (encI l[at']) (by rw [List.getElem?_map, List.getElem?_eq_getElem hal]; rfl)
      unfold Addr.add at this
      split at this
      · rename_i h0
        have e : (⟨gv, at', none⟩ : Addr) = ⟨gv, 0, none⟩ := by rw [h0]
        rw [e]; exact this
      · rw [Nat.zero_add] at this; exact this
  have hxe : l[at'] = E[p] := by
    have h1 : (l.drop at')[0]'(by rw [List.length_drop]; omega) = (E.drop p)[0]'(by rw [List.length_drop]; omega) := by simp only [hq.dr]
    simpa using h1
  rw [hxe] at hcell
  obtain ⟨x, hx⟩ : ∃ x, x = E[p] := ⟨_, rfl⟩
  rw [← hx] at hcell hR
  obtain ⟨c0, c1, c2, cf⟩ := hq.cells
  have f1 := cf 1
  have ne0 : ((at' : Int) == (l.length : Int)) = false := by simp; omega
  have i0 : (0 : Int) ≤ (at' : Int) := by omega
  have i1 : (at' : Int) < (l.length : Int) := by omega
  have i2 : at' < l.length := hal
  have i3 : (at' : Int) ≤ 1000000 := by omega
  have hlm : (l.length : Int) ≤ 1000000 := by omega
  have Hq := hide hq
  have Hp := hide hp
  clear hx hxe cf hq hle hlf hll hp
  go_enter Try.func18, Try.ntmps18
  go_wp2_with fail
  go_quiet (fail)
  rename Nat => n0
  go_wp2_with fail
  go_quiet (fail)
  go_upto_region 5 with fail
  obtain ⟨W, hW⟩ : ∃ W, W = (w.drewN (n0 + nq)).setCell ⟨g, 1, none⟩ (.int .i64 ((at' : Int) + 1)) := ⟨_, rfl⟩
  have hcW : Ch (fun k => k = g) w W := by
    rw [hW]
    exact (Ch.of_below (S := fun _ => False) (below_drewN w (n0 + nq))).mono (fun _ _ h => h.elim) |>.trans (Ch.set _ ⟨g, 1, none⟩ _) fun k hk => .inl hk
  have hdW : W.heap[g]? = some (.cells #[.slice (some ⟨gv, 0, none⟩) l.length c, .int .i64 ((at' + 1 : Nat) : Int), .map m] 50 (0, 0)) := by
    rw [hW, Int.natCast_succ]
    exact set1 (w := w.drewN (n0 + nq)) Hq.out.head _
  have hqW := Hq.out.next Hp.out hcW hdW
  have HC := hide (show Step S S w W from ⟨hcW.mono fun k _ hk => hk ▸ Hq.out.sg, fun k hk => .inl hk, fun k hk => hk⟩)
  rw [← hW]
  clear hW hcW hdW c0 c1 c2 f1 hcell Hq
  obtain ⟨a, ha⟩ : ∃ a, a = at' + 1 := ⟨_, rfl⟩
  have hal' : a ≤ l.length := by omega
  rw [show (at' : Int) + 1 = (a : Int) by omega]
  rw [← ha] at hqW
  obtain ⟨c0, c1, c2, cf⟩ := hqW.cells
  have i4 : (a : Int) ≤ 1000001 := by omega
  have i5 : (0 : Int) ≤ (a : Int) := by omega
  have i6 : (a : Int) ≤ (l.length : Int) := by omega
  have HQ := hide hqW
  clear hqW ha i0 i1 i2 i3 hal
  by_cases u1 : 32 < a
  · by_cases u2 : l.length < 2 * a
    · have d1 : decide ((32 : Int) < (a : Int)) = true := by simp; omega
      have d2 : decide ((l.length : Int) < 2 * (a : Int)) = true := by simp; omega
      have f0 := cf 0
      have f1 := cf 1
      clear u1 u2 cf
      go_quiet (fail)
      go_wp2_with fail
      obtain ⟨W6, hW6⟩ : ∃ W6, W6 = W.drewN nq := ⟨_, rfl⟩
      rw [← hW6]
      have hq6 : QA W6 S g E (p + 1) (.slice (some ⟨gv, 0, none⟩) l.length c) l a m := HQ.out.keep (Ch.of_below (S := fun _ => False) (hW6 ▸ below_drewN W nq)) fun _ _ h => h
      have hC6 := hide (show Step S S w W6 from hW6 ▸ HC.out.below (below_drewN W nq))
      clear c0 c1 c2 f0 f1 hW6 HQ HC d1 d2
      obtain ⟨c0, c1, c2, cf⟩ := hq6.cells
      have f0 := cf 0
      have f1 := cf 1
      have H6 := hide hq6
      clear cf hq6
      by_cases hca : c = a
      · obtain rfl : c = l.length := by omega
        obtain rfl : a = l.length := by omega
        have hsrc : Hid (∀ n, Src { W6 with drawn := n } (some ⟨gv, 0, none⟩) ((l.map encI).drop l.length)) := hide fun n => by
          rw [List.drop_of_length_le (by simp)]; exact Src.nil
        have hdl : Hid (((l.map encI).drop l.length).length = 0) := hide (by rw [List.length_drop, List.length_map, Nat.sub_self])
        have hlen := hide H6.out.ll
        go_region_law ((with_reducible refine step_appq rfl 60 rfl (.const (.slice none 0 0)) (.tmp 59) 31 rfl Try.underlying31 infoI8 ?_ (us := []) ?_ Row.nil (A := some ⟨gv, 0, none⟩) (c := l.length - l.length) (news := (l.map encI).drop l.length) ?_ ?_ ?_ ?_ ?_ ?_); (focus (next => rfl)); (focus (next => rfl)); (focus (next => rw [hdl.out]; first | rfl | (rw [Nat.sub_self]; rfl))); (focus (next => exact hsrc.out _)); (focus (next => exact fun u hu => encI_one l u (List.mem_of_mem_drop hu))); (focus (next => have := hlen.out; have := hdl.out; rw [this]; first | (simp; done) | (simp; omega))); (focus (next => have := hlen.out; have := hdl.out; rw [this]; first | (simp; done) | (simp; unfold maxLen; omega))); intro v' w7 hr7 g7 o7; obtain ⟨A7, c7, rfl, -, -⟩ := hr7.shape; obtain ⟨k7, d7⟩ := after_app H6.out g7; have c07 := (row3 d7).1; have f07 := (row3 d7).2.1; have f17 := (row3 d7).2.2.2; have c17 := (row3 d7).2.2.1; have Hr7 := hide hr7; have G7 := hide g7; have O7 := hide o7; have D7 := hide d7; clear hr7 g7 o7 d7 k7)
        all_goals
          rw [List.nil_append, hdl.out] at Hr7 O7
          go_wp2_with fail
          obtain ⟨S', hq', hs'⟩ := shrunk H6.out (a := l.length) Hr7.out (hk := fun k hk => (Below.heap_setCell _ ⟨g, 1, none⟩ _ k hk).trans (Below.heap_setCell w7 ⟨g, 0, none⟩ _ k hk)) (grown_drew G7.out) O7.out (set1 (set0 D7.out _) _) ⟨rfl, rfl, rfl, by simp [World.setCell]⟩
          exact hR.out _ _ ⟨rfl, S', hq', hC6.out.trans hs'⟩
      · have hsrc := hide (drop_src H6.out.row a (by rw [List.length_map]; exact hal'))
        have hdl : Hid (((l.map encI).drop a).length = l.length - a) := hide (by rw [List.length_drop, List.length_map])
        have hlen := hide H6.out.ll
        go_region_law ((with_reducible refine step_appq rfl 60 rfl (.const (.slice none 0 0)) (.tmp 59) 31 rfl Try.underlying31 infoI8 ?_ (us := []) ?_ Row.nil (A := some ⟨gv, a, none⟩) (c := c - a) (news := (l.map encI).drop a) ?_ ?_ ?_ ?_ ?_ ?_); (focus (next => rfl)); (focus (next => rfl)); (focus (next => rw [hdl.out]; rfl)); (focus (next => exact hsrc.out _)); (focus (next => exact fun u hu => encI_one l u (List.mem_of_mem_drop hu))); (focus (next => have := hlen.out; have := hdl.out; rw [this]; first | (simp; done) | (simp; omega))); (focus (next => have := hlen.out; have := hdl.out; rw [this]; first | (simp; done) | (simp; unfold maxLen; omega))); intro v' w7 hr7 g7 o7; obtain ⟨A7, c7, rfl, -, -⟩ := hr7.shape; obtain ⟨k7, d7⟩ := after_app H6.out g7; have c07 := (row3 d7).1; have f07 := (row3 d7).2.1; have f17 := (row3 d7).2.2.2; have c17 := (row3 d7).2.2.1; have Hr7 := hide hr7; have G7 := hide g7; have O7 := hide o7; have D7 := hide d7; clear hr7 g7 o7 d7 k7)
        all_goals
          rw [List.nil_append, hdl.out] at Hr7 O7
          go_wp2_with fail
          obtain ⟨S', hq', hs'⟩ := shrunk H6.out (a := a) Hr7.out (hk := fun k hk => (Below.heap_setCell _ ⟨g, 1, none⟩ _ k hk).trans (Below.heap_setCell w7 ⟨g, 0, none⟩ _ k hk)) (grown_drew G7.out) O7.out (set1 (set0 D7.out _) _) ⟨rfl, rfl, rfl, by simp [World.setCell]⟩
          exact hR.out _ _ ⟨rfl, S', hq', hC6.out.trans hs'⟩
    · have d1 : decide ((32 : Int) < (a : Int)) = true := by simp; omega
      have d2 : decide ((l.length : Int) < 2 * (a : Int)) = false := by simp; omega
      clear u1 u2 cf
      go_quiet (fail)
      go_wp2_with fail
      exact hR.out _ _ ⟨rfl, S, ⟨_, _, _, _, HQ.out.keep (Ch.of_below (S := fun _ => False) (below_drewN W _)) fun _ _ h => h⟩, HC.out.below (below_drewN W _)⟩
  · have d1 : decide ((32 : Int) < (a : Int)) = false := by simp; omega
    clear u1 cf
    go_quiet (fail)
    go_wp2_with fail
    exact hR.out _ _ ⟨rfl, S, ⟨_, _, _, _, HQ.out.keep (Ch.of_below (S := fun _ => False) (below_drewN W _)) fun _ _ h => h⟩, HC.out.below (below_drewN W _)⟩
end
end Go.Proofs.Ytdppjhfndolbjaa
