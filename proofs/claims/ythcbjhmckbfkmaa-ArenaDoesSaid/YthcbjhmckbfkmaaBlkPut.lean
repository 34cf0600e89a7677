/- The reference's row of blocks: Put. -/
import Derived.Test.YthcbjhmckbfkmaaArenaPure
import Derived.Test.YthcbjhmckbfkmaaAppS
import Derived.Deep.RegionLaw
set_option linter.unusedVariables false
set_option linter.unusedSimpArgs false
namespace Go.Proofs.Ythcbjhmckbfkmaa
open Go.RowKit

/-- append(v, l...), both rows of one kind. -/
theorem wp_cat {P : Program} {w : World} {α : Type} {d : Kd α} {S S2 : Nat → Prop} {ops : Array Oper} {rest : List Oper} {o : Oper} {a : Act} {Q : Exit → Act → World → Prop} (N : Tmp) (_hN : o.dst = some N) (hgd : o.guard = none) (s x : Operand) (t : TypeId)
    (ho : o.op = .call { callee := .builtin .append, args := #[s, x], argTypes := #[t, t] }) {e e2 : TypeId} {z : Value} {bytes : Nat} (ht : P.underlying t = some (.slice e)) (hi : (P.info? e).map (fun i => (i.zero, i.size, i.bytes)) = some (some z, d.sz, bytes)) (hz : z.cells.size = d.sz)
    {v : Value} (hv : a.eval s = v) (hown : ORow d S w e v []) {A : Option Addr} {m c : Nat} {ys : List α} (hx : a.eval x = .slice A m c) (hy : ORow d S2 w e2 (.slice A m c) ys) (hp : 0 < ys.length) (h1 : ∀ y ∈ ys, ∀ cs, d.R S2 w y cs → ∀ u ∈ cs, u.oneCell' = true)
    (hb : ys.length * bytes ≤ 140737488355328) (hl : ys.length ≤ maxLen) (hS : ∀ k, S2 k → k < w.heap.size ∧ some k ≠ v.ownBlock)
    (h : ∀ v' w', ORow d S2 w' e v' ys → w.grownBy w' v.ownBlock → (v'.ownBlock = v.ownBlock ∨ v'.ownBlock = some w.heap.size) → wpList P ops Q rest (a.put (some N) v') w') : wpList P ops Q (o :: rest) a w := by
  obtain ⟨i, hi, hzz⟩ := Option.map_eq_some_iff.1 hi
  simp only [Prod.mk.injEq] at hzz
  obtain ⟨hz0, hz1, hz2⟩ := hzz
  obtain ⟨us, h2, h3⟩ := hown
  obtain ⟨us2, h4, h5⟩ := hy
  have hus : us = [] := by
    have := h2.1; simp at this; exact this
  subst hus
  have hm : m = ys.length := by
    rcases h4.2 with ⟨h6, h7⟩ | ⟨g, cap, cur, h6, -⟩
    · omega
    · injection h6
  subst hm
  obtain ⟨g, hg⟩ : ∃ g, A = some ⟨g, 0, none⟩ := by
    rcases h4.2 with ⟨h6, h7⟩ | ⟨g, cap, cur, h6, -⟩
    · omega
    · injection h6 with h6; exact ⟨g, h6⟩
  subst hg
  have hone : ∀ u ∈ us2, u.oneCell' = true := fun u hu => by
    obtain ⟨q, hq, rfl⟩ := List.getElem_of_mem hu
    have hql : q < ys.length * d.sz := by rw [← h4.1]; exact hq
    have hpos := d.pos
    have hqd : q / d.sz < ys.length := Nat.div_lt_of_lt_mul (by rw [Nat.mul_comm]; exact hql)
    obtain ⟨cs, hr, hc⟩ := h5 (q / d.sz) ys[q / d.sz] (List.getElem?_eq_getElem hqd)
    have hmod := Nat.mod_lt q hpos
    have hcl := d.len hr
    have := hc (q % d.sz) (cs[q % d.sz]'(by omega)) (List.getElem?_eq_getElem (by omega))
    rw [Nat.div_add_mod' q d.sz, List.getElem?_eq_getElem hq] at this
    injection this with this
    rw [this]
    exact h1 _ (List.getElem_mem hqd) cs hr _ (List.getElem_mem _)
  refine wpList_append_own_at w hgd s x t ho 0 e i z d.sz bytes ht hi hz0 hz1 hz2 hz d.pos v 0 [] hv h2 ⟨g, 0, none⟩ ys.length c us2 hx h4.1 (World.ownsRow.cells h4 rfl) hone (by omega) (by rw [Nat.zero_add]; exact hb) (Nat.zero_le _) fun v' w' q1 q2 q3 q4 => ?_
  rw [_hN]
  refine h v' w' ⟨us2, by simpa using q1, fun i' y' hy' => ?_⟩ q2 q4
  obtain ⟨cs, hr, hc⟩ := h5 i' y' hy'
  exact ⟨cs, d.keep (fun k hk => q2.block k (hS k hk).1 (hS k hk).2) hr, hc⟩
theorem kBlk_one {S : Nat → Prop} {w : World} {y : Int × List UInt8} {cs : List Value} (h : kBlk.R S w y cs) : ∀ u ∈ cs, u.oneCell' = true := by
  obtain ⟨_, _, rfl, ⟨_, rfl, rfl, -⟩, Bx, c, rfl, h1, h2, h3⟩ := h
  intro u hu
  simp at hu
  rcases hu with rfl | rfl <;> rfl
theorem lit_part {T : Nat → Prop} {w : World} {g : Nat} {b : List UInt8} (h : RdL (Kd.sl Kd.byte) T w (some ⟨g, 0, none⟩) [b]) : ∃ Ax c, w.cell? ⟨g, 0, none⟩ = some (.slice Ax b.length c) ∧ b.length ≤ c ∧ c ≤ maxLen ∧ RdL Kd.byte T w Ax b ∧ T g := by
  obtain ⟨q, off, u, e, hs, hu, hcell⟩ := h.at1 rfl (i := 0) (by simp)
  injection e with e; injection e with e1 e2 e3
  subst e1; subst e2
  obtain ⟨Ax, c, rfl, h1, h2, h3⟩ := Kd.sl_cell hu
  exact ⟨Ax, c, hcell, h1, h2, h3, hs⟩
set_option maxHeartbeats 1000000 in
theorem bput_no {B : Option Addr} {l : LBlk} {d g : Nat} {n : Int} {b : List UInt8} {S T : Nat → Prop} {w : World} (hd : d ≤ maxLen) (hdl : l.length ≤ d) (h : RdL kBlk S w B l) (hT : RdL (Kd.sl Kd.byte) T w (some ⟨g, 0, none⟩) [b]) (hno : ∀ f (hf : f < l.length), findB l n = (f : Int) → l[f].2.length ≠ b.length) :
    Calls Try.prog 32 #[.slice B l.length d, .int .i64 n, .slice (some ⟨g, 0, none⟩) 1 1] w fun e w' => e = .returned (.tuple #[.slice B l.length d, .bool false]) ∧ w = w' := by
  refine cps fun R hR => ?_
  have hF := hide (find_calls B l d n S w hd hdl h)
  unfold maxLen at hd
  rcases findB_cases l n with ⟨h1, -⟩ | ⟨f, hf, h1, -⟩
  · rw [h1] at hF
    obtain ⟨L, hL⟩ : ∃ L, L = l.length := ⟨_, rfl⟩
    rw [← hL] at hdl hF hR ⊢
    clear hL h hT hno h1
    go_enter Try.func32, Try.ntmps32
    go_wp2_with fail
    refine hF.out.mono ?_
    rintro e w1 ⟨rfl, rfl⟩
    go_wp2_with fail
    exact hR.out _ _ ⟨rfl, rfl⟩
  · rw [h1] at hF
    have hne := hno f hf h1
    obtain ⟨b0, off, Bx, c, rfl, hsb, -, hcy, h2, h3, hrd, -⟩ := blk_at h hf
    have hfit := hide (fits_calls (l[f].2.length : Int) (some ⟨g, 0, none⟩) [b] 1 T w (by unfold maxLen; omega) (by simp) hT)
    rw [show fitsB (l[f].2.length : Int) [b] = false by simp [fitsB]; omega] at hfit
    obtain ⟨L, hL⟩ : ∃ L, L = l.length := ⟨_, rfl⟩
    rw [← hL] at hdl hF hR ⊢
    have hfl : f < L := by omega
    obtain ⟨ln, hln⟩ : ∃ ln, ln = l[f].2.length := ⟨_, rfl⟩
    rw [← hln] at hcy hfit
    have i1 : (0 : Int) ≤ (f : Int) := by omega
    have i2 : (f : Int) < (L : Int) := by omega
    have i3 : decide ((f : Int) < 0) = false := by simp
    clear hL h hT hno h1 hne hln hsb hrd h2 h3
    go_enter Try.func32, Try.ntmps32
    go_wp2_with fail
    refine hF.out.mono ?_
    rintro e w1 ⟨rfl, rfl⟩
    go_wp2_with fail
    refine hfit.out.mono ?_
    rintro e w1 ⟨rfl, rfl⟩
    go_wp2_with fail
    exact hR.out _ _ ⟨rfl, rfl⟩
theorem own_set {w : World} {e : TypeId} {size n m : Nat} {v : Value} {us : List Value} {g : Nat} (h : w.ownsRow 0 e size v n us) (hg : v.ownBlock = some g) (hm : m < us.length) (u : Value) :
    w.cell? ⟨g, m, none⟩ = some us[m] ∧ w.frozen? ⟨g, m, none⟩ = false ∧ (w.setCell ⟨g, m, none⟩ u).ownsRow 0 e size v n (us.set m u) := by
  rcases h.2 with ⟨rfl, hn⟩ | ⟨g', cap, cur, rfl, hb, hh, h1, h2, h3, h4⟩
  · cases hg
  · obtain rfl : g' = g := by simpa [Value.ownBlock] using hg
    have hci : cur[m]? = some us[m] := by
      have e1 : (List.take (n * size) cur.toList)[m]? = us[m]? := by rw [h4]
      rw [List.getElem?_take_of_lt (by rw [← h.1]; exact hm), Array.getElem?_toList, List.getElem?_eq_getElem hm] at e1
      exact e1
    refine ⟨by rw [cell_of_row w g' _ cur e (0, 0) hh]; exact hci, by simp [World.frozen?, hh], by rw [List.length_set]; exact h.1, .inr ⟨g', cap, cur.setIfInBounds m u, rfl, hb, ?_, h1, h2, by rw [Array.size_setIfInBounds, h3], ?_⟩⟩
    · simp [World.setCell, Array.getElem?_modify, hh]
    · rw [Array.toList_setIfInBounds, List.take_set, h4]
/-- A block of the row is set anew. -/
theorem orow_set2 {S : Nat → Prop} {w : World} {e : TypeId} {zo L co f : Nat} {l : LBlk} (h : ORow kBlk S w e (.slice (some ⟨zo, 0, none⟩) L co) l) (hf : f < l.length) (u1 : Value) :
    (∃ u, w.cell? ⟨zo, f * 2, none⟩ = some u) ∧ w.frozen? ⟨zo, f * 2, none⟩ = false ∧ (∃ u, (w.setCell ⟨zo, f * 2, none⟩ u1).cell? ⟨zo, f * 2 + 1, none⟩ = some u) ∧ (w.setCell ⟨zo, f * 2, none⟩ u1).frozen? ⟨zo, f * 2 + 1, none⟩ = false ∧
    ∀ (u2 : Value) (y : Int × List UInt8) (S' : Nat → Prop), (∀ k, S k → S' k) → (∀ k, S' k → k ≠ zo) → kBlk.R S' w y [u1, u2] → ORow kBlk S' ((w.setCell ⟨zo, f * 2, none⟩ u1).setCell ⟨zo, f * 2 + 1, none⟩ u2) e (.slice (some ⟨zo, 0, none⟩) L co) (l.set f y) := by
  obtain ⟨us, h1, h2⟩ := h
  have hul := h1.1
  have hsz : kBlk.sz = 2 := rfl
  rw [hsz] at hul
  obtain ⟨a1, a2, a3⟩ := own_set h1 rfl (m := f * 2) (by omega) u1
  refine ⟨⟨_, a1⟩, a2, ?_⟩
  obtain ⟨b1, b2, -⟩ := own_set a3 rfl (m := f * 2 + 1) (by rw [List.length_set]; omega) u1
  refine ⟨⟨_, b1⟩, b2, fun u2 y S' hS hz hy => ?_⟩
  obtain ⟨-, -, b3⟩ := own_set a3 rfl (m := f * 2 + 1) (by rw [List.length_set]; omega) u2
  have hk : ∀ k, S' k → ((w.setCell ⟨zo, f * 2, none⟩ u1).setCell ⟨zo, f * 2 + 1, none⟩ u2).heap[k]? = w.heap[k]? := fun k hk => by
    rw [Below.heap_setCell _ _ _ _ (hz k hk), Below.heap_setCell _ _ _ _ (hz k hk)]
  refine ⟨_, by rw [List.length_set]; exact b3, fun i x hx => ?_⟩
  rw [List.getElem?_set] at hx
  rw [hsz]
  split at hx
  · rename_i e1
    subst e1
    try rw [if_pos hf] at hx
    injection hx with hx
    subst hx
    refine ⟨[u1, u2], kBlk.keep hk hy, fun j u hu => ?_⟩
    match j, hu with
    | 0, hu =>
      simp at hu; subst hu
      rw [show f * 2 + 0 = f * 2 from rfl, List.getElem?_set_ne (by omega), List.getElem?_set_self (by omega)]
    | 1, hu =>
      simp at hu; subst hu
      rw [List.getElem?_set_self (by rw [List.length_set]; omega)]
    | j + 2, hu => simp at hu
  · rename_i e1
    obtain ⟨cs, hr, hc⟩ := h2 i x hx
    refine ⟨cs, kBlk.keep hk (kBlk.mono hS hr), fun j u hu => ?_⟩
    have hj : j < 2 := by
      have := kBlk.len hr
      have := (List.getElem?_eq_some_iff.1 hu).1
      rw [hsz] at *; omega
    rw [List.getElem?_set_ne (by omega), List.getElem?_set_ne (by omega)]
    have := hc j u hu
    rwa [hsz] at this
theorem ORow.addr {α : Type} {d : Kd α} {S : Nat → Prop} {w : World} {e : TypeId} {A : Option Addr} {n c : Nat} {xs : List α} (h : ORow d S w e (.slice A n c) xs) (hp : 0 < xs.length) : ∃ z, A = some ⟨z, 0, none⟩ := by
  obtain ⟨us, h1, -⟩ := h
  rcases h1.2 with ⟨-, h2⟩ | ⟨g, cap, cur, h2, -⟩
  · omega
  · injection h2 with h2; exact ⟨g, h2⟩
theorem step_app5 {P : Program} {ops : Array Oper} {o : Oper} {a : Act} {w : World} {K : Act → World → Prop} {Q : Exit → Act → World → Prop} {X : Prop} (hg : o.guard = none) (N : Tmp) (_hN : o.dst = some N) (s x : Operand) (t : TypeId)
    (ho : o.op = .call { callee := .builtin .append, args := #[s, x], argTypes := #[t, t] }) {e : TypeId} {z : Value} {bytes : Nat} (ht : P.underlying t = some (.slice e)) (hi : (P.info? e).map (fun i => (i.zero, i.size, i.bytes)) = some (some z, 1, bytes)) (hz : z.cells.size = 1)
    {v : Value} {us : List Value} (hv : a.eval s = v) (hown : Row w e v us) {A : Option Addr} {c : Nat} {news : List Value} (hx : a.eval x = .slice A news.length c) (hs : Src w A news) (h1 : ∀ u ∈ news, u.oneCell' = true)
    (hb : (us.length + news.length) * bytes ≤ 140737488355328) (hl : us.length + news.length ≤ maxLen)
    (h : ∀ v' w', Row w' e v' (us ++ news) → w.grownBy w' v.ownBlock → (v'.ownBlock = v.ownBlock ∨ v'.ownBlock = some w.heap.size) → K (a.put (some N) v') w') : if Region.wanted o (yielded ops a.tmps) = true then Oper.wp P o a w K Q else X := by
  rw [if_pos (by simp [Region.wanted, hg])]
  exact op_app N _hN s x t ho ht hi hz hv hown hx hs h1 hb hl h
theorem src_one {w : World} {g : Nat} {u : Value} (h : w.cell? ⟨g, 0, none⟩ = some u) : Src w (some ⟨g, 0, none⟩) [u] := fun _ => ⟨_, rfl, fun j v hv => by
  cases j with
  | zero => simp at hv; subst hv; simpa [Addr.add] using h
  | succ j => simp at hv⟩
theorem zero_xor5 (x : List UInt8) : xorL (zs x.length) x = x := by
  apply List.ext_getElem
  · simp [xorL, zs]
  · intro i h1 h2
    simp [xorL, zs]
/-- The two blocks that are put upon each other, in one row. -/
theorem bput_sum {S T : Nat → Prop} {w3 : World} {Bx Ax : Option Addr} {x b : List UInt8} {ln c cx : Nat} (hx : RdL Kd.byte S w3 Bx x) (hln : ln = x.length) (hlc : x.length ≤ c) (hcm : c ≤ maxLen) (hxb : x.length = b.length) (hb : RdL Kd.byte T w3 Ax b) (hbc : b.length ≤ cx) (hbm : cx ≤ maxLen) (hS : ∀ k, S k → k < w3.heap.size) (hT : ∀ k, T k → k < w3.heap.size) (hbl : b.length ≤ 1000000) :
    ∀ (v5 : Value) (w5 : World), Row w5 22 v5 [.slice Bx ln c, .slice Ax ln cx] → (w3.alloc (.cells #[.slice Bx ln c] 22)).drew.grownBy w5 (Value.slice (some ⟨w3.heap.size, 0, none⟩) 1 1).ownBlock → ∃ A5 c5, v5 = .slice A5 2 c5 ∧ Below w3.heap.size w3 w5 ∧
      Calls Try.prog 16 #[.int .i64 (ln : Int), .slice A5 2 c5] w5 fun e w' => ∃ z, e = .returned (.slice (some ⟨z, 0, none⟩) ln ln) ∧ Wr w' (some ⟨z, 0, none⟩) z [] [] 5 (xorL x b) ∧ z < w'.heap.size ∧ w3.heap.size < z ∧ Below w3.heap.size w3 w' := by
  intro v5 w5 hr g5
  obtain ⟨A5, c5, rfl, h1, h2⟩ := hr.shape
  have hb5 : Below w3.heap.size w3 w5 := by
    have hd : Below w3.heap.size w3 (w3.alloc (.cells #[.slice Bx ln c] 22)).drew := (balloc w3 _).drew
    exact (Ch.of_grown g5).below hd hd.size fun k hk => by have hk' : some w3.heap.size = some k := hk; injection hk' with hk'; omega
  have hs5 : w3.heap.size < w5.heap.size := by
    have := g5.size
    have e : (w3.alloc (.cells #[.slice Bx ln c] 22)).drew.heap.size = w3.heap.size + 1 := by show (w3.alloc _).heap.size = _; simp
    omega
  refine ⟨A5, c5, rfl, hb5, ?_⟩
  have hrd := Row.rdL (S := fun k => S k ∨ T k ∨ (Value.slice A5 2 c5).ownBlock = some k) (xss := [x, b]) hr rfl (fun i u y hu hy => by
    match i, hu, hy with
    | 0, hu, hy =>
      simp at hu hy; subst hu; subst hy
      exact ⟨Bx, c, by rw [hln], hlc, hcm, (hx.keep fun k hk => hb5.block k (hS k hk)).mono fun k hk => .inl hk⟩
    | 1, hu, hy =>
      simp at hu hy; subst hu; subst hy
      exact ⟨Ax, cx, by rw [hln, hxb], hbc, hbm, (hb.keep fun k hk => hb5.block k (hT k hk)).mono fun k hk => .inr (.inl hk)⟩
    | i + 2, hu, hy => simp at hu) (fun k hk => .inr (.inr hk))
  refine (refsum_calls ln A5 [x, b] c5 _ w5 (by omega) h2 h1 (fun y hy => by simp at hy; rcases hy with rfl | rfl <;> omega) hrd (fun k hk => ?_)).mono ?_
  · rcases hk with hk | hk | hk
    · have := hS k hk; omega
    · have := hT k hk; omega
    · exact hr.lt hk
  · rintro e w' ⟨rfl, h3, h4, h5⟩
    refine ⟨_, rfl, ?_, h4, hs5, hb5.trans (h5.mono (by omega))⟩
    have e : sumL (zs ln) [x, b] = xorL x b := by
      subst hln
      show xorL (xorL (zs x.length) x) b = _
      rw [show xorL (zs x.length) x = x from zero_xor5 x]
    rw [e] at h3; exact h3
set_option maxHeartbeats 1000000 in
theorem bput_yes {B : Option Addr} {l : LBlk} {d g : Nat} {n : Int} {b : List UInt8} {S T : Nat → Prop} {w : World} {e0 : TypeId} {f : Nat} (hf : f < l.length) (h : ORow kBlk S w e0 (.slice B l.length d) l) (hS : ∀ k, S k → k < w.heap.size) (hT : RdL (Kd.sl Kd.byte) T w (some ⟨g, 0, none⟩) [b]) (hTl : ∀ k, T k → k < w.heap.size) (hlen : l.length ≤ 1000000) (hbl : b.length ≤ 1000000) (hnw : (Lit.int .i64 n).wf = true)
    (h1 : findB l n = (f : Int)) {x : List UInt8} (hx : x = l[f].2) (hyes : x.length = b.length) :
    Calls Try.prog 32 #[.slice B l.length d, .int .i64 n, .slice (some ⟨g, 0, none⟩) 1 1] w fun e w' => ∃ v z, e = .returned (.tuple #[v, .bool true]) ∧ (w.heap.size ≤ z ∧ z < w'.heap.size) ∧ ORow kBlk (fun k => S k ∨ k = z) w' 53 v (l.set f (n, xorL x b)) ∧ (∀ k, v.ownBlock = some k → w.heap.size ≤ k ∧ k ≠ z) ∧ Below w.heap.size w w' := by
  refine cps fun R hR => ?_
  obtain ⟨A0, c0, e0', hdl, hd⟩ := h.shape
  injection e0' with q1 q2 q3
  subst q1; subst q3
  have hrl := h.rd
  have hF := hide (find_calls B l d n _ w hd hdl hrl)
  rw [h1] at hF
  unfold maxLen at hd
  obtain ⟨b0, off, Bx, c, rfl, hsb, -, hcy, h2, h3, hrd, -⟩ := blk_at hrl hf
  rw [← hx] at hcy h2 hrd
  have hfit := hide (fits_calls (x.length : Int) (some ⟨g, 0, none⟩) [b] 1 T w (by unfold maxLen; omega) (by simp) hT)
  rw [show fitsB (x.length : Int) [b] = true by simp [fitsB]; omega] at hfit
  have H := hide h
  have Hx := hide hx
  have hfl := hf
  clear hx
  obtain ⟨L, hL⟩ : ∃ L, L = l.length := ⟨_, rfl⟩
  rw [← hL] at hdl hF H hlen hfl ⊢
  obtain ⟨ln, hln⟩ : ∃ ln, ln = x.length := ⟨_, rfl⟩
  rw [← hln] at hcy hfit
  have i1 : (0 : Int) ≤ (f : Int) := by omega
  have i2 : (f : Int) < (L : Int) := by omega
  have i3 : decide ((f : Int) < 0) = false := by simp
  have hb0 := World.block_lt_of_cell? _ _ hcy
  have Hrd := hide hrd
  have HT := hide hT
  have HTl := hide hTl
  have Hb0 := hide hb0
  have Hlx := hide hln
  have Hyes := hide hyes
  clear hln hyes
  have HS := hide hS
  have HL := hide hL
  clear h hrl h1 hS hL hrd hT hTl hb0 hsb hdl
  go_enter Try.func32, Try.ntmps32
  go_wp2_with fail
  refine hF.out.mono ?_
  rintro e w1 ⟨rfl, rfl⟩
  go_wp2_with fail
  refine hfit.out.mono ?_
  rintro e w1 ⟨rfl, rfl⟩
  have Horow := hide (H.out.keep (w' := w.alloc (.cells #[] 53)) fun k hk => (balloc w _).block k (hk.elim (HS.out k) fun hk => H.out.lt hk))
  have Hlit := hide (orow_lit0 (d := kBlk) (S := S) w 53)
  go_wp2_with (at_builtin; with_reducible refine wp_cat 29 rfl rfl (.tmp 27) (.tmp 28) 46 rfl Try.underlying46 infoBlk ?_ (S := S) ?_ Hlit.out (S2 := S) (ys := l) ?_ Horow.out ?_ (fun y hy cs => kBlk_one) ?_ ?_ ?_ ?_)
  case refine_1 => rfl
  case refine_2 => rfl
  case refine_3 => rfl
  case refine_4 => exact Nat.lt_of_le_of_lt (Nat.zero_le f) hf
  case refine_5 => have := HL.out; omega
  case refine_6 => have := HL.out; unfold maxLen; omega
  case refine_7 => exact fun k hk => ⟨by have := HS.out k hk; simp; omega, fun e => by have := HS.out k hk; injection e with e; simp at e; omega⟩
  case refine_8 =>
  intro v3 w3 hr3 g3 o3
  obtain ⟨Ao, co, rfl, hc3, hc3m⟩ := hr3.shape
  rw [← HL.out] at hr3 hc3 ⊢
  have hb3 : Below w.heap.size w w3 := (Ch.of_grown g3).below (balloc w _) (by simp) fun k hk => by injection hk with hk; simp at hk; omega
  obtain ⟨zo, rfl, hzo⟩ : ∃ zo, Ao = some ⟨zo, 0, none⟩ ∧ w.heap.size ≤ zo := by
    obtain ⟨zo, rfl⟩ := hr3.addr (Nat.lt_of_le_of_lt (Nat.zero_le f) hf)
    refine ⟨zo, rfl, ?_⟩
    rcases o3 with h | h
    · have h' : some zo = some w.heap.size := h
      injection h' with h'; omega
    · have h' : some zo = some (w.alloc (.cells #[] 53)).heap.size := h
      injection h' with h'; rw [h']; simp
  have Hr3 := hide hr3
  have Hb3 := hide hb3
  have c3 : w3.cell? ⟨b0, off + f * 2 + 1, none⟩ = some (.slice Bx ln c) := (hb3.cell Hb0.out).trans hcy
  have c3' := fun o : Obj => ((balloc w3 o).cell (World.block_lt_of_cell? _ _ c3)).trans c3
  have c4 := c3' (.cells #[.slice Bx ln c] 22)
  have Hc3 := hide c3
  clear c3' hr3 g3 o3 hb3 hcy hF Hlit Horow hfit
  go_wp2_with fail
  obtain ⟨Ax, cx, hga, hbc, hbm, hbr, hTg⟩ := lit_part HT.out
  rw [← Hyes.out, ← Hlx.out] at hga
  have hsrc := hide (src_one (((balloc w3 (.cells #[.slice Bx ln c] 22)).cell (Nat.lt_of_lt_of_le (HTl.out g hTg) Hb3.out.size)).trans ((Hb3.out.cell (HTl.out g hTg)).trans hga)))
  have Hsum := hide (bput_sum (w3 := w3) (c := c) (cx := cx) (Hrd.out.keep (w' := w3) fun k hk => Hb3.out.block k (hk.elim (HS.out k) fun hk => by injection hk with hk; subst hk; exact Hb0.out)) Hlx.out h2 h3 Hyes.out (hbr.keep (w' := w3) fun k hk => Hb3.out.block k (HTl.out k hk)) hbc hbm (fun k hk => Nat.lt_of_lt_of_le (hk.elim (HS.out k) fun hk => by injection hk with hk; subst hk; exact Hb0.out) Hb3.out.size) (fun k hk => Nat.lt_of_lt_of_le (HTl.out k hk) Hb3.out.size) hbl)
  clear hga hbr
  go_region_law (first
    | (refine step_app5 rfl 46 rfl (.tmp 44) (.tmp 45) 23 rfl Try.underlying23 infoSB rfl (us := [.slice Bx ln c]) (by rfl) (Row.lit (w := w3) [.slice Bx ln c] (by simp [maxLen])) (A := some ⟨g, 0, none⟩) (c := 1) (news := [.slice Ax ln cx]) (by rfl) hsrc.out (fun u hu => by simp at hu; subst hu; rfl) (by simp) (by simp [maxLen]) ?_
       intro v5 w5 hr5 g5 _
       obtain ⟨A5, c5, rfl, hb5, hs5⟩ := Hsum.out v5 w5 hr5 g5
       have Hs5 := hide hs5
       have Hb5 := hide hb5
       have c5' := (hb5.cell (World.block_lt_of_cell? _ _ Hc3.out)).trans Hc3.out
       clear hr5 g5 hs5 hb5)
    | (go_simp
       refine Hs5.out.mono ?_
       rintro e w6 ⟨z, rfl, hz1, hz2, hz3, hz4⟩
       have Hz1 := hide hz1
       have Hz2 := hide hz2
       have Hz3 := hide hz3
       have Hz4 := hide hz4
       have Hset := orow_set2 (Hr3.out.keep (w' := w6) fun k hk => hz4.block k (hk.elim (fun hk => Nat.lt_of_lt_of_le (HS.out k hk) Hb3.out.size) fun hk => Hr3.out.lt hk)) hf (.int .i64 n)
       obtain ⟨⟨o1, d1⟩, d2, ⟨o2, d3⟩, d4, d5⟩ := Hset
       have D5 := hide d5
       clear hz1 hz2 hz3 hz4 d5))
  all_goals
    go_wp2_with fail
    have hzl := Hr3.out.lt (k := zo) rfl
    have hz3 := Hz3.out
    have hsz := Hb3.out.size
    have hxl := hide (show (xorL x b).length = ln by rw [xorL_len x b Hyes.out.symm, Hlx.out])
    have hz2 := Hz2.out
    refine hR.out _ _ ⟨_, z, rfl, ⟨by omega, by simpa using hz2⟩, ?_, (fun k hk => ?_), ?_⟩
    · have hfin := D5.out (.slice (some ⟨z, 0, none⟩) ln ln) (n, xorL x b) (fun k => S k ∨ k = z) (fun k hk => .inl hk) (fun k hk => by
        rcases hk with hk | rfl
        · have := HS.out k hk; omega
        · omega) ⟨[.int .i64 n], _, rfl, ⟨_, rfl, rfl, hnw⟩, some ⟨z, 0, none⟩, ln, by rw [hxl.out], by rw [hxl.out]; exact Nat.le_refl _, by have := Hlx.out; have := Hyes.out; unfold maxLen; omega, Hz1.out.rd.mono fun k hk => .inr hk⟩
      exact hfin
    · have hk' : some zo = some k := hk
      injection hk' with hk'; omega
    · exact ((Hb3.out.trans (Hz4.out.mono hsz)).setCell (by show w.heap.size ≤ zo; omega) _).setCell (by show w.heap.size ≤ zo; omega) _
end Go.Proofs.Ythcbjhmckbfkmaa
