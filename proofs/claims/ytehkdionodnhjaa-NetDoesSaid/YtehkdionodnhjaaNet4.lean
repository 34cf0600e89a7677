/- What a net does: a frame is held; all that are held come. -/
import Derived.Test.YtehkdionodnhjaaNet3
set_option linter.unusedVariables false
set_option linter.unusedSimpArgs false
namespace Go.Proofs.Ytehkdionodnhjaa
open Go.RowKit

theorem set1c {w : World} {g : Nat} {a : Value} {t : TypeId} (h : w.heap[g]? = some (.cells #[a] t (0, 0))) (v : Value) : (w.setCell ⟨g, 0, none⟩ v).heap[g]? = some (.cells #[v] t (0, 0)) := by
  have := set_blk h 0 v; simpa using this
theorem cell1c {w : World} {g : Nat} {a : Value} {t : TypeId} (h : w.heap[g]? = some (.cells #[a] t (0, 0))) : w.cell? ⟨g, 0, none⟩ = some a ∧ w.frozen? ⟨g, 0, none⟩ = false :=
  ⟨by rw [cell_of_row w g 0 _ _ (0, 0) h]; rfl, by simp [World.frozen?, h]⟩
section
variable {w w1 w' : World} {S S0 : Nat → Prop} {g : Nat} {hs xs : List (List UInt8)} {r v v' : Value} {us : List Value}
/-- A frame is held. -/
theorem hold_end {W w2 w3 : World} {A2 : Option Addr} {c2 : Nat} {fr : List UInt8} (h : NA w S S0 g v us hs) (hW : Below w.heap.size w W) (h2 : Kd.ow.R (newB W w2) w2 fr [.slice A2 fr.length c2]) (hb2 : Below W.heap.size W w2)
    (h3 : Row w3 57 v' (us ++ [.slice A2 fr.length c2])) (g3 : (w2.alloc (.cells #[.slice A2 fr.length c2] 57)).grownBy w3 v.ownBlock) (o3 : v'.ownBlock = v.ownBlock ∨ v'.ownBlock = some (w2.alloc (.cells #[.slice A2 fr.length c2] 57)).heap.size) :
    ∃ S', Came w (w3.setCell ⟨g, 0, none⟩ v') S S' (fun _ => False) g (hs ++ [fr]) (.slice none 0 0) [] [] := by
  have s1 := hW.size
  have s2 := hb2.size
  have s3 := g3.size
  have e3 : (w2.alloc (.cells #[.slice A2 fr.length c2] 57)).heap.size = w2.heap.size + 1 := by simp
  have gl := h.lt g h.sg
  have vg : v.ownBlock ≠ some g := fun e => (h.sv g e).2 rfl
  have hB2 := below_trN hW s1 hb2
  have k3 : ∀ k, k < w2.heap.size → v.ownBlock ≠ some k → w3.heap[k]? = w2.heap[k]? := fun k hk hv => (g3.block k (by omega) fun e => hv e.symm).trans ((balloc w2 _).block k hk)
  have hd3 : w3.heap[g]? = some (.cells #[v] 62 (0, 0)) := (k3 g (by omega) vg).trans ((hB2.block g gl).trans h.head)
  have ks : ∀ k, k ≠ g → (w3.setCell ⟨g, 0, none⟩ v').heap[k]? = w3.heap[k]? := fun k hk => Below.heap_setCell w3 ⟨g, 0, none⟩ v' k hk
  have ss : (w3.setCell ⟨g, 0, none⟩ v').heap.size = w3.heap.size := by simp [World.setCell]
  have vn : ∀ k, v'.ownBlock = some k → v.ownBlock = some k ∨ k = w2.heap.size + 1 := fun k hk => by
    rcases o3 with e | e
    · exact .inl (e ▸ hk)
    · rw [hk] at e; injection e with e; exact .inr (by omega)
  have hc3 : Ch S w w3 := by
    have c2 : Ch S w (w2.alloc (.cells #[.slice A2 fr.length c2] 57)) := Ch.of_below (hB2.alloc (by omega) _)
    exact c2.trans (Ch.of_grown g3) fun k hk => .inl (h.sv k hk).1
  have hC : Ch S w (w3.setCell ⟨g, 0, none⟩ v') := hc3.trans (Ch.set w3 ⟨g, 0, none⟩ v') fun k hk => .inl (hk ▸ h.sg)
  have hS0 : ∀ k, S0 k → (w3.setCell ⟨g, 0, none⟩ v').heap[k]? = w.heap[k]? := fun k hk => by
    obtain ⟨a1, a2, a3⟩ := h.s0 k hk
    have := h.lt k a1
    exact (ks k a2).trans ((k3 k (by omega) a3).trans (hB2.block k this))
  refine ⟨fun k => S k ∨ newB w (w3.setCell ⟨g, 0, none⟩ v') k, OR.nil, ⟨fun k => S0 k ∨ newB W w2 k, v', us ++ [.slice A2 fr.length c2], set1c hd3 v', ?_, .inl h.sg, ?_, ?_, ?_⟩, hC, fun k hk => hk.elim .inl fun hk => .inr hk.1, fun k hk => ?_⟩
  · refine OR.app h.row (w' := w3.setCell ⟨g, 0, none⟩ v') (fun k hk => hS0 k hk) (fun k hk => .inl hk) (h3.keep fun k hk => ks k fun e => ?_) rfl fun i u x hu hx => ?_
    · subst e
      rcases vn k hk with h1 | h1
      · exact vg h1
      · omega
    · cases i with
      | zero =>
        simp at hu hx; subst hu; subst hx
        exact Kd.ow.mono (fun k hk => .inr hk) (Kd.ow.keep (fun k hk => (ks k (by have := hk.1; omega)).trans (k3 k hk.2 fun e => by have := h.row.lt e; have := hk.1; omega)) h2)
      | succ i => simp at hu
  · intro k hk
    rcases hk with hk | hk
    · obtain ⟨a1, a2, a3⟩ := h.s0 k hk
      refine ⟨.inl a1, a2, fun e => ?_⟩
      rcases vn k e with h1 | h1
      · exact a3 h1
      · have := h.lt k a1; omega
    · refine ⟨.inr ⟨by have := hk.1; omega, by have := hk.2; rw [ss]; omega⟩, by have := hk.1; omega, fun e => ?_⟩
      rcases vn k e with h1 | h1
      · have := h.row.lt h1; have := hk.1; omega
      · have := hk.2; omega
  · intro k hk
    rcases vn k hk with h1 | h1
    · exact ⟨.inl (h.sv k h1).1, (h.sv k h1).2⟩
    · exact ⟨.inr ⟨by omega, by rw [ss]; have := h3.lt hk; exact this⟩, by omega⟩
  · intro k hk
    rcases hk with hk | hk
    · have := h.lt k hk; rw [ss]; omega
    · exact hk.2
  · rcases hk with hk | hk
    · exact hk.elim
    · cases hk
theorem alloc_cell1 {w2 : World} {t : TypeId} (h : w2.heap[g]? = some (.cells #[v] t (0, 0))) (o : Obj) : (w2.alloc o).cell? ⟨g, 0, none⟩ = some v := (cell1c (((balloc w2 o).block g (Array.getElem?_eq_some_iff.1 h).1).trans h)).1
theorem undrew {w2 : World} (h : Below w.drew.heap.size w.drew w2) : Below w.heap.size w w2 := ⟨h.os, h.tape, h.output, h.size, h.block⟩
theorem hold_head {w2 w3 : World} {t : TypeId} {o : Obj} (h2 : w2.heap[g]? = some (.cells #[v] t (0, 0))) (hv : v.ownBlock ≠ some g) (g3 : (w2.alloc o).grownBy w3 v.ownBlock) : w3.heap[g]? = some (.cells #[v] t (0, 0)) := by
  have hl : g < w2.heap.size := (Array.getElem?_eq_some_iff.1 h2).1
  exact (g3.block g (by simp; omega) fun e => hv e.symm).trans (((balloc w2 o).block g hl).trans h2)
theorem hold_row {W w2 : World} {A2 : Option Addr} {n c2 : Nat} (h : Row W 57 v us) (hb : Below W.heap.size W w2) : Row (w2.alloc (.cells #[.slice A2 n c2] 57)) 57 v us :=
  h.keep fun k hk => ((balloc w2 _).block k (Nat.lt_of_lt_of_le (h.lt hk) hb.size)).trans (hb.block k (h.lt hk))
theorem row1s {wb : World} {A : Option Addr} {c : Nat} {b : List UInt8} (h : Kd.ow.R (newB w wb) wb b [.slice A b.length c]) :
    OR Kd.ow (newB w wb) (wb.alloc (.cells #[.slice A b.length c] 57)) 57 (.slice (some ⟨wb.heap.size, 0, none⟩) 1 1) [.slice A b.length c] [b] := by
  refine OR.lit (us := [.slice A b.length c]) (xs := [b]) rfl (by unfold maxLen; simp) fun i u x hu hx => ?_
  cases i with
  | zero =>
    simp at hu hx; subst hu; subst hx
    exact Kd.ow.keep (fun k hk => (balloc wb _).block k hk.2) h
  | succ i => simp at hu
/-- All that were held came behind a frame. -/
theorem late_end {w2 w3 w4 w5 : World} {T : Nat → Prop} {fr : List UInt8} {u : Value} {r v5 : Value} {us : List Value} {q : Nat} (eq : q = w2.heap.size) (hg : g < w.heap.size) (h : NS w S g hs) (hB3 : Below w.heap.size w w3) (hs3 : w3.heap.size = q + 1) (hq : w.heap.size ≤ q)
    (hr4 : OR Kd.ow (newB w w2) w4 57 (.slice (some ⟨q, 0, none⟩) 1 1) [u] [fr]) (hc4 : Came w3 w4 S (fun k => k = g) T g [] r us hs.reverse) (hch4 : Ch (fun k => k = g) w3 w4)
    (hr5 : Row w5 57 v5 ([u] ++ us)) (g5 : w4.grownBy w5 (Value.slice (some ⟨q, 0, none⟩) 1 1).ownBlock) (o5 : v5.ownBlock = (Value.slice (some ⟨q, 0, none⟩) 1 1).ownBlock ∨ v5.ownBlock = some w4.heap.size) :
    Came w w5 S (fun k => k = g) (fun k => newB w w2 k ∨ T k) g [] v5 ([u] ++ us) (fr :: hs.reverse) := by
  have hSg : S g := by
    obtain ⟨_, _, _, hn⟩ := h
    exact hn.sg
  have s3 := hB3.size
  have s4 := hch4.size
  have s5 := g5.size
  have c5 : Ch (fun k => k = q) w4 w5 := (Ch.of_grown g5).mono fun k _ e => own_lit e
  have hlt := h.lt
  have k5 : ∀ k, k < w4.heap.size → k ≠ q → w5.heap[k]? = w4.heap[k]? := fun k hk hn => c5.block k hk hn
  have hTq : ∀ k, T k → k ≠ q ∧ k < w4.heap.size := fun k hk => by
    obtain ⟨-, h2, h3⟩ := hc4.out k (.inl hk)
    refine ⟨?_, h3⟩
    rcases h2 with h2 | h2
    · have := hlt k h2; omega
    · omega
  refine ⟨?_, hc4.ns.keep c5 fun k hk hk' => by omega, ?_, fun k hk => .inl (hk ▸ hSg), fun k hk => ?_⟩
  · exact OR.app (xs' := hs.reverse) (us' := us) (S' := fun k => newB w w2 k ∨ T k) (w' := w5) (v' := v5) hr4 (fun k hk => k5 k (by have := hk.2; omega) (by have := hk.2; omega)) (fun k hk => .inl hk) hr5 hc4.row.len fun i u' x hu hx =>
      Kd.ow.mono (fun k hk => .inr hk) (Kd.ow.keep (fun k hk => k5 k (hTq k hk).2 (hTq k hk).1) (hc4.row.el i u' x hu hx))
  · exact ((Ch.of_below (S := S) hB3).trans (hch4.mono fun k _ hk => hk ▸ hSg) fun k hk => .inl hk).trans c5 fun k hk => .inr (by omega)
  · rcases hk with (hk | hk) | hk
    · exact ⟨by have := hk.1; omega, .inr hk.1, by have := hk.2; omega⟩
    · obtain ⟨h1, h2, h3⟩ := hc4.out k (.inl hk)
      exact ⟨h1, h2.elim .inl fun h2 => .inr (by omega), by omega⟩
    · refine ⟨?_, ?_, hr5.lt hk⟩
      all_goals
        rcases o5 with e | e
        · have := own_lit (e ▸ hk); first | omega | exact .inr (by omega)
        · rw [hk] at e; injection e with e; first | omega | exact .inr (by omega)
set_option maxHeartbeats 1000000 in
theorem do3 (pt : Int) (m : UInt32) (B : Option Addr) (bs : List UInt8) (d : Nat) (A : Option Addr) (fr : List UInt8) (c : Nat) (SF : Nat → Prop) (w : World) (h : NS w S g hs) (hl : fr.length ≤ 1000) (hhl : hs.length ≤ 1000) (hp : (Lit.int .i64 pt).wf = true) (hd : bs.length ≤ d) (hdm : d ≤ maxLen) (hc : fr.length ≤ c) (hcm : c ≤ maxLen) (hSF : ∀ k, SF k → k < w.heap.size) (hf : RdL Kd.byte SF w A fr) (hB : RdL Kd.byte SF w B bs) :
    Calls Try.prog 29 #[.pointer (some ⟨g, 0, none⟩), opV 3 pt m B bs.length d, .slice A fr.length c] w (DoPost w S g (hs ++ [fr]) []) := by
  refine cps fun R hR => ?_
  have hb1 := hide (balloc w (opO 3 pt m B bs.length d))
  have hrf := hide (hf.keep (w' := w.alloc (opO 3 pt m B bs.length d)) fun k hk => hb1.out.block k (hSF k hk))
  have hsf := hide (show ∀ k, SF k → k < (w.alloc (opO 3 pt m B bs.length d)).heap.size from fun k hk => by have := hSF k hk; simp; omega)
  have Hns := hide h
  clear h hf hSF
  obtain ⟨W, hW⟩ : ∃ W, W = w.alloc (opO 3 pt m B bs.length d) := ⟨_, rfl⟩
  have HW := hide hW
  rw [← hW] at hb1 hrf hsf
  clear hW
  obtain ⟨S0, v, us, hn⟩ := Hns.out
  have hnW : NA W S S0 g v us hs := hn.keep (Ch.of_below (S := fun _ => False) hb1.out) fun _ _ h => h
  obtain ⟨Ah, ch, rfl, -, -⟩ := hnW.row.shape
  have Hn := hide hn
  have Hr := hide hnW.row.row
  have Hul := hide hnW.row.len
  have HgW := hide (show g < W.heap.size ∧ (Value.slice Ah hs.length ch).ownBlock ≠ some g from ⟨hnW.lt g hnW.sg, fun e => (hnW.sv g e).2 rfl⟩)
  have HhW := hide hnW.head
  obtain ⟨c0, f0⟩ := hnW.cells
  have hcl := hide (clone_calls A fr c SF W.drew (by omega) hsf.out (hrf.out.keep fun _ _ => rfl))
  clear hn hnW Hns
  go_enter Try.func29, Try.ntmps29
  go_upto_region 7 with fail
  rw [← HW.out]
  clear HW
  go_region_law (first
    | ((with_reducible refine step_app rfl 28 rfl (.tmp 24) (.tmp 27) 60 rfl Try.underlying60 infoSB ?_ (us := us) ?_ Hr2.out (A := some ⟨w2.heap.size, 0, none⟩) (c := 1) (news := [.slice A2 fr.length c2]) ?_ (Src.lit1 _ _ _) ?_ ?_ ?_ ?_); (focus (next => rfl)); (focus (next => rfl)); (focus (next => rfl)); (focus (next => intro u hu; simp at hu; subst hu; rfl)); (focus (next => rw [Hul.out, List.length_singleton]; omega)); (focus (next => rw [Hul.out, List.length_singleton]; unfold maxLen; omega)); intro v' w3 hr3 g3 o3; obtain ⟨A3, c3, rfl, -, -⟩ := hr3.shape; have hd3 := hold_head Hh2.out HgW.out.2 g3; have c03 := (cell1c hd3).1; have f03 := (cell1c hd3).2; have Hr3 := hide hr3; have G3 := hide g3; have O3 := hide o3; clear hr3 g3 o3 hd3)
    | (go_simp; refine hcl.out.mono ?_; rintro _ w2 ⟨A2, c2, rfl, hk2, hb2'⟩; have hb2 := undrew hb2'; have hh2 := (hb2.block g HgW.out.1).trans HhW.out; have c02 := (cell1c hh2).1; have f02 := (cell1c hh2).2; have c02a := alloc_cell1 hh2 (.cells #[.slice A2 fr.length c2] 57); have Hh2 := hide hh2; have Hk2 := hide hk2; have Hb2 := hide hb2; have Hr2 := hide (hold_row Hr.out hb2 (A2 := A2) (n := fr.length) (c2 := c2)); clear hk2 hb2 hh2 hb2'))
  all_goals
    rw [List.length_append, List.length_singleton] at Hr3 O3
    go_wp2_with fail
    obtain ⟨S', hcame⟩ := hold_end Hn.out hb1.out Hk2.out Hb2.out Hr3.out G3.out O3.out
    exact hR.out _ _ ⟨none, 0, [], S', _, rfl, hcame⟩
set_option maxHeartbeats 1000000 in
theorem do4 (pt : Int) (m : UInt32) (B : Option Addr) (bs : List UInt8) (d : Nat) (A : Option Addr) (fr : List UInt8) (c : Nat) (SF : Nat → Prop) (w : World) (h : NS w S g hs) (hl : fr.length ≤ 1000) (hhl : hs.length ≤ 1000) (hp : (Lit.int .i64 pt).wf = true) (hd : bs.length ≤ d) (hdm : d ≤ maxLen) (hc : fr.length ≤ c) (hcm : c ≤ maxLen) (hSF : ∀ k, SF k → k < w.heap.size) (hf : RdL Kd.byte SF w A fr) (hB : RdL Kd.byte SF w B bs) :
    Calls Try.prog 29 #[.pointer (some ⟨g, 0, none⟩), opV 4 pt m B bs.length d, .slice A fr.length c] w (DoPost w S g [] (fr :: hs.reverse)) := by
  refine cps fun R hR => ?_
  have hb1 := hide (balloc w (opO 4 pt m B bs.length d))
  have hrf := hide (hf.keep (w' := w.alloc (opO 4 pt m B bs.length d)) fun k hk => hb1.out.block k (hSF k hk))
  have hsf := hide (show ∀ k, SF k → k < (w.alloc (opO 4 pt m B bs.length d)).heap.size from fun k hk => by have := hSF k hk; simp; omega)
  have Hns := hide h
  clear h hf hSF
  obtain ⟨W, hW⟩ : ∃ W, W = w.alloc (opO 4 pt m B bs.length d) := ⟨_, rfl⟩
  have HW := hide hW
  rw [← hW] at hb1 hrf hsf
  clear hW
  have hcl := hide (clone_calls A fr c SF W (by omega) hsf.out hrf.out)
  have hgl := hide Hns.out
  go_enter Try.func29, Try.ntmps29
  go_upto_region 10 with fail
  rw [← HW.out]
  clear HW
  go_wp2_with fail
  refine hcl.out.mono ?_
  rintro _ w2 ⟨A2, c2, rfl, hk2, hb2⟩
  obtain ⟨w3, hw3⟩ : ∃ w3, w3 = w2.alloc (.cells #[.slice A2 fr.length c2] 57) := ⟨_, rfl⟩
  have hB2 := below_trN hb1.out hb1.out.size hb2
  have hB3 : Below w.heap.size w w3 := by rw [hw3]; exact hB2.alloc hB2.size _
  have hrow := row1s (w := w) (wb := w2) (ow_from hb1.out.size hk2)
  rw [← hw3] at hrow
  have hfl := hide (flush_calls (Hns.out.below hB3) (by omega))
  have HB3 := hide hB3
  have Hrow := hide hrow
  have HW3 := hide hw3
  have Hs3 := hide (show w3.heap.size = w2.heap.size + 1 by rw [hw3]; simp)
  have Hs2 := hide hB2.size
  clear hk2 hb2 hw3 hB2 hB3 hrow hcl hgl
  go_wp2_with fail
  rw [← HW3.out]
  clear HW3
  refine hfl.out.mono ?_
  rintro _ w4 ⟨r, us, T, rfl, hcm4, hch4, ho4⟩
  obtain ⟨Ar, cr, rfl, -, -⟩ := hcm4.row.shape
  have hul := hcm4.row.len
  rw [List.length_reverse] at hcm4 ho4 hul ⊢
  have hgS : g < w.heap.size := by
    obtain ⟨_, _, _, hn⟩ := Hns.out
    exact hn.lt g hn.sg
  have hr4 := Hrow.out.keep (w' := w4) fun k hk => hch4.block k (by
    rcases hk with hk | hk
    · have := hk.2; have := Hs3.out; omega
    · exact Hrow.out.lt hk) (fun e => by
    rcases hk with hk | hk
    · have := hk.1; omega
    · have e2 := own_lit hk; have := Hs2.out; omega)
  have s4 := hide hcm4.row.row.src
  have one4 := hide (show ∀ u ∈ us, u.oneCell' = true from fun u hu => by
    obtain ⟨i, hi, rfl⟩ := List.mem_iff_getElem.1 hu
    have hi' : i < hs.reverse.length := by rw [List.length_reverse]; omega
    obtain ⟨A1, c1, e1, -⟩ := hcm4.row.el i us[i] hs.reverse[i] (List.getElem?_eq_getElem hi) (List.getElem?_eq_getElem hi')
    injection e1 with e1
    rw [e1]; rfl)
  have R4 := hide hr4.row
  have HR4 := hide hr4
  have HC4 := hide hcm4
  have Hch4 := hide hch4
  have Ho4 := hide ho4
  have Hul := hide hul
  clear hr4 hcm4 hch4 ho4 hul hfl
  go_wp2_with (at_builtin; with_reducible refine wp_app 38 rfl rfl (.tmp 35) (.tmp 37) 60 rfl Try.underlying60 infoSB ?_ (us := [.slice A2 fr.length c2]) ?_ R4.out (A := Ar) (c := cr) (news := us) ?_ s4.out one4.out ?_ ?_ ?_)
  case refine_1 => rfl
  case refine_2 => rfl
  case refine_3 => rw [Hul.out]; rfl
  case refine_4 => rw [Hul.out, List.length_singleton]; omega
  case refine_5 => rw [Hul.out, List.length_singleton]; unfold maxLen; omega
  case refine_6 =>
  intro v' w5 hr5 g5 o5
  obtain ⟨A5, c5, rfl, -, -⟩ := hr5.shape
  have el : ([Value.slice A2 fr.length c2] ++ us).length = (fr :: hs.reverse).length := by rw [List.length_append, List.length_singleton, Hul.out, List.length_cons, List.length_reverse]; omega
  rw [el] at hr5 o5 ⊢
  have Hr5 := hide hr5
  have G5 := hide g5
  have O5 := hide o5
  clear hr5 g5 o5 el
  go_wp2_with fail
  refine hR.out _ _ ⟨A5, c5, _, (fun k => k = g), (fun k => newB w w2 k ∨ T k), by rw [List.length_cons, List.length_reverse]; rfl, late_end rfl hgS Hns.out HB3.out Hs3.out Hs2.out HR4.out HC4.out Hch4.out Hr5.out G5.out O5.out⟩
end
end Go.Proofs.Ytehkdionodnhjaa
