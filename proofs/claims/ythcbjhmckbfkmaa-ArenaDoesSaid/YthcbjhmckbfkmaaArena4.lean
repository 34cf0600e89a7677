/- A block given out: one that came back. -/
import Derived.Test.YthcbjhmckbfkmaaArena3
import Derived.StillTailTactics
import Derived.Lib.SliceRun
import Derived.Deep.Cut
import Derived.Deep.CutRange
import Derived.Test.YthcbjhmckbfkmaaZeros
set_option linter.unusedVariables false
set_option linter.unusedSimpArgs false
namespace Go.Proofs.Ythcbjhmckbfkmaa
open Go.RowKit

/-- The last of a row goes. -/
theorem Row.pop {w : World} {e : TypeId} {g c : Nat} {us : List Value} {u : Value} (h : Row w e (.slice (some ⟨g, 0, none⟩) (us.length + 1) c) (us ++ [u])) : Row w e (.slice (some ⟨g, 0, none⟩) us.length c) us := by
  rcases h.2 with ⟨h1, _⟩ | ⟨g', cap, cur, e1, hg, hh, h1, h2, h3, h4⟩
  · cases h1
  · injection e1 with e1 e2 e3
    injection e1 with e1
    injection e1 with e1
    subst e1
    subst e3
    simp only [List.length_append, List.length_cons, List.length_nil] at h1 h4
    refine ⟨(Nat.mul_one _).symm, .inr ⟨g, c, cur, rfl, hg, hh, by omega, h2, h3, ?_⟩⟩
    have := congrArg (List.take us.length) h4
    rw [List.take_take, Nat.min_eq_left (by omega)] at this
    rw [Nat.mul_one, this]; simp
theorem run_maxi (P : Program) (w : World) (ts : Array TypeId) (t : TypeId) (a b : Int) : (Builtin.max_ ts t #[.int .i64 a, .int .i64 b]).run P w = .ok (.int .i64 (max a b)) w := by
  simp [Builtin.max_, Builtin.max2]
  omega
section
variable {w : World} {g n room : Nat} {bl : List (List UInt8)} {us : List Bool} {fr : List Nat} {live peak : Nat} {vb vu vf : Value} {qs : List Nat}
theorem heads2 {w : World} {g : Nat} {t : TypeId} {v0 v1 v2 v3 v4 v5 v6 : Value} (h : w.heap[g]? = some (.cells #[v0, v1, v2, v3, v4, v5, v6] t (0, 0))) (a b : Value) (d : Nat) :
    (({ (w.setCell ⟨g, 5, none⟩ a) with drawn := d } : World).setCell ⟨g, 6, none⟩ b).heap[g]? = some (.cells #[v0, v1, v2, v3, v4, a, b] t (0, 0)) := by
  have h1 := cset h 5 a
  have h2 : ({ (w.setCell ⟨g, 5, none⟩ a) with drawn := d } : World).heap[g]? = some (.cells (#[v0, v1, v2, v3, v4, v5, v6].setIfInBounds 5 a) t (0, 0)) := h1
  have := cset h2 6 b
  simpa using this
/-- One more is given out: the numbers in the head. -/
theorem Ar.more (h : Ar w g n room bl us fr live peak vb vu vf qs) (d : Nat) : Ar (({ (w.setCell ⟨g, 5, none⟩ (.int .i64 ((live : Int) + 1))) with drawn := d } : World).setCell ⟨g, 6, none⟩ (.int .i64 (max (peak : Int) ((live : Int) + 1)))) g n room bl us fr (live + 1) (max peak (live + 1)) vb vu vf qs ∧
    Ch (fun b => b = g) w (({ (w.setCell ⟨g, 5, none⟩ (.int .i64 ((live : Int) + 1))) with drawn := d } : World).setCell ⟨g, 6, none⟩ (.int .i64 (max (peak : Int) ((live : Int) + 1)))) := by
  have hk : ∀ k, k ≠ g → (({ (w.setCell ⟨g, 5, none⟩ (.int .i64 ((live : Int) + 1))) with drawn := d } : World).setCell ⟨g, 6, none⟩ (.int .i64 (max (peak : Int) ((live : Int) + 1)))).heap[k]? = w.heap[k]? := fun k hk =>
    (Below.heap_setCell _ ⟨g, 6, none⟩ _ k hk).trans (Below.heap_setCell w ⟨g, 5, none⟩ _ k hk)
  refine ⟨h.refr ?_ (fun k _ hg _ => hk k hg) (h.rf.keep fun k hk' => hk k fun e => h.of k hk' (e ▸ List.mem_cons_self ..)) (fun k hk => .inl hk), ⟨rfl, rfl, rfl, by simp [World.setCell], fun k _ hn => hk k hn⟩⟩
  rw [heads2 h.head]
  rw [show max (peak : Int) ((live : Int) + 1) = ((max peak (live + 1) : Nat) : Int) by omega]; rfl
/-- A block's bytes are cleared. -/
theorem Ar.clear (h : Ar w g n room bl us fr live peak vb vu vf qs) {i q : Nat} (hq : qs[i]? = some q) (hi : i < bl.length) :
    ∃ w', (∀ ty, (Builtin.clear_ #[22] ty #[.slice (some ⟨q, 0, none⟩) n n]).run Try.prog w = .ok (.tuple #[]) w') ∧ Ar w' g n room (bl.set i (zs n)) us fr live peak vb vu vf qs ∧ Ch (fun b => b = q) w w' := by
  obtain ⟨h1, h2⟩ := h.bk i q bl[i] hq (List.getElem?_eq_getElem hi)
  have hz : (zs n).length = n := by simp [zs]
  rcases Nat.eq_zero_or_pos n with h0 | h0
  · subst h0
    refine ⟨w, fun ty => by simp [Builtin.clear_, run_underlying Try.underlying22], ?_, Ch.refl w⟩
    refine h.block_set hq hz (fun _ _ _ => rfl) ?_
    rw [h2, List.eq_nil_of_length_eq_zero h1]; rfl
  · obtain ⟨cur, c1, c2, c3⟩ := setCells_row (e := 5) (List.replicate n (Value.int .u8 0)) 0 w _ h2 (by simp [h1])
    obtain ⟨s1, s2, s3, s4⟩ := setCells_same q (List.replicate n (Value.int .u8 0)) 0 w
    refine ⟨w.setCells q 0 (List.replicate n (.int .u8 0)), fun ty => Go.Lib.run_clear_slice w 22 5 ty (.int .u8 0) Try.underlying22 (fun w => by kernel_rfl) rfl rfl q 0 n n h0 (fun j hj => ?_) (fun j hj => ?_), ?_, ?_⟩
    · rw [Nat.zero_add, cell_of_row w q j _ _ (0, 0) h2]
      simp [h1, hj]
    · simp [World.frozen?, h2]
    · refine h.block_set hq hz (fun k _ hk => setCells_far _ 0 k hk) ?_
      rw [c1]
      congr 2
      apply Array.ext'
      rw [c3]
      simp [zs, encB, h1]
    · exact ⟨s1, s2, s3, by rw [s4]; exact Nat.le_refl _, fun k _ hn => setCells_far _ 0 k hn⟩
set_option maxRecDepth 100000 in
set_option maxHeartbeats 1000000 in
theorem alloc_old (i : Nat) (h : Ar w g n room bl us (fr ++ [i]) live peak vb vu vf qs) (hl : i < bl.length) (hfl : fr.length ≤ 1000000) (hlv : live ≤ 1000000) (hpk : peak ≤ 1000000) :
    Calls Try.prog 23 #[.pointer (some ⟨g, 0, none⟩)] w fun e w' => e = .returned (.tuple #[.int .i64 (i : Int), .bool true]) ∧
      ∃ vf', Ar w' g n room (bl.set i (zs n)) (us.set i true) fr (live + 1) (max peak (live + 1)) vb vu vf' qs ∧ Ch (Ar.own g vb vu vf qs) w w' ∧ vf'.ownBlock = vf.ownBlock := by
  refine cps fun R hR => ?_
  have e1 : ((fr ++ [i]).map fun i : Nat => Value.int .i64 ((i : Nat) : Int)).length = fr.length + 1 := by simp
  obtain ⟨gf, cf, hvf, hcf, -, hlf, -⟩ := h.rf.set (i := fr.length) (by simp) (.bool true)
  rw [e1] at hvf
  subst hvf
  have hcf' : w.cell? ⟨gf, fr.length, none⟩ = some (.int .i64 (i : Int)) := by rw [hcf]; simp
  clear hcf
  obtain ⟨A', c', es, hcap, -⟩ := h.rf.shape
  rw [e1] at es hcap
  obtain rfl : cf = c' := by injection es
  clear es
  obtain ⟨W1, hW1⟩ : ∃ W1, W1 = w.setCell ⟨g, 4, none⟩ (.slice (some ⟨gf, 0, none⟩) fr.length cf) := ⟨_, rfl⟩
  have ch1 : Ch (fun b => b = g) w W1 := by rw [hW1]; exact Ch.set w ⟨g, 4, none⟩ _
  have hgf : gf ≠ g := fun e => h.of gf rfl (e ▸ List.mem_cons_self ..)
  have h1 : Ar W1 g n room bl us fr live peak vb vu (.slice (some ⟨gf, 0, none⟩) fr.length cf) qs := h.refr (by
      rw [hW1]
      have := cset h.head 4 (.slice (some ⟨gf, 0, none⟩) fr.length cf)
      simpa using this) (fun k hk hg _ => ch1.block k hk hg) (by
      have hr := h.rf
      rw [List.map_append] at hr
      have := Row.pop (us := fr.map fun i : Nat => Value.int .i64 ((i : Nat) : Int)) (by rw [List.length_map]; exact hr)
      rw [List.length_map] at this
      exact this.keep fun k hk => ch1.block k (by have := h.rf.lt (k := k) hk; exact this) (by simp [Value.ownBlock] at hk; omega)) (fun k hk => .inl hk)
  obtain ⟨q, qb, cb, rfl, hcb, hcell, hq, -, -⟩ := h1.block hl
  obtain ⟨W2, hclr, h2, ch2⟩ := h1.clear hq hl
  have hul : i < us.length := by rw [h.ul]; exact hl
  obtain ⟨qu, cu, rfl, hcu0, hfu, h3⟩ := h2.used hul true
  obtain ⟨ub, hcu⟩ : ∃ ub : Bool, W2.cell? ⟨qu, i, none⟩ = some (.bool ub) := ⟨_, hcu0⟩
  clear hcu0
  obtain ⟨W3, hW3⟩ : ∃ W3, W3 = W2.setCell ⟨qu, i, none⟩ (.bool true) := ⟨_, rfl⟩
  rw [← hW3] at h3
  have ch3 : Ch (fun b => b = qu) W2 W3 := by rw [hW3]; exact Ch.set W2 ⟨qu, i, none⟩ _
  obtain ⟨h5, ch5⟩ := h3.more (W3.drawn + 1)
  obtain ⟨W4, hW4⟩ : ∃ W4, W4 = W3.setCell ⟨g, 5, none⟩ (.int .i64 ((live : Int) + 1)) := ⟨_, rfl⟩
  have hd4 : W4.drawn = W3.drawn := by rw [hW4]; rfl
  rw [← hW4, ← hd4] at h5 ch5
  obtain ⟨W5, hW5⟩ : ∃ W5, W5 = ({ W4 with drawn := W4.drawn + 1 } : World).setCell ⟨g, 6, none⟩ (.int .i64 (max (peak : Int) ((live : Int) + 1))) := ⟨_, rfl⟩
  rw [← hW5] at h5 ch5
  obtain ⟨-, -, c2, -, c4, -, -⟩ := cells7 h.head
  obtain ⟨-, -, d2, -, -, -, -⟩ := cells7 h1.head
  obtain ⟨-, -, -, e3, -, -, -⟩ := cells7 h2.head
  obtain ⟨-, -, -, -, -, k5, k6⟩ := cells7 h3.head
  have f4 : w.frozen? ⟨g, 4, none⟩ = false := by simp [World.frozen?, h.head]
  have f5 : W3.frozen? ⟨g, 5, none⟩ = false := by simp [World.frozen?, h3.head]
  have hh4 := cset h3.head 5 (.int .i64 ((live : Int) + 1))
  rw [← hW4] at hh4
  have m5 : W4.cell? ⟨g, 5, none⟩ = some (.int .i64 ((live : Int) + 1)) := by rw [cell_of_row W4 g _ _ _ (0, 0) hh4]; simp
  have m6 : W4.cell? ⟨g, 6, none⟩ = some (.int .i64 (peak : Int)) := by rw [cell_of_row W4 g _ _ _ (0, 0) hh4]; simp
  have f6 : W4.frozen? ⟨g, 6, none⟩ = false := by simp [World.frozen?, hh4]
  have Hch := hide (show Ch (Ar.own g (.slice (some ⟨qb, 0, none⟩) bl.length cb) (.slice (some ⟨qu, 0, none⟩) us.length cu) (.slice (some ⟨gf, 0, none⟩) (fr.length + 1) cf) qs) w W5 from
    ((((ch1.mono fun b _ e => .inl (by rw [e]; exact List.mem_cons_self ..)).trans ch2 (S := Ar.own g (.slice (some ⟨qb, 0, none⟩) bl.length cb) (.slice (some ⟨qu, 0, none⟩) us.length cu) (.slice (some ⟨gf, 0, none⟩) (fr.length + 1) cf) qs) fun b e => .inl (.inl (by rw [e]; exact List.mem_cons_of_mem _ (List.mem_of_getElem? hq)))).trans ch3 fun b e => .inl (.inr (.inr (.inl (by rw [e]; rfl))))).trans ch5 fun b e => .inl (.inl (by rw [e]; exact List.mem_cons_self ..))))
  have H5 := hide h5
  have HW1 := hide hW1
  have HW3 := hide hW3
  have HW4 := hide hW4
  have HW5 := hide hW5
  have Hclr := hide hclr
  clear h h1 h2 h3 h5 hW1 hW3 hW4 hW5 hclr ch1 ch2 ch3 ch5 hq hd4 hh4 e1
  have hub := hl
  generalize bl.length = m at *
  generalize us.length = mu at *
  have x0 : (0 : Int) < (fr.length : Int) + 1 := by omega
  go_enter Try.func23, Try.ntmps23
  go_upto_region 7 with fail
  rw [← HW1.out]
  clear c2 c4 hcf' f4
  have hclr := Hclr.out
  go_upto_region 8 with fail
  clear hclr hcell d2
  go_upto_region 11 with fail
  rw [← HW3.out]
  clear e3 hfu hcu
  go_wp2_with fail
  rw [← HW4.out]
  clear k5 k6 f5
  have hmx := fun w ts t => run_maxi Try.prog w ts t (peak : Int) ((live : Int) + 1)
  generalize hM : max (peak : Int) ((live : Int) + 1) = M at hmx HW5
  clear hM
  go_still_tail 12, (by kernel_rfl)
  go_wp2_with fail
  rw [show (W4.setCell ⟨g, 6, none⟩ (.int .i64 M)).drew = W5 from HW5.out.symm]
  exact hR.out _ _ ⟨rfl, _, H5.out, Hch.out, rfl⟩
end
end Go.Proofs.Ythcbjhmckbfkmaa
