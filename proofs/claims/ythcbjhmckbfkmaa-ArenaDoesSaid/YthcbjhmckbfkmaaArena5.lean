/- A block given out: a new one; no room. -/
import Derived.Test.YthcbjhmckbfkmaaArena4
import Derived.Test.YthcbjhmckbfkmaaHeld
import Derived.Test.YthcbjhmckbfkmaaOwn
set_option linter.unusedVariables false
set_option linter.unusedSimpArgs false
namespace Go.Proofs.Ythcbjhmckbfkmaa
open Go.RowKit

theorem infoSB : (Try.prog.info? 22).map (fun i => (i.zero, i.size, i.bytes)) = some (some (.slice none 0 0), 1, 24) := by kernel_rfl
theorem infoBo : (Try.prog.info? 4).map (fun i => (i.zero, i.size, i.bytes)) = some (some (.bool false), 1, 1) := by kernel_rfl
theorem named_alloc {X : World} {o : Obj} {C : World → Prop} (h : ∀ w', w'.heap[X.heap.size]? = some o → X.grownBy w' none → X.heap.size + 1 ≤ w'.heap.size → w'.heap.size ≤ X.heap.size + 1 → C w') : C (X.alloc o) :=
  h _ (heap_alloc_new X o) ⟨rfl, rfl, rfl, by simp, fun k hk _ => Below.heap_alloc X o k hk⟩ (by simp) (by simp)
theorem Src.new1 {w : World} {b : Nat} {u : Value} {t : TypeId} (h : w.heap[b]? = some (.cells #[u] t (0, 0))) : Src w (some ⟨b, 0, none⟩) [u] := fun _ => ⟨_, rfl, fun j v hv => by
  cases j with
  | zero =>
    simp at hv; subst hv
    exact (cell_of_row _ _ 0 _ t (0, 0) h).trans rfl
  | succ j => simp at hv⟩
theorem own_ne {v vb vu : Value} {B X : Nat} (h : v.ownBlock = vb.ownBlock ∨ v.ownBlock = some X) (hl : ∀ k, vb.ownBlock = some k → k < B) (hne : ∀ k, vb.ownBlock = some k → vu.ownBlock = some k → False) (k : Nat) (hk : v.ownBlock = some k) (hu : vu.ownBlock = some k) (hub : k < B) (hX : B ≤ X) : False := by
  rcases h with h | h
  · exact hne k (h ▸ hk) hu
  · rw [h] at hk; injection hk with hk; omega
theorem own_old {v vb : Value} {X : Nat} (h : v.ownBlock = vb.ownBlock ∨ v.ownBlock = some X) (k : Nat) (hk : v.ownBlock = some k) : vb.ownBlock = some k ∨ X ≤ k := by
  rcases h with h | h
  · exact .inl (h ▸ hk)
  · rw [h] at hk; injection hk with hk; exact .inr (by omega)
section
variable {w : World} {g n room : Nat} {bl : List (List UInt8)} {us : List Bool} {fr : List Nat} {live peak : Nat} {vb vu vf : Value} {qs : List Nat}
/-- One block more. -/
theorem Ar.fresh (h : Ar w g n room bl us fr live peak vb vu vf qs) {Wf : World} {v1 v2 : Value} {q : Nat}
    (hk : ∀ k, k < w.heap.size → vb.ownBlock ≠ some k → vu.ownBlock ≠ some k → Wf.heap[k]? = w.heap[k]?) (hs : w.heap.size ≤ Wf.heap.size) (ho : Wf.os = w.os ∧ Wf.tape = w.tape ∧ Wf.output = w.output)
    (r1 : Row Wf 22 v1 ((qs.map fun q => .slice (some ⟨q, 0, none⟩) n n) ++ [.slice (some ⟨q, 0, none⟩) n n])) (r2 : Row Wf 4 v2 (us.map .bool ++ [.bool true]))
    (hq : Wf.heap[q]? = some (.cells (madeCells #[.int .u8 0] n) 5)) (q0 : w.heap.size ≤ q)
    (o1 : ∀ k, v1.ownBlock = some k → vb.ownBlock = some k ∨ (w.heap.size ≤ k ∧ k ≠ q)) (o2 : ∀ k, v2.ownBlock = some k → vu.ownBlock = some k ∨ (w.heap.size ≤ k ∧ k ≠ q))
    (o12 : ∀ k, v1.ownBlock = some k → v2.ownBlock = some k → False) :
    Ar ((Wf.setCell ⟨g, 2, none⟩ v1).setCell ⟨g, 3, none⟩ v2) g n room (bl ++ [zs n]) (us ++ [true]) fr live peak v1 v2 vf (qs ++ [q]) ∧ Ch (Ar.own g vb vu vf qs) w ((Wf.setCell ⟨g, 2, none⟩ v1).setCell ⟨g, 3, none⟩ v2) := by
  have hgl := h.glt
  have hbl : ∀ k, vb.ownBlock = some k → k < w.heap.size := fun k hk => h.rb.lt hk
  have hul : ∀ k, vu.ownBlock = some k → k < w.heap.size := fun k hk => h.ru.lt hk
  have hfl : ∀ k, vf.ownBlock = some k → k < w.heap.size := fun k hk => h.rf.lt hk
  have hgb : ∀ k, vb.ownBlock = some k → k ≠ g := fun k hk e => h.ob k hk (e ▸ List.mem_cons_self ..)
  have hgu : ∀ k, vu.ownBlock = some k → k ≠ g := fun k hk e => h.ou k hk (e ▸ List.mem_cons_self ..)
  have hgf : ∀ k, vf.ownBlock = some k → k ≠ g := fun k hk e => h.of k hk (e ▸ List.mem_cons_self ..)
  have hX : ∀ k, k ≠ g → ((Wf.setCell ⟨g, 2, none⟩ v1).setCell ⟨g, 3, none⟩ v2).heap[k]? = Wf.heap[k]? := fun k hk => (Below.heap_setCell _ ⟨g, 3, none⟩ v2 k hk).trans (Below.heap_setCell Wf ⟨g, 2, none⟩ v1 k hk)
  have hg : Wf.heap[g]? = w.heap[g]? := hk g hgl (fun e => hgb g e rfl) (fun e => hgu g e rfl)
  have hnd := h.nd
  have hqn : q ∉ g :: qs := fun hm => by
    rcases List.mem_cons.1 hm with rfl | hm
    · omega
    · have := h.qlt hm; omega
  have hmem : ∀ k, k ∈ g :: (qs ++ [q]) → k ∈ g :: qs ∨ k = q := fun k hm => by
    simp only [List.mem_cons, List.mem_append, List.not_mem_nil, or_false] at hm ⊢
    rcases hm with h | h | h
    · exact .inl (.inl h)
    · exact .inl (.inr h)
    · exact .inr h
  have hlt : ∀ k, k ∈ g :: qs → k < w.heap.size := fun k hm => by
    rcases List.mem_cons.1 hm with rfl | hm
    · exact hgl
    · exact h.qlt hm
  refine ⟨⟨?_, ?_, ?_, ?_, ?_, ?_, ?_, ?_, ?_, ?_, ?_, ?_, ?_, ?_⟩, ho.1, ho.2.1, ho.2.2, by simpa [World.setCell] using hs, ?_⟩
  · have := cset (cset (hg.trans h.head) 2 v1) 3 v2
    simpa using this
  · rw [List.map_append]
    refine r1.keep fun k hk => hX k ?_
    rcases o1 k hk with h1 | h1
    · exact hgb k h1
    · omega
  · rw [List.map_append]
    refine r2.keep fun k hk => hX k ?_
    rcases o2 k hk with h1 | h1
    · exact hgu k h1
    · omega
  · exact h.rf.keep fun k hf => (hX k (hgf k hf)).trans (hk k (hfl k hf) (fun e => h.bf k e hf) (fun e => h.uf k e hf))
  · simp [h.ql]
  · simp [h.ul]
  · intro j q' b h1 h2
    rcases Nat.lt_or_ge j qs.length with hj | hj
    · rw [List.getElem?_append_left hj] at h1
      rw [List.getElem?_append_left (by rw [← h.ql]; exact hj)] at h2
      obtain ⟨h3, h4⟩ := h.bk j q' b h1 h2
      have hm := List.mem_of_getElem? h1
      have hne : q' ≠ g := fun e => (List.nodup_cons.1 hnd).1 (e ▸ hm)
      exact ⟨h3, (hX q' hne).trans ((hk q' (h.qlt hm) (fun e => h.ob q' e (List.mem_cons_of_mem _ hm)) (fun e => h.ou q' e (List.mem_cons_of_mem _ hm))).trans h4)⟩
    · rw [List.getElem?_append_right hj] at h1
      rw [List.getElem?_append_right (by rw [← h.ql]; exact hj)] at h2
      have hj0 : j - qs.length = 0 := by
        have := (List.getElem?_eq_some_iff.1 h1).1
        simpa using this
      rw [hj0] at h1
      rw [← h.ql, hj0] at h2
      simp at h1 h2
      subst h1; subst h2
      refine ⟨by simp [zs], (hX q (by omega)).trans (hq.trans ?_)⟩
      rw [made_cells]; rfl
  · rw [← List.cons_append]
    refine List.nodup_append.2 ⟨hnd, by simp, fun a ha b hb => ?_⟩
    simp at hb
    subst hb
    exact fun e => hqn (e ▸ ha)
  · intro k hk hm
    rcases hmem k hm with h1 | h1 <;> rcases o1 k hk with h2 | h2
    · exact h.ob k h2 h1
    · have := hlt k h1; omega
    · have := hbl k h2; omega
    · exact h2.2 h1
  · intro k hk hm
    rcases hmem k hm with h1 | h1 <;> rcases o2 k hk with h2 | h2
    · exact h.ou k h2 h1
    · have := hlt k h1; omega
    · have := hul k h2; omega
    · exact h2.2 h1
  · intro k hk hm
    rcases hmem k hm with h1 | h1
    · exact h.of k hk h1
    · have := hfl k hk; omega
  · exact fun k h1 h2 => o12 k h1 h2
  · intro k h1 h2
    rcases o1 k h1 with h3 | h3
    · exact h.bf k h3 h2
    · have := hfl k h2; omega
  · intro k h1 h2
    rcases o2 k h1 with h3 | h3
    · exact h.uf k h3 h2
    · have := hfl k h2; omega
  · intro k hk' hn
    refine (hX k fun e => hn (.inl (e ▸ List.mem_cons_self ..))).trans (hk k hk' (fun e => hn (.inr (.inl e))) (fun e => hn (.inr (.inr (.inl e)))))
theorem alloc_no (h : Ar w g n room bl us [] live peak vb vu vf qs) (hr : room ≤ bl.length) :
    Calls Try.prog 23 #[.pointer (some ⟨g, 0, none⟩)] w fun e w' => e = .returned (.tuple #[.int .i64 0, .bool false]) ∧ w = w' := by
  refine cps fun R hR => ?_
  obtain ⟨A, c, rfl, -, -⟩ := h.rb.shape
  obtain ⟨Af, cf, rfl, -, -⟩ := h.rf.shape
  rw [List.length_map] at *
  obtain ⟨-, c1, c2, -, c4, -, -⟩ := cells7 h.head
  rw [h.ql] at c2
  simp only [List.map_nil, List.length_nil] at c4
  clear h
  generalize bl.length = m at *
  go_enter Try.func23, Try.ntmps23
  go_wp2_with fail
  exact hR.out _ _ ⟨rfl, rfl⟩
set_option maxRecDepth 100000 in
set_option maxHeartbeats 4000000 in
theorem alloc_new (h : Ar w g n room bl us [] live peak vb vu vf qs) (hr : bl.length < room) (hn : n ≤ 1000000) (hm : bl.length ≤ 1000000) (hlv : live ≤ 1000000) (hpk : peak ≤ 1000000) :
    Calls Try.prog 23 #[.pointer (some ⟨g, 0, none⟩)] w fun e w' => e = .returned (.tuple #[.int .i64 (bl.length : Int), .bool true]) ∧
      ∃ vb' vu' q, Ar w' g n room (bl ++ [zs n]) (us ++ [true]) [] (live + 1) (max peak (live + 1)) vb' vu' vf (qs ++ [q]) ∧ Ch (Ar.own g vb vu vf qs) w w' ∧ w.heap.size ≤ q ∧
        (∀ k, vb'.ownBlock = some k → vb.ownBlock = some k ∨ w.heap.size ≤ k) ∧ (∀ k, vu'.ownBlock = some k → vu.ownBlock = some k ∨ w.heap.size ≤ k) := by
  refine cps fun R hR => ?_
  have H := hide h
  have Hrb := hide h.rb
  have Hru := hide h.ru
  have Hlb := hide (show ∀ k, vb.ownBlock = some k → k < w.heap.size from fun k hk => h.rb.lt hk)
  have Hlu := hide (show ∀ k, vu.ownBlock = some k → k < w.heap.size from fun k hk => h.ru.lt hk)
  have Hbu := hide (show ∀ k, vb.ownBlock = some k → vu.ownBlock = some k → False from fun k a b => h.bu k a b)
  have Hbg := hide (show vb.ownBlock ≠ some g from fun e => h.ob g e (List.mem_cons_self ..))
  have Hug := hide (show vu.ownBlock ≠ some g from fun e => h.ou g e (List.mem_cons_self ..))
  have lqs := hide (show (qs.map fun q => Value.slice (some ⟨q, 0, none⟩) n n).length = bl.length by rw [List.length_map, h.ql])
  have lus := hide (show (us.map Value.bool).length = bl.length by rw [List.length_map, h.ul])
  have Hhead := hide h.head
  have Hch2 := hide h.glt
  obtain ⟨A, c, rfl, -, -⟩ := h.rb.shape
  obtain ⟨Au, cu, rfl, -, -⟩ := h.ru.shape
  obtain ⟨Af, cf, rfl, -, -⟩ := h.rf.shape
  have hgl := h.glt
  obtain ⟨c0, c1, c2, c3, c4, c5, c6⟩ := cells7 h.head
  have Hcs := hide (fun (y : World) (hy : y.heap[g]? = w.heap[g]?) => (by
      have hh := hy.trans h.head
      obtain ⟨k0, -, k2, k3, -, -, -⟩ := cells7 hh
      exact ⟨k0, k2, k3, by simp [World.frozen?, hh], by simp [World.frozen?, hh]⟩ :
    y.cell? ⟨g, 0, none⟩ = some (.int .i64 (n : Int)) ∧ y.cell? ⟨g, 2, none⟩ = some (.slice A (qs.map fun q => Value.slice (some ⟨q, 0, none⟩) n n).length c) ∧ y.cell? ⟨g, 3, none⟩ = some (.slice Au (us.map Value.bool).length cu) ∧ y.frozen? ⟨g, 2, none⟩ = false ∧ y.frozen? ⟨g, 3, none⟩ = false))
  have hmk := fun w => make_bytes n (by omega) w
  rw [lqs.out] at c2 Hcs H Hrb Hlb Hbu Hbg hR Hhead
  rw [lus.out] at c3 Hcs H Hru Hlu Hbu Hug hR Hhead
  simp only [List.map_nil, List.length_nil] at c4
  clear h
  generalize hbm : bl.length = m at *
  have Hbm := hide hbm
  clear hbm
  go_enter Try.func23, Try.ntmps23
  go_wp2_with fail
  clear c0 c1 c2 c3 c4
  refine wp_region_K 21 (fun y => y.cell? ⟨g, 0, none⟩ = some (.int .i64 (n : Int)) ∧ y.cell? ⟨g, 2, none⟩ = some (.slice A m c) ∧ y.cell? ⟨g, 3, none⟩ = some (.slice Au m cu) ∧ y.frozen? ⟨g, 2, none⟩ = false ∧ y.frozen? ⟨g, 3, none⟩ = false) (by kernel_rfl) (Hcs.out _ rfl) (fun hHeld => ?_)
  have D1 := hide (show ∀ k : Nat, w.drew.heap[k]? = w.heap[k]? from fun _ => rfl)
  have D2 := hide (show w.drew.os = w.os ∧ w.drew.tape = w.tape ∧ w.drew.output = w.output from ⟨rfl, rfl, rfl⟩)
  have D3 : w.drew.heap.size ≤ w.heap.size := Nat.le_refl _
  have D4 : w.heap.size ≤ w.drew.heap.size := Nat.le_refl _
  generalize w.drew = w0 at *
  refine wpAnyK_take0 (i := 0) (v := ?_) rfl (by kernel_rfl) (by kernel_rfl) (by kernel_rfl) (by decide) (fun _ _ _ h => h) (Or.inl ⟨by rfl, ?_⟩) (fun _ => by assumption) ?_
  rotate_left
  (focus (intro y hSw; go_simp; first | done | with_reducible rfl))
  (try simp only [Act.put, List.setIfInBounds_toArray, List.set_cons_zero, List.set_cons_succ])
  refine wpAnyK_take0 (i := 1) (v := ?_) rfl (by kernel_rfl) (by kernel_rfl) (by kernel_rfl) (by decide) (fun _ _ _ h => h) (Or.inl ⟨by rfl, ?_⟩) (fun _ => by assumption) ?_
  rotate_left
  (focus (intro y hSw; go_simp; first | done | with_reducible rfl))
  (try simp only [Act.put, List.setIfInBounds_toArray, List.set_cons_zero, List.set_cons_succ])
  refine wpAnyK_take0 (i := 2) (v := ?_) rfl (by kernel_rfl) (by kernel_rfl) (by kernel_rfl) (by decide) (fun _ _ _ h => h) (Or.inl ⟨by rfl, ?_⟩) (fun _ => by assumption) ?_
  rotate_left
  (focus (intro y hSw; go_simp; first | done | with_reducible rfl))
  (try simp only [Act.put, List.setIfInBounds_toArray, List.set_cons_zero, List.set_cons_succ])
  refine wpAnyK_take0 (i := 3) (v := ?_) rfl (by kernel_rfl) (by kernel_rfl) (by kernel_rfl) (by decide) (fun _ _ _ h => h) (Or.inl ⟨by rfl, ?_⟩) (fun _ => by assumption) ?_
  rotate_left
  (focus (intro y hSw; go_simp; first | done | with_reducible rfl))
  (try simp only [Act.put, List.setIfInBounds_toArray, List.set_cons_zero, List.set_cons_succ])
  refine wpAnyK_take0 (i := 4) (v := ?_) rfl (by kernel_rfl) (by kernel_rfl) (by kernel_rfl) (by decide) (fun _ _ _ h => h) (Or.inl ⟨by rfl, ?_⟩) (fun _ => by assumption) ?_
  rotate_left
  (focus (intro y hSw; go_simp; first | done | with_reducible rfl))
  (try simp only [Act.put, List.setIfInBounds_toArray, List.set_cons_zero, List.set_cons_succ])
  refine wpAnyK_take (i := 5) (v := ?_) rfl (by kernel_rfl) (by kernel_rfl) (by kernel_rfl) (by kernel_rfl) (fun _ _ _ h => h) (Or.inl ⟨by rfl, ?_⟩) (by assumption) ?_
  rotate_left
  (focus (intro y hSw; (try dsimp only at hSw); go_simp; first | done | with_reducible rfl))
  (try simp only [Act.put, List.setIfInBounds_toArray, List.set_cons_zero, List.set_cons_succ])
  refine wpAnyK_take0 (i := 6) (v := ?_) rfl (by kernel_rfl) (by kernel_rfl) (by kernel_rfl) (by decide) (fun _ _ _ h => h) (Or.inl ⟨by rfl, ?_⟩) (fun _ => by assumption) ?_
  rotate_left
  (focus (intro y hSw; go_simp; first | done | with_reducible rfl))
  (try simp only [Act.put, List.setIfInBounds_toArray, List.set_cons_zero, List.set_cons_succ])
  refine wpAnyK_take0 (i := 7) (v := ?_) rfl (by kernel_rfl) (by kernel_rfl) (by kernel_rfl) (by decide) (fun _ _ _ h => h) (Or.inl ⟨by rfl, ?_⟩) (fun _ => by assumption) ?_
  rotate_left
  (focus (intro y hSw; go_simp; first | done | with_reducible rfl))
  (try simp only [Act.put, List.setIfInBounds_toArray, List.set_cons_zero, List.set_cons_succ])
  refine wpAnyK_take0 (i := 8) (v := ?_) rfl (by kernel_rfl) (by kernel_rfl) (by kernel_rfl) (by decide) (fun _ _ _ h => h) (Or.inl ⟨by rfl, ?_⟩) (fun _ => by assumption) ?_
  rotate_left
  (focus (intro y hSw; go_simp; first | done | with_reducible rfl))
  (try simp only [Act.put, List.setIfInBounds_toArray, List.set_cons_zero, List.set_cons_succ])
  refine wpAnyK_take (i := 9) (v := ?_) rfl (by kernel_rfl) (by kernel_rfl) (by kernel_rfl) (by kernel_rfl) (fun _ _ _ h => h) (Or.inl ⟨by rfl, ?_⟩) (by assumption) ?_
  rotate_left
  (focus (intro y hSw; (try dsimp only at hSw); go_simp; first | done | with_reducible rfl))
  (try simp only [Act.put, List.setIfInBounds_toArray, List.set_cons_zero, List.set_cons_succ])
  refine wpAnyK_take0 (i := 13) (v := ?_) rfl (by kernel_rfl) (by kernel_rfl) (by kernel_rfl) (by decide) (fun _ _ _ h => h) (Or.inl ⟨by rfl, ?_⟩) (fun _ => by assumption) ?_
  rotate_left
  (focus (intro y hSw; go_simp; first | done | with_reducible rfl))
  (try simp only [Act.put, List.setIfInBounds_toArray, List.set_cons_zero, List.set_cons_succ])
  refine wpAnyK_take0 (i := 14) (v := ?_) rfl (by kernel_rfl) (by kernel_rfl) (by kernel_rfl) (by decide) (fun _ _ _ h => h) (Or.inl ⟨by rfl, ?_⟩) (fun _ => by assumption) ?_
  rotate_left
  (focus (intro y hSw; go_simp; first | done | with_reducible rfl))
  (try simp only [Act.put, List.setIfInBounds_toArray, List.set_cons_zero, List.set_cons_succ])
  refine wpAnyK_take0 (i := 15) (v := ?_) rfl (by kernel_rfl) (by kernel_rfl) (by kernel_rfl) (by decide) (fun _ _ _ h => h) (Or.inl ⟨by rfl, ?_⟩) (fun _ => by assumption) ?_
  rotate_left
  (focus (intro y hSw; go_simp; first | done | with_reducible rfl))
  (try simp only [Act.put, List.setIfInBounds_toArray, List.set_cons_zero, List.set_cons_succ])
  refine wpAnyK_take (i := 16) (v := ?_) rfl (by kernel_rfl) (by kernel_rfl) (by kernel_rfl) (by kernel_rfl) (fun _ _ _ h => h) (Or.inl ⟨by rfl, ?_⟩) (by assumption) ?_
  rotate_left
  (focus (intro y hSw; (try dsimp only at hSw); go_simp; first | done | with_reducible rfl))
  (try simp only [Act.put, List.setIfInBounds_toArray, List.set_cons_zero, List.set_cons_succ])
  refine wpAnyK_ready (rs := [10, 17]) (by kernel_rfl) (by simp) ?_
  refine (AllReadyK.cons rfl (fun K hK => ?_) (AllReadyK.cons rfl (fun K hK => ?_) AllReadyK.nil))
  · go_simp
    refine named_alloc (C := K _) ?_
    intro w10 h10 g10 z10 z10a
    have H10 := hide h10
    clear h10
    refine hK.out _ _ (Hcs.out _ (by (repeat (first | exact D1.out _ | refine (g10.block g (by omega) (by simp)).trans ?_ | refine (g11.block g (by omega) (by simp)).trans ?_ | refine (g12.block g (by omega) (by exact fun e => Hbg.out e.symm)).trans ?_ | refine (g17.block g (by omega) (by simp)).trans ?_ | refine (g18.block g (by omega) (by exact fun e => Hug.out e.symm)).trans ?_)))) (fun hHeld' => ?_)
    clear hK K hHeld
    have hHeld := hHeld'
    clear hHeld'
    try simp only [Act.put, List.setIfInBounds_toArray, List.set_cons_zero, List.set_cons_succ]
    refine wpAnyK_ready (rs := [11, 17]) (by kernel_rfl) (by simp) ?_
    refine (AllReadyK.cons rfl (fun K hK => ?_) (AllReadyK.cons rfl (fun K hK => ?_) AllReadyK.nil))
    · go_simp
      refine named_alloc (C := K _) ?_
      intro w11 h11 g11 z11 z11a
      have H11 := hide h11
      clear h11
      refine hK.out _ _ (Hcs.out _ (by (repeat (first | exact D1.out _ | refine (g10.block g (by omega) (by simp)).trans ?_ | refine (g11.block g (by omega) (by simp)).trans ?_ | refine (g12.block g (by omega) (by exact fun e => Hbg.out e.symm)).trans ?_ | refine (g17.block g (by omega) (by simp)).trans ?_ | refine (g18.block g (by omega) (by exact fun e => Hug.out e.symm)).trans ?_)))) (fun hHeld' => ?_)
      clear hK K hHeld
      have hHeld := hHeld'
      clear hHeld'
      try simp only [Act.put, List.setIfInBounds_toArray, List.set_cons_zero, List.set_cons_succ]
      refine wpAnyK_ready (rs := [12, 17]) (by kernel_rfl) (by simp) ?_
      refine (AllReadyK.cons rfl (fun K hK => ?_) (AllReadyK.cons rfl (fun K hK => ?_) AllReadyK.nil))
      · rw [if_pos (by rfl)]
        refine op_app 69 rfl (.tmp 62) (.tmp 68) 23 rfl Try.underlying23 infoSB rfl (us := qs.map fun q => .slice (some ⟨q, 0, none⟩) n n) (by rfl) (Hrb.out.keep fun k hk => by
            have k1 := Hlb.out k hk
            have k2 := Hbu.out k hk
            (repeat (first | exact D1.out _ | refine (g10.block k (by omega) (by simp)).trans ?_ | refine (g11.block k (by omega) (by simp)).trans ?_ | refine (g12.block k (by omega) (by simp)).trans ?_ | refine (g17.block k (by omega) (by simp)).trans ?_ | refine (g18.block k (by omega) (by exact fun e => k2 e.symm)).trans ?_))) (by rfl) (Src.new1 (by (repeat (first | exact H11.out | refine (g10.block _ (by omega) (by simp)).trans ?_ | refine (g11.block _ (by omega) (by simp)).trans ?_ | refine (g12.block _ (by omega) (by simp)).trans ?_ | refine (g17.block _ (by omega) (by simp)).trans ?_ | refine (g18.block _ (by omega) (by exact fun e => by have := Hlu.out _ e.symm; omega)).trans ?_)))) (by simp [Value.oneCell']) (by rw [lqs.out]; simp; omega) (by rw [lqs.out]; simp; unfold maxLen; omega) ?_
        intro v1 w12 r12 g12 a12
        have z12 := g12.size
        have R12 := hide r12
        have A12 := hide a12
        clear r12 a12
        refine hK.out _ _ (Hcs.out _ (by (repeat (first | exact D1.out _ | refine (g10.block g (by omega) (by simp)).trans ?_ | refine (g11.block g (by omega) (by simp)).trans ?_ | refine (g12.block g (by omega) (by exact fun e => Hbg.out e.symm)).trans ?_ | refine (g17.block g (by omega) (by simp)).trans ?_ | refine (g18.block g (by omega) (by exact fun e => Hug.out e.symm)).trans ?_)))) (fun hHeld' => ?_)
        clear hK K hHeld
        have hHeld := hHeld'
        clear hHeld'
        try simp only [Act.put, List.setIfInBounds_toArray, List.set_cons_zero, List.set_cons_succ]
        refine wpAnyK_ready (rs := [17]) (by kernel_rfl) (by simp) ?_
        refine (AllReadyK.cons rfl (fun K hK => ?_) AllReadyK.nil)
        · go_simp
          refine named_alloc (C := K _) ?_
          intro w17 h17 g17 z17 z17a
          have H17 := hide h17
          clear h17
          refine hK.out _ _ (Hcs.out _ (by (repeat (first | exact D1.out _ | refine (g10.block g (by omega) (by simp)).trans ?_ | refine (g11.block g (by omega) (by simp)).trans ?_ | refine (g12.block g (by omega) (by exact fun e => Hbg.out e.symm)).trans ?_ | refine (g17.block g (by omega) (by simp)).trans ?_ | refine (g18.block g (by omega) (by exact fun e => Hug.out e.symm)).trans ?_)))) (fun hHeld' => ?_)
          clear hK K hHeld
          have hHeld := hHeld'
          clear hHeld'
          try simp only [Act.put, List.setIfInBounds_toArray, List.set_cons_zero, List.set_cons_succ]
          refine wpAnyK_ready (rs := [18]) (by kernel_rfl) (by simp) ?_
          refine (AllReadyK.cons rfl (fun K hK => ?_) AllReadyK.nil)
          · rw [if_pos (by rfl)]
            refine op_app 75 rfl (.tmp 73) (.tmp 74) 65 rfl Try.underlying65 infoBo rfl (us := us.map .bool) (by rfl) (Hru.out.keep fun k hk => by
                have k1 := Hlu.out k hk
                have k2 := fun e => Hbu.out k e hk
                (repeat (first | exact D1.out _ | refine (g10.block k (by omega) (by simp)).trans ?_ | refine (g11.block k (by omega) (by simp)).trans ?_ | refine (g12.block k (by omega) (by exact fun e => k2 e.symm)).trans ?_ | refine (g17.block k (by omega) (by simp)).trans ?_ | refine (g18.block k (by omega) (by simp)).trans ?_))) (by rfl) (Src.new1 (by (repeat (first | exact H17.out | refine (g10.block _ (by omega) (by simp)).trans ?_ | refine (g11.block _ (by omega) (by simp)).trans ?_ | refine (g12.block _ (by omega) (by exact fun e => by have := Hlb.out _ e.symm; omega)).trans ?_ | refine (g17.block _ (by omega) (by simp)).trans ?_ | refine (g18.block _ (by omega) (by simp)).trans ?_)))) (by simp [Value.oneCell']) (by rw [lus.out]; simp; omega) (by rw [lus.out]; simp; unfold maxLen; omega) ?_
            intro v2 w18 r18 g18 a18
            have z18 := g18.size
            have R18 := hide r18
            have A18 := hide a18
            clear r18 a18
            refine hK.out _ _ (Hcs.out _ (by (repeat (first | exact D1.out _ | refine (g10.block g (by omega) (by simp)).trans ?_ | refine (g11.block g (by omega) (by simp)).trans ?_ | refine (g12.block g (by omega) (by exact fun e => Hbg.out e.symm)).trans ?_ | refine (g17.block g (by omega) (by simp)).trans ?_ | refine (g18.block g (by omega) (by exact fun e => Hug.out e.symm)).trans ?_)))) (fun hHeld' => ?_)
            clear hK K hHeld
            have hHeld := hHeld'
            clear hHeld'
            try simp only [Act.put, List.setIfInBounds_toArray, List.set_cons_zero, List.set_cons_succ]
            have hfin := hide (H.out.fresh (Wf := _) (v1 := v1) (v2 := v2) (q := _) (fun k hk n1 n2 => by (repeat (first | exact D1.out _ | refine (g10.block k (by omega) (by simp)).trans ?_ | refine (g11.block k (by omega) (by simp)).trans ?_ | refine (g12.block k (by omega) (by exact fun e => n1 e.symm)).trans ?_ | refine (g17.block k (by omega) (by simp)).trans ?_ | refine (g18.block k (by omega) (by exact fun e => n2 e.symm)).trans ?_))) (by omega) ⟨by (repeat (first | exact D2.out.1 | refine g10.os.trans ?_ | refine g11.os.trans ?_ | refine g12.os.trans ?_ | refine g17.os.trans ?_ | refine g18.os.trans ?_)), by (repeat (first | exact D2.out.2.1 | refine g10.tape.trans ?_ | refine g11.tape.trans ?_ | refine g12.tape.trans ?_ | refine g17.tape.trans ?_ | refine g18.tape.trans ?_)), by (repeat (first | exact D2.out.2.2 | refine g10.output.trans ?_ | refine g11.output.trans ?_ | refine g12.output.trans ?_ | refine g17.output.trans ?_ | refine g18.output.trans ?_))⟩
              (R12.out.keep fun k hk => by
                have k1 := R12.out.lt hk
                have k2 := own_ne A12.out Hlb.out Hbu.out k hk
                (repeat (first | exact (rfl : w12.heap[k]? = w12.heap[k]?) | refine (g10.block k (by omega) (by simp)).trans ?_ | refine (g11.block k (by omega) (by simp)).trans ?_ | refine (g12.block k (by omega) (by simp)).trans ?_ | refine (g17.block k (by omega) (by simp)).trans ?_ | refine (g18.block k (by omega) (by exact fun e => by have := Hlu.out k e.symm; first | exact k2 e.symm this (by omega) | omega)).trans ?_)))
              R18.out
              (by (repeat (first | exact H10.out | refine (g10.block _ (by omega) (by simp)).trans ?_ | refine (g11.block _ (by omega) (by simp)).trans ?_ | refine (g12.block _ (by omega) (by exact fun e => by have := Hlb.out _ e.symm; omega)).trans ?_ | refine (g17.block _ (by omega) (by simp)).trans ?_ | refine (g18.block _ (by omega) (by exact fun e => by have := Hlu.out _ e.symm; omega)).trans ?_))) (by omega)
              (fun k hk => by
                rcases A12.out with e | e
                · exact .inl (e ▸ hk)
                · rw [e] at hk; injection hk with hk; exact .inr ⟨by omega, by omega⟩)
              (fun k hk => by
                have k1 := R18.out.lt hk
                rcases A18.out with e | e
                · exact .inl (e ▸ hk)
                · rw [e] at hk; injection hk with hk; exact .inr ⟨by omega, by omega⟩)
              (fun k h1 h2 => by
                have k1 := R12.out.lt h1
                have k2 := R18.out.lt h2
                rcases A12.out with e | e <;> rcases A18.out with e' | e' <;> rw [e] at h1 <;> rw [e'] at h2
                · exact Hbu.out k h1 h2
                · have := Hlb.out k h1; injection h2 with h2; omega
                · have := Hlu.out k h2; injection h1 with h1; omega
                · injection h1 with h1; injection h2 with h2; omega))
            obtain ⟨A1, c1, e1, -, -⟩ := R12.out.shape
            obtain ⟨A2, c2, e2, -, -⟩ := R18.out.shape
            rw [List.length_append, lqs.out] at e1
            rw [List.length_append, lus.out] at e2
            simp only [List.length_cons, List.length_nil, Nat.zero_add] at e1 e2
            subst e1
            subst e2
            have o1 := hide (own_old A12.out)
            have o2 := hide (own_old A18.out)
            clear H10 H11 H17 R12 R18 A12 A18
            refine wpAnyK_take0 (i := 19) (v := ?_) rfl (by kernel_rfl) (by kernel_rfl) (by kernel_rfl) (by decide) (fun _ _ _ h => h) (Or.inl ⟨by rfl, ?_⟩) (fun _ => by assumption) ?_
            rotate_left
            (focus (intro y hSw; go_simp; first | done | with_reducible rfl))
            (try simp only [Act.put, List.setIfInBounds_toArray, List.set_cons_zero, List.set_cons_succ])
            refine wpAnyK_take0 (i := 20) (v := ?_) rfl (by kernel_rfl) (by kernel_rfl) (by kernel_rfl) (by decide) (fun _ _ _ h => h) (Or.inl ⟨by rfl, ?_⟩) (fun _ => by assumption) ?_
            rotate_left
            (focus (intro y hSw; go_simp; first | done | with_reducible rfl))
            (try simp only [Act.put, List.setIfInBounds_toArray, List.set_cons_zero, List.set_cons_succ])
            obtain ⟨k0, k2, k3, kf2, kf3⟩ := hHeld
            refine wpAnyK_ready (rs := [21]) (by kernel_rfl) (by simp) ?_
            refine AllReadyK.late rfl (by kernel_rfl) (fun K hK => ?_) AllReadyK.nil
            go_simp
            refine hK.out _ _ ?_
            clear hK K
            try simp only [Act.put, List.setIfInBounds_toArray, List.set_cons_zero, List.set_cons_succ]
            refine wpAnyK_ready (rs := [22]) (by kernel_rfl) (by simp) ?_
            refine AllReadyK.late rfl (by kernel_rfl) (fun K hK => ?_) AllReadyK.nil
            go_simp
            refine hK.out _ _ ?_
            clear hK K
            try simp only [Act.put, List.setIfInBounds_toArray, List.set_cons_zero, List.set_cons_succ]
            refine wpAnyK_ready (rs := [23]) (by kernel_rfl) (by simp) ?_
            refine AllReadyK.late rfl (by kernel_rfl) (fun K hK => ?_) AllReadyK.nil
            go_simp
            refine hK.out _ _ ?_
            clear hK K
            try simp only [Act.put, List.setIfInBounds_toArray, List.set_cons_zero, List.set_cons_succ]
            refine wpAnyK_ready (rs := [24]) (by kernel_rfl) (by simp) ?_
            refine AllReadyK.late rfl (by kernel_rfl) (fun K hK => ?_) AllReadyK.nil
            go_simp
            refine hK.out _ _ ?_
            clear hK K
            try simp only [Act.put, List.setIfInBounds_toArray, List.set_cons_zero, List.set_cons_succ]
            clear k0 k2 k3 kf2 kf3
            obtain ⟨W3, hW3⟩ : ∃ W3, W3 = ((w18.setCell ⟨g, 2, none⟩ (.slice A1 (m + 1) c1)).setCell ⟨g, 3, none⟩ (.slice A2 (m + 1) c2)) := ⟨_, rfl⟩
            rw [← hW3]
            rw [← hW3] at hfin
            clear hW3
            refine wpAnyK_done (by kernel_rfl) ?_ _
            have h3 := hfin.out.1
            have Ch3 := hide hfin.out.2
            obtain ⟨h5, ch5⟩ := h3.more (W3.drawn + 1)
            obtain ⟨W4, hW4⟩ : ∃ W4, W4 = W3.setCell ⟨g, 5, none⟩ (.int .i64 ((live : Int) + 1)) := ⟨_, rfl⟩
            have hd4 : W4.drawn = W3.drawn := by rw [hW4]; rfl
            rw [← hW4, ← hd4] at h5 ch5
            obtain ⟨W5, hW5⟩ : ∃ W5, W5 = ({ W4 with drawn := W4.drawn + 1 } : World).setCell ⟨g, 6, none⟩ (.int .i64 (max (peak : Int) ((live : Int) + 1))) := ⟨_, rfl⟩
            rw [← hW5] at h5 ch5
            obtain ⟨-, -, -, -, -, k5, k6⟩ := cells7 h3.head
            have f5 : W3.frozen? ⟨g, 5, none⟩ = false := by simp [World.frozen?, h3.head]
            have hh4 := cset h3.head 5 (.int .i64 ((live : Int) + 1))
            rw [← hW4] at hh4
            have m5 : W4.cell? ⟨g, 5, none⟩ = some (.int .i64 ((live : Int) + 1)) := by rw [cell_of_row W4 g _ _ _ (0, 0) hh4]; simp
            have m6 : W4.cell? ⟨g, 6, none⟩ = some (.int .i64 (peak : Int)) := by rw [cell_of_row W4 g _ _ _ (0, 0) hh4]; simp
            have f6 : W4.frozen? ⟨g, 6, none⟩ = false := by simp [World.frozen?, hh4]
            have H5 := hide h5
            have Ch5 := hide ch5
            have HW4 := hide hW4
            have HW5 := hide hW5
            clear h3 h5 ch5 hW4 hW5 hd4 hh4 c5 c6 hmk hfin
            go_wp2_with fail
            rw [← HW4.out]
            clear k5 k6 f5
            have hmx := fun w ts t => run_maxi Try.prog w ts t (peak : Int) ((live : Int) + 1)
            generalize hM : max (peak : Int) ((live : Int) + 1) = M at hmx HW5
            clear hM
            go_still_tail 12, (by kernel_rfl)
            go_wp2_with fail
            rw [show (W4.setCell ⟨g, 6, none⟩ (.int .i64 M)).drew = W5 from HW5.out.symm]
            refine hR.out _ _ ⟨rfl, _, _, _, H5.out, Ch3.out.trans Ch5.out fun b e => .inl (.inl (e ▸ List.mem_cons_self ..)), by omega, fun k hk => ?_, fun k hk => ?_⟩
            · rcases o1.out k hk with e | e
              · exact .inl e
              · exact .inr (by omega)
            · rcases o2.out k hk with e | e
              · exact .inl e
              · exact .inr (by omega)
      · go_simp
        refine named_alloc (C := K _) ?_
        intro w17 h17 g17 z17 z17a
        have H17 := hide h17
        clear h17
        refine hK.out _ _ (Hcs.out _ (by (repeat (first | exact D1.out _ | refine (g10.block g (by omega) (by simp)).trans ?_ | refine (g11.block g (by omega) (by simp)).trans ?_ | refine (g12.block g (by omega) (by exact fun e => Hbg.out e.symm)).trans ?_ | refine (g17.block g (by omega) (by simp)).trans ?_ | refine (g18.block g (by omega) (by exact fun e => Hug.out e.symm)).trans ?_)))) (fun hHeld' => ?_)
        clear hK K hHeld
        have hHeld := hHeld'
        clear hHeld'
        try simp only [Act.put, List.setIfInBounds_toArray, List.set_cons_zero, List.set_cons_succ]
        refine wpAnyK_ready (rs := [12]) (by kernel_rfl) (by simp) ?_
        refine (AllReadyK.cons rfl (fun K hK => ?_) AllReadyK.nil)
        · rw [if_pos (by rfl)]
          refine op_app 69 rfl (.tmp 62) (.tmp 68) 23 rfl Try.underlying23 infoSB rfl (us := qs.map fun q => .slice (some ⟨q, 0, none⟩) n n) (by rfl) (Hrb.out.keep fun k hk => by
              have k1 := Hlb.out k hk
              have k2 := Hbu.out k hk
              (repeat (first | exact D1.out _ | refine (g10.block k (by omega) (by simp)).trans ?_ | refine (g11.block k (by omega) (by simp)).trans ?_ | refine (g12.block k (by omega) (by simp)).trans ?_ | refine (g17.block k (by omega) (by simp)).trans ?_ | refine (g18.block k (by omega) (by exact fun e => k2 e.symm)).trans ?_))) (by rfl) (Src.new1 (by (repeat (first | exact H11.out | refine (g10.block _ (by omega) (by simp)).trans ?_ | refine (g11.block _ (by omega) (by simp)).trans ?_ | refine (g12.block _ (by omega) (by simp)).trans ?_ | refine (g17.block _ (by omega) (by simp)).trans ?_ | refine (g18.block _ (by omega) (by exact fun e => by have := Hlu.out _ e.symm; omega)).trans ?_)))) (by simp [Value.oneCell']) (by rw [lqs.out]; simp; omega) (by rw [lqs.out]; simp; unfold maxLen; omega) ?_
          intro v1 w12 r12 g12 a12
          have z12 := g12.size
          have R12 := hide r12
          have A12 := hide a12
          clear r12 a12
          refine hK.out _ _ (Hcs.out _ (by (repeat (first | exact D1.out _ | refine (g10.block g (by omega) (by simp)).trans ?_ | refine (g11.block g (by omega) (by simp)).trans ?_ | refine (g12.block g (by omega) (by exact fun e => Hbg.out e.symm)).trans ?_ | refine (g17.block g (by omega) (by simp)).trans ?_ | refine (g18.block g (by omega) (by exact fun e => Hug.out e.symm)).trans ?_)))) (fun hHeld' => ?_)
          clear hK K hHeld
          have hHeld := hHeld'
          clear hHeld'
          try simp only [Act.put, List.setIfInBounds_toArray, List.set_cons_zero, List.set_cons_succ]
          refine wpAnyK_ready (rs := [18]) (by kernel_rfl) (by simp) ?_
          refine (AllReadyK.cons rfl (fun K hK => ?_) AllReadyK.nil)
          · rw [if_pos (by rfl)]
            refine op_app 75 rfl (.tmp 73) (.tmp 74) 65 rfl Try.underlying65 infoBo rfl (us := us.map .bool) (by rfl) (Hru.out.keep fun k hk => by
                have k1 := Hlu.out k hk
                have k2 := fun e => Hbu.out k e hk
                (repeat (first | exact D1.out _ | refine (g10.block k (by omega) (by simp)).trans ?_ | refine (g11.block k (by omega) (by simp)).trans ?_ | refine (g12.block k (by omega) (by exact fun e => k2 e.symm)).trans ?_ | refine (g17.block k (by omega) (by simp)).trans ?_ | refine (g18.block k (by omega) (by simp)).trans ?_))) (by rfl) (Src.new1 (by (repeat (first | exact H17.out | refine (g10.block _ (by omega) (by simp)).trans ?_ | refine (g11.block _ (by omega) (by simp)).trans ?_ | refine (g12.block _ (by omega) (by exact fun e => by have := Hlb.out _ e.symm; omega)).trans ?_ | refine (g17.block _ (by omega) (by simp)).trans ?_ | refine (g18.block _ (by omega) (by simp)).trans ?_)))) (by simp [Value.oneCell']) (by rw [lus.out]; simp; omega) (by rw [lus.out]; simp; unfold maxLen; omega) ?_
            intro v2 w18 r18 g18 a18
            have z18 := g18.size
            have R18 := hide r18
            have A18 := hide a18
            clear r18 a18
            refine hK.out _ _ (Hcs.out _ (by (repeat (first | exact D1.out _ | refine (g10.block g (by omega) (by simp)).trans ?_ | refine (g11.block g (by omega) (by simp)).trans ?_ | refine (g12.block g (by omega) (by exact fun e => Hbg.out e.symm)).trans ?_ | refine (g17.block g (by omega) (by simp)).trans ?_ | refine (g18.block g (by omega) (by exact fun e => Hug.out e.symm)).trans ?_)))) (fun hHeld' => ?_)
            clear hK K hHeld
            have hHeld := hHeld'
            clear hHeld'
            try simp only [Act.put, List.setIfInBounds_toArray, List.set_cons_zero, List.set_cons_succ]
            have hfin := hide (H.out.fresh (Wf := _) (v1 := v1) (v2 := v2) (q := _) (fun k hk n1 n2 => by (repeat (first | exact D1.out _ | refine (g10.block k (by omega) (by simp)).trans ?_ | refine (g11.block k (by omega) (by simp)).trans ?_ | refine (g12.block k (by omega) (by exact fun e => n1 e.symm)).trans ?_ | refine (g17.block k (by omega) (by simp)).trans ?_ | refine (g18.block k (by omega) (by exact fun e => n2 e.symm)).trans ?_))) (by omega) ⟨by (repeat (first | exact D2.out.1 | refine g10.os.trans ?_ | refine g11.os.trans ?_ | refine g12.os.trans ?_ | refine g17.os.trans ?_ | refine g18.os.trans ?_)), by (repeat (first | exact D2.out.2.1 | refine g10.tape.trans ?_ | refine g11.tape.trans ?_ | refine g12.tape.trans ?_ | refine g17.tape.trans ?_ | refine g18.tape.trans ?_)), by (repeat (first | exact D2.out.2.2 | refine g10.output.trans ?_ | refine g11.output.trans ?_ | refine g12.output.trans ?_ | refine g17.output.trans ?_ | refine g18.output.trans ?_))⟩
              (R12.out.keep fun k hk => by
                have k1 := R12.out.lt hk
                have k2 := own_ne A12.out Hlb.out Hbu.out k hk
                (repeat (first | exact (rfl : w12.heap[k]? = w12.heap[k]?) | refine (g10.block k (by omega) (by simp)).trans ?_ | refine (g11.block k (by omega) (by simp)).trans ?_ | refine (g12.block k (by omega) (by simp)).trans ?_ | refine (g17.block k (by omega) (by simp)).trans ?_ | refine (g18.block k (by omega) (by exact fun e => by have := Hlu.out k e.symm; first | exact k2 e.symm this (by omega) | omega)).trans ?_)))
              R18.out
              (by (repeat (first | exact H10.out | refine (g10.block _ (by omega) (by simp)).trans ?_ | refine (g11.block _ (by omega) (by simp)).trans ?_ | refine (g12.block _ (by omega) (by exact fun e => by have := Hlb.out _ e.symm; omega)).trans ?_ | refine (g17.block _ (by omega) (by simp)).trans ?_ | refine (g18.block _ (by omega) (by exact fun e => by have := Hlu.out _ e.symm; omega)).trans ?_))) (by omega)
              (fun k hk => by
                rcases A12.out with e | e
                · exact .inl (e ▸ hk)
                · rw [e] at hk; injection hk with hk; exact .inr ⟨by omega, by omega⟩)
              (fun k hk => by
                have k1 := R18.out.lt hk
                rcases A18.out with e | e
                · exact .inl (e ▸ hk)
                · rw [e] at hk; injection hk with hk; exact .inr ⟨by omega, by omega⟩)
              (fun k h1 h2 => by
                have k1 := R12.out.lt h1
                have k2 := R18.out.lt h2
                rcases A12.out with e | e <;> rcases A18.out with e' | e' <;> rw [e] at h1 <;> rw [e'] at h2
                · exact Hbu.out k h1 h2
                · have := Hlb.out k h1; injection h2 with h2; omega
                · have := Hlu.out k h2; injection h1 with h1; omega
                · injection h1 with h1; injection h2 with h2; omega))
            obtain ⟨A1, c1, e1, -, -⟩ := R12.out.shape
            obtain ⟨A2, c2, e2, -, -⟩ := R18.out.shape
            rw [List.length_append, lqs.out] at e1
            rw [List.length_append, lus.out] at e2
            simp only [List.length_cons, List.length_nil, Nat.zero_add] at e1 e2
            subst e1
            subst e2
            have o1 := hide (own_old A12.out)
            have o2 := hide (own_old A18.out)
            clear H10 H11 H17 R12 R18 A12 A18
            refine wpAnyK_take0 (i := 19) (v := ?_) rfl (by kernel_rfl) (by kernel_rfl) (by kernel_rfl) (by decide) (fun _ _ _ h => h) (Or.inl ⟨by rfl, ?_⟩) (fun _ => by assumption) ?_
            rotate_left
            (focus (intro y hSw; go_simp; first | done | with_reducible rfl))
            (try simp only [Act.put, List.setIfInBounds_toArray, List.set_cons_zero, List.set_cons_succ])
            refine wpAnyK_take0 (i := 20) (v := ?_) rfl (by kernel_rfl) (by kernel_rfl) (by kernel_rfl) (by decide) (fun _ _ _ h => h) (Or.inl ⟨by rfl, ?_⟩) (fun _ => by assumption) ?_
            rotate_left
            (focus (intro y hSw; go_simp; first | done | with_reducible rfl))
            (try simp only [Act.put, List.setIfInBounds_toArray, List.set_cons_zero, List.set_cons_succ])
            obtain ⟨k0, k2, k3, kf2, kf3⟩ := hHeld
            refine wpAnyK_ready (rs := [21]) (by kernel_rfl) (by simp) ?_
            refine AllReadyK.late rfl (by kernel_rfl) (fun K hK => ?_) AllReadyK.nil
            go_simp
            refine hK.out _ _ ?_
            clear hK K
            try simp only [Act.put, List.setIfInBounds_toArray, List.set_cons_zero, List.set_cons_succ]
            refine wpAnyK_ready (rs := [22]) (by kernel_rfl) (by simp) ?_
            refine AllReadyK.late rfl (by kernel_rfl) (fun K hK => ?_) AllReadyK.nil
            go_simp
            refine hK.out _ _ ?_
            clear hK K
            try simp only [Act.put, List.setIfInBounds_toArray, List.set_cons_zero, List.set_cons_succ]
            refine wpAnyK_ready (rs := [23]) (by kernel_rfl) (by simp) ?_
            refine AllReadyK.late rfl (by kernel_rfl) (fun K hK => ?_) AllReadyK.nil
            go_simp
            refine hK.out _ _ ?_
            clear hK K
            try simp only [Act.put, List.setIfInBounds_toArray, List.set_cons_zero, List.set_cons_succ]
            refine wpAnyK_ready (rs := [24]) (by kernel_rfl) (by simp) ?_
            refine AllReadyK.late rfl (by kernel_rfl) (fun K hK => ?_) AllReadyK.nil
            go_simp
            refine hK.out _ _ ?_
            clear hK K
            try simp only [Act.put, List.setIfInBounds_toArray, List.set_cons_zero, List.set_cons_succ]
            clear k0 k2 k3 kf2 kf3
            obtain ⟨W3, hW3⟩ : ∃ W3, W3 = ((w18.setCell ⟨g, 2, none⟩ (.slice A1 (m + 1) c1)).setCell ⟨g, 3, none⟩ (.slice A2 (m + 1) c2)) := ⟨_, rfl⟩
            rw [← hW3]
            rw [← hW3] at hfin
            clear hW3
            refine wpAnyK_done (by kernel_rfl) ?_ _
            have h3 := hfin.out.1
            have Ch3 := hide hfin.out.2
            obtain ⟨h5, ch5⟩ := h3.more (W3.drawn + 1)
            obtain ⟨W4, hW4⟩ : ∃ W4, W4 = W3.setCell ⟨g, 5, none⟩ (.int .i64 ((live : Int) + 1)) := ⟨_, rfl⟩
            have hd4 : W4.drawn = W3.drawn := by rw [hW4]; rfl
            rw [← hW4, ← hd4] at h5 ch5
            obtain ⟨W5, hW5⟩ : ∃ W5, W5 = ({ W4 with drawn := W4.drawn + 1 } : World).setCell ⟨g, 6, none⟩ (.int .i64 (max (peak : Int) ((live : Int) + 1))) := ⟨_, rfl⟩
            rw [← hW5] at h5 ch5
            obtain ⟨-, -, -, -, -, k5, k6⟩ := cells7 h3.head
            have f5 : W3.frozen? ⟨g, 5, none⟩ = false := by simp [World.frozen?, h3.head]
            have hh4 := cset h3.head 5 (.int .i64 ((live : Int) + 1))
            rw [← hW4] at hh4
            have m5 : W4.cell? ⟨g, 5, none⟩ = some (.int .i64 ((live : Int) + 1)) := by rw [cell_of_row W4 g _ _ _ (0, 0) hh4]; simp
            have m6 : W4.cell? ⟨g, 6, none⟩ = some (.int .i64 (peak : Int)) := by rw [cell_of_row W4 g _ _ _ (0, 0) hh4]; simp
            have f6 : W4.frozen? ⟨g, 6, none⟩ = false := by simp [World.frozen?, hh4]
            have H5 := hide h5
            have Ch5 := hide ch5
            have HW4 := hide hW4
            have HW5 := hide hW5
            clear h3 h5 ch5 hW4 hW5 hd4 hh4 c5 c6 hmk hfin
            go_wp2_with fail
            rw [← HW4.out]
            clear k5 k6 f5
            have hmx := fun w ts t => run_maxi Try.prog w ts t (peak : Int) ((live : Int) + 1)
            generalize hM : max (peak : Int) ((live : Int) + 1) = M at hmx HW5
            clear hM
            go_still_tail 12, (by kernel_rfl)
            go_wp2_with fail
            rw [show (W4.setCell ⟨g, 6, none⟩ (.int .i64 M)).drew = W5 from HW5.out.symm]
            refine hR.out _ _ ⟨rfl, _, _, _, H5.out, Ch3.out.trans Ch5.out fun b e => .inl (.inl (e ▸ List.mem_cons_self ..)), by omega, fun k hk => ?_, fun k hk => ?_⟩
            · rcases o1.out k hk with e | e
              · exact .inl e
              · exact .inr (by omega)
            · rcases o2.out k hk with e | e
              · exact .inl e
              · exact .inr (by omega)
    · go_simp
      refine named_alloc (C := K _) ?_
      intro w17 h17 g17 z17 z17a
      have H17 := hide h17
      clear h17
      refine hK.out _ _ (Hcs.out _ (by (repeat (first | exact D1.out _ | refine (g10.block g (by omega) (by simp)).trans ?_ | refine (g11.block g (by omega) (by simp)).trans ?_ | refine (g12.block g (by omega) (by exact fun e => Hbg.out e.symm)).trans ?_ | refine (g17.block g (by omega) (by simp)).trans ?_ | refine (g18.block g (by omega) (by exact fun e => Hug.out e.symm)).trans ?_)))) (fun hHeld' => ?_)
      clear hK K hHeld
      have hHeld := hHeld'
      clear hHeld'
      try simp only [Act.put, List.setIfInBounds_toArray, List.set_cons_zero, List.set_cons_succ]
      refine wpAnyK_ready (rs := [11]) (by kernel_rfl) (by simp) ?_
      refine (AllReadyK.cons rfl (fun K hK => ?_) AllReadyK.nil)
      · go_simp
        refine named_alloc (C := K _) ?_
        intro w11 h11 g11 z11 z11a
        have H11 := hide h11
        clear h11
        refine hK.out _ _ (Hcs.out _ (by (repeat (first | exact D1.out _ | refine (g10.block g (by omega) (by simp)).trans ?_ | refine (g11.block g (by omega) (by simp)).trans ?_ | refine (g12.block g (by omega) (by exact fun e => Hbg.out e.symm)).trans ?_ | refine (g17.block g (by omega) (by simp)).trans ?_ | refine (g18.block g (by omega) (by exact fun e => Hug.out e.symm)).trans ?_)))) (fun hHeld' => ?_)
        clear hK K hHeld
        have hHeld := hHeld'
        clear hHeld'
        try simp only [Act.put, List.setIfInBounds_toArray, List.set_cons_zero, List.set_cons_succ]
        refine wpAnyK_ready (rs := [12]) (by kernel_rfl) (by simp) ?_
        refine (AllReadyK.cons rfl (fun K hK => ?_) AllReadyK.nil)
        · rw [if_pos (by rfl)]
          refine op_app 69 rfl (.tmp 62) (.tmp 68) 23 rfl Try.underlying23 infoSB rfl (us := qs.map fun q => .slice (some ⟨q, 0, none⟩) n n) (by rfl) (Hrb.out.keep fun k hk => by
              have k1 := Hlb.out k hk
              have k2 := Hbu.out k hk
              (repeat (first | exact D1.out _ | refine (g10.block k (by omega) (by simp)).trans ?_ | refine (g11.block k (by omega) (by simp)).trans ?_ | refine (g12.block k (by omega) (by simp)).trans ?_ | refine (g17.block k (by omega) (by simp)).trans ?_ | refine (g18.block k (by omega) (by exact fun e => k2 e.symm)).trans ?_))) (by rfl) (Src.new1 (by (repeat (first | exact H11.out | refine (g10.block _ (by omega) (by simp)).trans ?_ | refine (g11.block _ (by omega) (by simp)).trans ?_ | refine (g12.block _ (by omega) (by simp)).trans ?_ | refine (g17.block _ (by omega) (by simp)).trans ?_ | refine (g18.block _ (by omega) (by exact fun e => by have := Hlu.out _ e.symm; omega)).trans ?_)))) (by simp [Value.oneCell']) (by rw [lqs.out]; simp; omega) (by rw [lqs.out]; simp; unfold maxLen; omega) ?_
          intro v1 w12 r12 g12 a12
          have z12 := g12.size
          have R12 := hide r12
          have A12 := hide a12
          clear r12 a12
          refine hK.out _ _ (Hcs.out _ (by (repeat (first | exact D1.out _ | refine (g10.block g (by omega) (by simp)).trans ?_ | refine (g11.block g (by omega) (by simp)).trans ?_ | refine (g12.block g (by omega) (by exact fun e => Hbg.out e.symm)).trans ?_ | refine (g17.block g (by omega) (by simp)).trans ?_ | refine (g18.block g (by omega) (by exact fun e => Hug.out e.symm)).trans ?_)))) (fun hHeld' => ?_)
          clear hK K hHeld
          have hHeld := hHeld'
          clear hHeld'
          try simp only [Act.put, List.setIfInBounds_toArray, List.set_cons_zero, List.set_cons_succ]
          refine wpAnyK_ready (rs := [18]) (by kernel_rfl) (by simp) ?_
          refine (AllReadyK.cons rfl (fun K hK => ?_) AllReadyK.nil)
          · rw [if_pos (by rfl)]
            refine op_app 75 rfl (.tmp 73) (.tmp 74) 65 rfl Try.underlying65 infoBo rfl (us := us.map .bool) (by rfl) (Hru.out.keep fun k hk => by
                have k1 := Hlu.out k hk
                have k2 := fun e => Hbu.out k e hk
                (repeat (first | exact D1.out _ | refine (g10.block k (by omega) (by simp)).trans ?_ | refine (g11.block k (by omega) (by simp)).trans ?_ | refine (g12.block k (by omega) (by exact fun e => k2 e.symm)).trans ?_ | refine (g17.block k (by omega) (by simp)).trans ?_ | refine (g18.block k (by omega) (by simp)).trans ?_))) (by rfl) (Src.new1 (by (repeat (first | exact H17.out | refine (g10.block _ (by omega) (by simp)).trans ?_ | refine (g11.block _ (by omega) (by simp)).trans ?_ | refine (g12.block _ (by omega) (by exact fun e => by have := Hlb.out _ e.symm; omega)).trans ?_ | refine (g17.block _ (by omega) (by simp)).trans ?_ | refine (g18.block _ (by omega) (by simp)).trans ?_)))) (by simp [Value.oneCell']) (by rw [lus.out]; simp; omega) (by rw [lus.out]; simp; unfold maxLen; omega) ?_
            intro v2 w18 r18 g18 a18
            have z18 := g18.size
            have R18 := hide r18
            have A18 := hide a18
            clear r18 a18
            refine hK.out _ _ (Hcs.out _ (by (repeat (first | exact D1.out _ | refine (g10.block g (by omega) (by simp)).trans ?_ | refine (g11.block g (by omega) (by simp)).trans ?_ | refine (g12.block g (by omega) (by exact fun e => Hbg.out e.symm)).trans ?_ | refine (g17.block g (by omega) (by simp)).trans ?_ | refine (g18.block g (by omega) (by exact fun e => Hug.out e.symm)).trans ?_)))) (fun hHeld' => ?_)
            clear hK K hHeld
            have hHeld := hHeld'
            clear hHeld'
            try simp only [Act.put, List.setIfInBounds_toArray, List.set_cons_zero, List.set_cons_succ]
            have hfin := hide (H.out.fresh (Wf := _) (v1 := v1) (v2 := v2) (q := _) (fun k hk n1 n2 => by (repeat (first | exact D1.out _ | refine (g10.block k (by omega) (by simp)).trans ?_ | refine (g11.block k (by omega) (by simp)).trans ?_ | refine (g12.block k (by omega) (by exact fun e => n1 e.symm)).trans ?_ | refine (g17.block k (by omega) (by simp)).trans ?_ | refine (g18.block k (by omega) (by exact fun e => n2 e.symm)).trans ?_))) (by omega) ⟨by (repeat (first | exact D2.out.1 | refine g10.os.trans ?_ | refine g11.os.trans ?_ | refine g12.os.trans ?_ | refine g17.os.trans ?_ | refine g18.os.trans ?_)), by (repeat (first | exact D2.out.2.1 | refine g10.tape.trans ?_ | refine g11.tape.trans ?_ | refine g12.tape.trans ?_ | refine g17.tape.trans ?_ | refine g18.tape.trans ?_)), by (repeat (first | exact D2.out.2.2 | refine g10.output.trans ?_ | refine g11.output.trans ?_ | refine g12.output.trans ?_ | refine g17.output.trans ?_ | refine g18.output.trans ?_))⟩
              (R12.out.keep fun k hk => by
                have k1 := R12.out.lt hk
                have k2 := own_ne A12.out Hlb.out Hbu.out k hk
                (repeat (first | exact (rfl : w12.heap[k]? = w12.heap[k]?) | refine (g10.block k (by omega) (by simp)).trans ?_ | refine (g11.block k (by omega) (by simp)).trans ?_ | refine (g12.block k (by omega) (by simp)).trans ?_ | refine (g17.block k (by omega) (by simp)).trans ?_ | refine (g18.block k (by omega) (by exact fun e => by have := Hlu.out k e.symm; first | exact k2 e.symm this (by omega) | omega)).trans ?_)))
              R18.out
              (by (repeat (first | exact H10.out | refine (g10.block _ (by omega) (by simp)).trans ?_ | refine (g11.block _ (by omega) (by simp)).trans ?_ | refine (g12.block _ (by omega) (by exact fun e => by have := Hlb.out _ e.symm; omega)).trans ?_ | refine (g17.block _ (by omega) (by simp)).trans ?_ | refine (g18.block _ (by omega) (by exact fun e => by have := Hlu.out _ e.symm; omega)).trans ?_))) (by omega)
              (fun k hk => by
                rcases A12.out with e | e
                · exact .inl (e ▸ hk)
                · rw [e] at hk; injection hk with hk; exact .inr ⟨by omega, by omega⟩)
              (fun k hk => by
                have k1 := R18.out.lt hk
                rcases A18.out with e | e
                · exact .inl (e ▸ hk)
                · rw [e] at hk; injection hk with hk; exact .inr ⟨by omega, by omega⟩)
              (fun k h1 h2 => by
                have k1 := R12.out.lt h1
                have k2 := R18.out.lt h2
                rcases A12.out with e | e <;> rcases A18.out with e' | e' <;> rw [e] at h1 <;> rw [e'] at h2
                · exact Hbu.out k h1 h2
                · have := Hlb.out k h1; injection h2 with h2; omega
                · have := Hlu.out k h2; injection h1 with h1; omega
                · injection h1 with h1; injection h2 with h2; omega))
            obtain ⟨A1, c1, e1, -, -⟩ := R12.out.shape
            obtain ⟨A2, c2, e2, -, -⟩ := R18.out.shape
            rw [List.length_append, lqs.out] at e1
            rw [List.length_append, lus.out] at e2
            simp only [List.length_cons, List.length_nil, Nat.zero_add] at e1 e2
            subst e1
            subst e2
            have o1 := hide (own_old A12.out)
            have o2 := hide (own_old A18.out)
            clear H10 H11 H17 R12 R18 A12 A18
            refine wpAnyK_take0 (i := 19) (v := ?_) rfl (by kernel_rfl) (by kernel_rfl) (by kernel_rfl) (by decide) (fun _ _ _ h => h) (Or.inl ⟨by rfl, ?_⟩) (fun _ => by assumption) ?_
            rotate_left
            (focus (intro y hSw; go_simp; first | done | with_reducible rfl))
            (try simp only [Act.put, List.setIfInBounds_toArray, List.set_cons_zero, List.set_cons_succ])
            refine wpAnyK_take0 (i := 20) (v := ?_) rfl (by kernel_rfl) (by kernel_rfl) (by kernel_rfl) (by decide) (fun _ _ _ h => h) (Or.inl ⟨by rfl, ?_⟩) (fun _ => by assumption) ?_
            rotate_left
            (focus (intro y hSw; go_simp; first | done | with_reducible rfl))
            (try simp only [Act.put, List.setIfInBounds_toArray, List.set_cons_zero, List.set_cons_succ])
            obtain ⟨k0, k2, k3, kf2, kf3⟩ := hHeld
            refine wpAnyK_ready (rs := [21]) (by kernel_rfl) (by simp) ?_
            refine AllReadyK.late rfl (by kernel_rfl) (fun K hK => ?_) AllReadyK.nil
            go_simp
            refine hK.out _ _ ?_
            clear hK K
            try simp only [Act.put, List.setIfInBounds_toArray, List.set_cons_zero, List.set_cons_succ]
            refine wpAnyK_ready (rs := [22]) (by kernel_rfl) (by simp) ?_
            refine AllReadyK.late rfl (by kernel_rfl) (fun K hK => ?_) AllReadyK.nil
            go_simp
            refine hK.out _ _ ?_
            clear hK K
            try simp only [Act.put, List.setIfInBounds_toArray, List.set_cons_zero, List.set_cons_succ]
            refine wpAnyK_ready (rs := [23]) (by kernel_rfl) (by simp) ?_
            refine AllReadyK.late rfl (by kernel_rfl) (fun K hK => ?_) AllReadyK.nil
            go_simp
            refine hK.out _ _ ?_
            clear hK K
            try simp only [Act.put, List.setIfInBounds_toArray, List.set_cons_zero, List.set_cons_succ]
            refine wpAnyK_ready (rs := [24]) (by kernel_rfl) (by simp) ?_
            refine AllReadyK.late rfl (by kernel_rfl) (fun K hK => ?_) AllReadyK.nil
            go_simp
            refine hK.out _ _ ?_
            clear hK K
            try simp only [Act.put, List.setIfInBounds_toArray, List.set_cons_zero, List.set_cons_succ]
            clear k0 k2 k3 kf2 kf3
            obtain ⟨W3, hW3⟩ : ∃ W3, W3 = ((w18.setCell ⟨g, 2, none⟩ (.slice A1 (m + 1) c1)).setCell ⟨g, 3, none⟩ (.slice A2 (m + 1) c2)) := ⟨_, rfl⟩
            rw [← hW3]
            rw [← hW3] at hfin
            clear hW3
            refine wpAnyK_done (by kernel_rfl) ?_ _
            have h3 := hfin.out.1
            have Ch3 := hide hfin.out.2
            obtain ⟨h5, ch5⟩ := h3.more (W3.drawn + 1)
            obtain ⟨W4, hW4⟩ : ∃ W4, W4 = W3.setCell ⟨g, 5, none⟩ (.int .i64 ((live : Int) + 1)) := ⟨_, rfl⟩
            have hd4 : W4.drawn = W3.drawn := by rw [hW4]; rfl
            rw [← hW4, ← hd4] at h5 ch5
            obtain ⟨W5, hW5⟩ : ∃ W5, W5 = ({ W4 with drawn := W4.drawn + 1 } : World).setCell ⟨g, 6, none⟩ (.int .i64 (max (peak : Int) ((live : Int) + 1))) := ⟨_, rfl⟩
            rw [← hW5] at h5 ch5
            obtain ⟨-, -, -, -, -, k5, k6⟩ := cells7 h3.head
            have f5 : W3.frozen? ⟨g, 5, none⟩ = false := by simp [World.frozen?, h3.head]
            have hh4 := cset h3.head 5 (.int .i64 ((live : Int) + 1))
            rw [← hW4] at hh4
            have m5 : W4.cell? ⟨g, 5, none⟩ = some (.int .i64 ((live : Int) + 1)) := by rw [cell_of_row W4 g _ _ _ (0, 0) hh4]; simp
            have m6 : W4.cell? ⟨g, 6, none⟩ = some (.int .i64 (peak : Int)) := by rw [cell_of_row W4 g _ _ _ (0, 0) hh4]; simp
            have f6 : W4.frozen? ⟨g, 6, none⟩ = false := by simp [World.frozen?, hh4]
            have H5 := hide h5
            have Ch5 := hide ch5
            have HW4 := hide hW4
            have HW5 := hide hW5
            clear h3 h5 ch5 hW4 hW5 hd4 hh4 c5 c6 hmk hfin
            go_wp2_with fail
            rw [← HW4.out]
            clear k5 k6 f5
            have hmx := fun w ts t => run_maxi Try.prog w ts t (peak : Int) ((live : Int) + 1)
            generalize hM : max (peak : Int) ((live : Int) + 1) = M at hmx HW5
            clear hM
            go_still_tail 12, (by kernel_rfl)
            go_wp2_with fail
            rw [show (W4.setCell ⟨g, 6, none⟩ (.int .i64 M)).drew = W5 from HW5.out.symm]
            refine hR.out _ _ ⟨rfl, _, _, _, H5.out, Ch3.out.trans Ch5.out fun b e => .inl (.inl (e ▸ List.mem_cons_self ..)), by omega, fun k hk => ?_, fun k hk => ?_⟩
            · rcases o1.out k hk with e | e
              · exact .inl e
              · exact .inr (by omega)
            · rcases o2.out k hk with e | e
              · exact .inl e
              · exact .inr (by omega)
  · go_simp
    refine named_alloc (C := K _) ?_
    intro w17 h17 g17 z17 z17a
    have H17 := hide h17
    clear h17
    refine hK.out _ _ (Hcs.out _ (by (repeat (first | exact D1.out _ | refine (g10.block g (by omega) (by simp)).trans ?_ | refine (g11.block g (by omega) (by simp)).trans ?_ | refine (g12.block g (by omega) (by exact fun e => Hbg.out e.symm)).trans ?_ | refine (g17.block g (by omega) (by simp)).trans ?_ | refine (g18.block g (by omega) (by exact fun e => Hug.out e.symm)).trans ?_)))) (fun hHeld' => ?_)
    clear hK K hHeld
    have hHeld := hHeld'
    clear hHeld'
    try simp only [Act.put, List.setIfInBounds_toArray, List.set_cons_zero, List.set_cons_succ]
    refine wpAnyK_ready (rs := [10]) (by kernel_rfl) (by simp) ?_
    refine (AllReadyK.cons rfl (fun K hK => ?_) AllReadyK.nil)
    · go_simp
      refine named_alloc (C := K _) ?_
      intro w10 h10 g10 z10 z10a
      have H10 := hide h10
      clear h10
      refine hK.out _ _ (Hcs.out _ (by (repeat (first | exact D1.out _ | refine (g10.block g (by omega) (by simp)).trans ?_ | refine (g11.block g (by omega) (by simp)).trans ?_ | refine (g12.block g (by omega) (by exact fun e => Hbg.out e.symm)).trans ?_ | refine (g17.block g (by omega) (by simp)).trans ?_ | refine (g18.block g (by omega) (by exact fun e => Hug.out e.symm)).trans ?_)))) (fun hHeld' => ?_)
      clear hK K hHeld
      have hHeld := hHeld'
      clear hHeld'
      try simp only [Act.put, List.setIfInBounds_toArray, List.set_cons_zero, List.set_cons_succ]
      refine wpAnyK_ready (rs := [11]) (by kernel_rfl) (by simp) ?_
      refine (AllReadyK.cons rfl (fun K hK => ?_) AllReadyK.nil)
      · go_simp
        refine named_alloc (C := K _) ?_
        intro w11 h11 g11 z11 z11a
        have H11 := hide h11
        clear h11
        refine hK.out _ _ (Hcs.out _ (by (repeat (first | exact D1.out _ | refine (g10.block g (by omega) (by simp)).trans ?_ | refine (g11.block g (by omega) (by simp)).trans ?_ | refine (g12.block g (by omega) (by exact fun e => Hbg.out e.symm)).trans ?_ | refine (g17.block g (by omega) (by simp)).trans ?_ | refine (g18.block g (by omega) (by exact fun e => Hug.out e.symm)).trans ?_)))) (fun hHeld' => ?_)
        clear hK K hHeld
        have hHeld := hHeld'
        clear hHeld'
        try simp only [Act.put, List.setIfInBounds_toArray, List.set_cons_zero, List.set_cons_succ]
        refine wpAnyK_ready (rs := [12]) (by kernel_rfl) (by simp) ?_
        refine (AllReadyK.cons rfl (fun K hK => ?_) AllReadyK.nil)
        · rw [if_pos (by rfl)]
          refine op_app 69 rfl (.tmp 62) (.tmp 68) 23 rfl Try.underlying23 infoSB rfl (us := qs.map fun q => .slice (some ⟨q, 0, none⟩) n n) (by rfl) (Hrb.out.keep fun k hk => by
              have k1 := Hlb.out k hk
              have k2 := Hbu.out k hk
              (repeat (first | exact D1.out _ | refine (g10.block k (by omega) (by simp)).trans ?_ | refine (g11.block k (by omega) (by simp)).trans ?_ | refine (g12.block k (by omega) (by simp)).trans ?_ | refine (g17.block k (by omega) (by simp)).trans ?_ | refine (g18.block k (by omega) (by exact fun e => k2 e.symm)).trans ?_))) (by rfl) (Src.new1 (by (repeat (first | exact H11.out | refine (g10.block _ (by omega) (by simp)).trans ?_ | refine (g11.block _ (by omega) (by simp)).trans ?_ | refine (g12.block _ (by omega) (by simp)).trans ?_ | refine (g17.block _ (by omega) (by simp)).trans ?_ | refine (g18.block _ (by omega) (by exact fun e => by have := Hlu.out _ e.symm; omega)).trans ?_)))) (by simp [Value.oneCell']) (by rw [lqs.out]; simp; omega) (by rw [lqs.out]; simp; unfold maxLen; omega) ?_
          intro v1 w12 r12 g12 a12
          have z12 := g12.size
          have R12 := hide r12
          have A12 := hide a12
          clear r12 a12
          refine hK.out _ _ (Hcs.out _ (by (repeat (first | exact D1.out _ | refine (g10.block g (by omega) (by simp)).trans ?_ | refine (g11.block g (by omega) (by simp)).trans ?_ | refine (g12.block g (by omega) (by exact fun e => Hbg.out e.symm)).trans ?_ | refine (g17.block g (by omega) (by simp)).trans ?_ | refine (g18.block g (by omega) (by exact fun e => Hug.out e.symm)).trans ?_)))) (fun hHeld' => ?_)
          clear hK K hHeld
          have hHeld := hHeld'
          clear hHeld'
          try simp only [Act.put, List.setIfInBounds_toArray, List.set_cons_zero, List.set_cons_succ]
          refine wpAnyK_ready (rs := [18]) (by kernel_rfl) (by simp) ?_
          refine (AllReadyK.cons rfl (fun K hK => ?_) AllReadyK.nil)
          · rw [if_pos (by rfl)]
            refine op_app 75 rfl (.tmp 73) (.tmp 74) 65 rfl Try.underlying65 infoBo rfl (us := us.map .bool) (by rfl) (Hru.out.keep fun k hk => by
                have k1 := Hlu.out k hk
                have k2 := fun e => Hbu.out k e hk
                (repeat (first | exact D1.out _ | refine (g10.block k (by omega) (by simp)).trans ?_ | refine (g11.block k (by omega) (by simp)).trans ?_ | refine (g12.block k (by omega) (by exact fun e => k2 e.symm)).trans ?_ | refine (g17.block k (by omega) (by simp)).trans ?_ | refine (g18.block k (by omega) (by simp)).trans ?_))) (by rfl) (Src.new1 (by (repeat (first | exact H17.out | refine (g10.block _ (by omega) (by simp)).trans ?_ | refine (g11.block _ (by omega) (by simp)).trans ?_ | refine (g12.block _ (by omega) (by exact fun e => by have := Hlb.out _ e.symm; omega)).trans ?_ | refine (g17.block _ (by omega) (by simp)).trans ?_ | refine (g18.block _ (by omega) (by simp)).trans ?_)))) (by simp [Value.oneCell']) (by rw [lus.out]; simp; omega) (by rw [lus.out]; simp; unfold maxLen; omega) ?_
            intro v2 w18 r18 g18 a18
            have z18 := g18.size
            have R18 := hide r18
            have A18 := hide a18
            clear r18 a18
            refine hK.out _ _ (Hcs.out _ (by (repeat (first | exact D1.out _ | refine (g10.block g (by omega) (by simp)).trans ?_ | refine (g11.block g (by omega) (by simp)).trans ?_ | refine (g12.block g (by omega) (by exact fun e => Hbg.out e.symm)).trans ?_ | refine (g17.block g (by omega) (by simp)).trans ?_ | refine (g18.block g (by omega) (by exact fun e => Hug.out e.symm)).trans ?_)))) (fun hHeld' => ?_)
            clear hK K hHeld
            have hHeld := hHeld'
            clear hHeld'
            try simp only [Act.put, List.setIfInBounds_toArray, List.set_cons_zero, List.set_cons_succ]
            have hfin := hide (H.out.fresh (Wf := _) (v1 := v1) (v2 := v2) (q := _) (fun k hk n1 n2 => by (repeat (first | exact D1.out _ | refine (g10.block k (by omega) (by simp)).trans ?_ | refine (g11.block k (by omega) (by simp)).trans ?_ | refine (g12.block k (by omega) (by exact fun e => n1 e.symm)).trans ?_ | refine (g17.block k (by omega) (by simp)).trans ?_ | refine (g18.block k (by omega) (by exact fun e => n2 e.symm)).trans ?_))) (by omega) ⟨by (repeat (first | exact D2.out.1 | refine g10.os.trans ?_ | refine g11.os.trans ?_ | refine g12.os.trans ?_ | refine g17.os.trans ?_ | refine g18.os.trans ?_)), by (repeat (first | exact D2.out.2.1 | refine g10.tape.trans ?_ | refine g11.tape.trans ?_ | refine g12.tape.trans ?_ | refine g17.tape.trans ?_ | refine g18.tape.trans ?_)), by (repeat (first | exact D2.out.2.2 | refine g10.output.trans ?_ | refine g11.output.trans ?_ | refine g12.output.trans ?_ | refine g17.output.trans ?_ | refine g18.output.trans ?_))⟩
              (R12.out.keep fun k hk => by
                have k1 := R12.out.lt hk
                have k2 := own_ne A12.out Hlb.out Hbu.out k hk
                (repeat (first | exact (rfl : w12.heap[k]? = w12.heap[k]?) | refine (g10.block k (by omega) (by simp)).trans ?_ | refine (g11.block k (by omega) (by simp)).trans ?_ | refine (g12.block k (by omega) (by simp)).trans ?_ | refine (g17.block k (by omega) (by simp)).trans ?_ | refine (g18.block k (by omega) (by exact fun e => by have := Hlu.out k e.symm; first | exact k2 e.symm this (by omega) | omega)).trans ?_)))
              R18.out
              (by (repeat (first | exact H10.out | refine (g10.block _ (by omega) (by simp)).trans ?_ | refine (g11.block _ (by omega) (by simp)).trans ?_ | refine (g12.block _ (by omega) (by exact fun e => by have := Hlb.out _ e.symm; omega)).trans ?_ | refine (g17.block _ (by omega) (by simp)).trans ?_ | refine (g18.block _ (by omega) (by exact fun e => by have := Hlu.out _ e.symm; omega)).trans ?_))) (by omega)
              (fun k hk => by
                rcases A12.out with e | e
                · exact .inl (e ▸ hk)
                · rw [e] at hk; injection hk with hk; exact .inr ⟨by omega, by omega⟩)
              (fun k hk => by
                have k1 := R18.out.lt hk
                rcases A18.out with e | e
                · exact .inl (e ▸ hk)
                · rw [e] at hk; injection hk with hk; exact .inr ⟨by omega, by omega⟩)
              (fun k h1 h2 => by
                have k1 := R12.out.lt h1
                have k2 := R18.out.lt h2
                rcases A12.out with e | e <;> rcases A18.out with e' | e' <;> rw [e] at h1 <;> rw [e'] at h2
                · exact Hbu.out k h1 h2
                · have := Hlb.out k h1; injection h2 with h2; omega
                · have := Hlu.out k h2; injection h1 with h1; omega
                · injection h1 with h1; injection h2 with h2; omega))
            obtain ⟨A1, c1, e1, -, -⟩ := R12.out.shape
            obtain ⟨A2, c2, e2, -, -⟩ := R18.out.shape
            rw [List.length_append, lqs.out] at e1
            rw [List.length_append, lus.out] at e2
            simp only [List.length_cons, List.length_nil, Nat.zero_add] at e1 e2
            subst e1
            subst e2
            have o1 := hide (own_old A12.out)
            have o2 := hide (own_old A18.out)
            clear H10 H11 H17 R12 R18 A12 A18
            refine wpAnyK_take0 (i := 19) (v := ?_) rfl (by kernel_rfl) (by kernel_rfl) (by kernel_rfl) (by decide) (fun _ _ _ h => h) (Or.inl ⟨by rfl, ?_⟩) (fun _ => by assumption) ?_
            rotate_left
            (focus (intro y hSw; go_simp; first | done | with_reducible rfl))
            (try simp only [Act.put, List.setIfInBounds_toArray, List.set_cons_zero, List.set_cons_succ])
            refine wpAnyK_take0 (i := 20) (v := ?_) rfl (by kernel_rfl) (by kernel_rfl) (by kernel_rfl) (by decide) (fun _ _ _ h => h) (Or.inl ⟨by rfl, ?_⟩) (fun _ => by assumption) ?_
            rotate_left
            (focus (intro y hSw; go_simp; first | done | with_reducible rfl))
            (try simp only [Act.put, List.setIfInBounds_toArray, List.set_cons_zero, List.set_cons_succ])
            obtain ⟨k0, k2, k3, kf2, kf3⟩ := hHeld
            refine wpAnyK_ready (rs := [21]) (by kernel_rfl) (by simp) ?_
            refine AllReadyK.late rfl (by kernel_rfl) (fun K hK => ?_) AllReadyK.nil
            go_simp
            refine hK.out _ _ ?_
            clear hK K
            try simp only [Act.put, List.setIfInBounds_toArray, List.set_cons_zero, List.set_cons_succ]
            refine wpAnyK_ready (rs := [22]) (by kernel_rfl) (by simp) ?_
            refine AllReadyK.late rfl (by kernel_rfl) (fun K hK => ?_) AllReadyK.nil
            go_simp
            refine hK.out _ _ ?_
            clear hK K
            try simp only [Act.put, List.setIfInBounds_toArray, List.set_cons_zero, List.set_cons_succ]
            refine wpAnyK_ready (rs := [23]) (by kernel_rfl) (by simp) ?_
            refine AllReadyK.late rfl (by kernel_rfl) (fun K hK => ?_) AllReadyK.nil
            go_simp
            refine hK.out _ _ ?_
            clear hK K
            try simp only [Act.put, List.setIfInBounds_toArray, List.set_cons_zero, List.set_cons_succ]
            refine wpAnyK_ready (rs := [24]) (by kernel_rfl) (by simp) ?_
            refine AllReadyK.late rfl (by kernel_rfl) (fun K hK => ?_) AllReadyK.nil
            go_simp
            refine hK.out _ _ ?_
            clear hK K
            try simp only [Act.put, List.setIfInBounds_toArray, List.set_cons_zero, List.set_cons_succ]
            clear k0 k2 k3 kf2 kf3
            obtain ⟨W3, hW3⟩ : ∃ W3, W3 = ((w18.setCell ⟨g, 2, none⟩ (.slice A1 (m + 1) c1)).setCell ⟨g, 3, none⟩ (.slice A2 (m + 1) c2)) := ⟨_, rfl⟩
            rw [← hW3]
            rw [← hW3] at hfin
            clear hW3
            refine wpAnyK_done (by kernel_rfl) ?_ _
            have h3 := hfin.out.1
            have Ch3 := hide hfin.out.2
            obtain ⟨h5, ch5⟩ := h3.more (W3.drawn + 1)
            obtain ⟨W4, hW4⟩ : ∃ W4, W4 = W3.setCell ⟨g, 5, none⟩ (.int .i64 ((live : Int) + 1)) := ⟨_, rfl⟩
            have hd4 : W4.drawn = W3.drawn := by rw [hW4]; rfl
            rw [← hW4, ← hd4] at h5 ch5
            obtain ⟨W5, hW5⟩ : ∃ W5, W5 = ({ W4 with drawn := W4.drawn + 1 } : World).setCell ⟨g, 6, none⟩ (.int .i64 (max (peak : Int) ((live : Int) + 1))) := ⟨_, rfl⟩
            rw [← hW5] at h5 ch5
            obtain ⟨-, -, -, -, -, k5, k6⟩ := cells7 h3.head
            have f5 : W3.frozen? ⟨g, 5, none⟩ = false := by simp [World.frozen?, h3.head]
            have hh4 := cset h3.head 5 (.int .i64 ((live : Int) + 1))
            rw [← hW4] at hh4
            have m5 : W4.cell? ⟨g, 5, none⟩ = some (.int .i64 ((live : Int) + 1)) := by rw [cell_of_row W4 g _ _ _ (0, 0) hh4]; simp
            have m6 : W4.cell? ⟨g, 6, none⟩ = some (.int .i64 (peak : Int)) := by rw [cell_of_row W4 g _ _ _ (0, 0) hh4]; simp
            have f6 : W4.frozen? ⟨g, 6, none⟩ = false := by simp [World.frozen?, hh4]
            have H5 := hide h5
            have Ch5 := hide ch5
            have HW4 := hide hW4
            have HW5 := hide hW5
            clear h3 h5 ch5 hW4 hW5 hd4 hh4 c5 c6 hmk hfin
            go_wp2_with fail
            rw [← HW4.out]
            clear k5 k6 f5
            have hmx := fun w ts t => run_maxi Try.prog w ts t (peak : Int) ((live : Int) + 1)
            generalize hM : max (peak : Int) ((live : Int) + 1) = M at hmx HW5
            clear hM
            go_still_tail 12, (by kernel_rfl)
            go_wp2_with fail
            rw [show (W4.setCell ⟨g, 6, none⟩ (.int .i64 M)).drew = W5 from HW5.out.symm]
            refine hR.out _ _ ⟨rfl, _, _, _, H5.out, Ch3.out.trans Ch5.out fun b e => .inl (.inl (e ▸ List.mem_cons_self ..)), by omega, fun k hk => ?_, fun k hk => ?_⟩
            · rcases o1.out k hk with e | e
              · exact .inl e
              · exact .inr (by omega)
            · rcases o2.out k hk with e | e
              · exact .inl e
              · exact .inr (by omega)

end
end Go.Proofs.Ythcbjhmckbfkmaa
