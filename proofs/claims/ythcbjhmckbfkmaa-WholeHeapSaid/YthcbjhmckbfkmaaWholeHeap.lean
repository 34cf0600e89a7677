/- WholeHeap, walked. -/
import Derived.Test.YthcbjhmckbfkmaaHeap0
import Derived.Deep.QuietTactic
import Derived.BigQuiet
import Derived.Deep.Cut
import Derived.Deep.CutRange
import Derived.Deep.RegionHeld
set_option linter.unusedVariables false
set_option linter.unusedSimpArgs false
namespace Go.Proofs.Ythcbjhmckbfkmaa
open Go.RowKit

theorem run_min2 (P : Program) (w : World) (ts : Array TypeId) (t : TypeId) (a : Nat) : (Builtin.min_ ts t #[.int .i64 (a : Int), .int .i64 40]).run P w = .ok (.int .i64 ((min a 40 : Nat) : Int)) w := by
  simp [Builtin.min_, Builtin.min2]
  omega
theorem below_t4 {a : Nat} {w w1 w2 : World} (h : Below a w w1) (ha : a ≤ w1.heap.size) (h2 : Below w1.heap.size w1 w2) : Below a w w2 := h.trans (h2.mono ha)
/-- x := [3]; Xor(x, [1]): x is [2]. -/
theorem hspeaks (w : World) : Calls Try.prog 14 #[.slice (some ⟨w.heap.size, 0, none⟩) 1 1, .slice (some ⟨w.heap.size + 2, 0, none⟩) 1 1] (((w.alloc (.cells #[.int .u8 3] 5)).alloc (.cells #[.int .u8 1] 5)).alloc (.cells #[.slice (some ⟨w.heap.size + 1, 0, none⟩) 1 1] 22)) fun e w' =>
    e = .returned (.bool true) ∧ w'.cell? ⟨w.heap.size, 0, none⟩ = some (.int .u8 2) ∧ Below w.heap.size w w' := by
  obtain ⟨w1, hw1⟩ : ∃ w1, w1 = w.alloc (.cells #[.int .u8 3] 5) := ⟨_, rfl⟩
  obtain ⟨w2, hw2⟩ : ∃ w2, w2 = w1.alloc (.cells #[.int .u8 1] 5) := ⟨_, rfl⟩
  have z1 : w1.heap.size = w.heap.size + 1 := by rw [hw1]; simp
  have z2 : w2.heap.size = w.heap.size + 2 := by rw [hw2]; simp [z1]
  have h1 : Wr w1 (some ⟨w.heap.size, 0, none⟩) w.heap.size [] [] 5 [3] := by rw [hw1]; exact Wr.lit w 5 [3]
  have h2 : Wr w2 (some ⟨w1.heap.size, 0, none⟩) w1.heap.size [] [] 5 [1] := by rw [hw2]; exact Wr.lit w1 5 [1]
  rw [z1] at h2
  have b2 : Below w1.heap.size w1 w2 := by rw [hw2]; exact balloc w1 _
  have h3 := RdL.lit1 (w := w2) (w' := w2.alloc (.cells #[.slice (some ⟨w.heap.size + 1, 0, none⟩) 1 1] 22)) (e := 22) (c := 1) (by decide) (by unfold maxLen; omega) h2.rd (fun k hk => by omega) rfl
  rw [z2] at h3
  rw [← hw1, ← hw2]
  have hw : Wr (w2.alloc (.cells #[.slice (some ⟨w.heap.size + 1, 0, none⟩) 1 1] 22)) (some ⟨w.heap.size, 0, none⟩) w.heap.size [] [] 5 [3] := (h1.keep (b2.block _ (by omega))).keep ((balloc w2 _).block _ (by omega))
  refine (xorall_yes (some ⟨w.heap.size, 0, none⟩) w.heap.size [] [] 5 [3] 1 (some ⟨w.heap.size + 2, 0, none⟩) [[1]] 1 _ _ (by unfold maxLen; omega) (by decide) (by unfold maxLen; omega) (by decide) hw (by decide) h3 (fun k hk => by simp; omega)).mono ?_
  rintro e w' ⟨rfl, h4, h5⟩
  have h6 := (h4.cell (i := 0) (by decide)).2.1
  have e6 : ((sumL [3] [[1]])[0].toNat : Int) = 2 := by decide
  rw [e6] at h6
  refine ⟨rfl, h6, ?_⟩
  have hb : Below w.heap.size w (w2.alloc (.cells #[.slice (some ⟨w.heap.size + 1, 0, none⟩) 1 1] 22)) := by
    rw [hw2, hw1]; exact (((balloc w _).alloc (by simp) _).alloc (by simp; omega) _)
  refine (Ch.of_grown h5).below hb (by simp; omega) fun k hk => ?_
  injection hk with hk; omega
theorem zero_xorN (x : List UInt8) : sumL (zs x.length) [x] = x := by
  show xorL (zs x.length) x = x
  apply List.ext_getElem
  · simp [xorL, zs]
  · intro i h1 h2
    simp [xorL, zs]
def encN (i : Nat) : Value := .int .i64 (i : Int)
theorem heap_at {w w9 : World} {t t2 : TypeId} {va vo : Value} {us : List Value} {cells : Array Value} {o2 : Obj} (h : Row w t2 va us) (g9 : (w.alloc (.cells cells t)).grownBy w9 vo.ownBlock) (hd : ∀ z, va.ownBlock = some z → vo.ownBlock ≠ some z) : Row (w9.alloc o2) t2 va us :=
  h.keep fun z hz => by
    have hl := h.lt hz
    have s9 := g9.size
    simp at s9
    exact ((balloc w9 o2).block z (by omega)).trans ((g9.block z (by simp; omega) fun e => hd z hz e.symm).trans ((balloc w _).block z hl))
theorem pair_at {S : Nat → Prop} {w : World} {B : Option Addr} {xs : List (UInt8 × UInt8)} (h : RdL (Kd.seq Kd.byte Kd.byte) S w B xs) {i : Nat} (hi : i < xs.length) : ∃ (b off : Nat) (x y : UInt8), B = some ⟨b, off, none⟩ ∧ S b ∧ w.cell? ⟨b, off + i * 2, none⟩ = some (.int .u8 (x.toNat : Int)) ∧ w.cell? ⟨b, off + i * 2 + 1, none⟩ = some (.int .u8 (y.toNat : Int)) := by
  obtain ⟨b, off, e, hs, hc⟩ := h (by omega)
  obtain ⟨cs, hr, hcell⟩ := hc i xs[i] (List.getElem?_eq_getElem hi)
  obtain ⟨_, _, rfl, ⟨_, rfl, rfl⟩, _, rfl, rfl⟩ := hr
  exact ⟨b, off, xs[i].1, xs[i].2, e, hs, hcell 0 _ rfl, hcell 1 _ rfl⟩
theorem at_cells {w : World} {At : Option Addr} {k ct i j : Nat} (h : Row w 3 (.slice At k ct) ((List.range k).map encN)) (hi : i < k) (hj : j < k) : ∃ b, At = some ⟨b, 0, none⟩ ∧ w.cell? ⟨b, i, none⟩ = some (.int .i64 (i : Int)) ∧ w.cell? ⟨b, j, none⟩ = some (.int .i64 (j : Int)) := by
  obtain ⟨b, c, e, hc, -, -, -⟩ := h.set (i := i) (by simpa using hi) (.bool true)
  obtain ⟨b', c', e', hc', -, -, -⟩ := h.set (i := j) (by simpa using hj) (.bool true)
  injection e with e1 e2 e3
  injection e' with e1' e2' e3'
  have hbb : b' = b := by rw [e1] at e1'; injection e1' with e1'; injection e1' with e1'; exact e1'.symm
  rw [hbb] at hc'
  refine ⟨b, e1, ?_, ?_⟩
  · rw [hc, List.getElem_map, List.getElem_range]; rfl
  · rw [hc', List.getElem_map, List.getElem_range]; rfl
theorem onto_all {k i j : Nat} (hi : i < k) (hj : j < k) : ontoB (List.replicate k true) (i : Int) (j : Int) = decide ((i : Int) ≠ (j : Int)) := by
  simp [ontoB, hasB, hi, hj]
theorem nodup_get {qs : List Nat} (h : qs.Nodup) {i j q : Nat} (hi : qs[i]? = some q) (hj : qs[j]? = some q) : i = j := by
  obtain ⟨l1, e1⟩ := List.getElem?_eq_some_iff.1 hi
  obtain ⟨l2, e2⟩ := List.getElem?_eq_some_iff.1 hj
  have hpw := List.pairwise_iff_getElem.1 h
  rcases Nat.lt_trichotomy i j with h3 | h3 | h3
  · exact absurd (by rw [e1, e2]) (hpw i j l1 l2 h3)
  · exact h3
  · exact absurd (by rw [e1, e2]) (hpw j i l2 l1 h3)
theorem alloc_cell {w : World} {a : Addr} {u : Value} (h : w.cell? a = some u) (o : Obj) : (w.drew.alloc o).cell? a = some u := ((balloc w.drew o).cell (World.block_lt_of_cell? _ _ h)).trans h
theorem undrew2 {w w2 : World} (h : Below w.drew.heap.size w.drew w2) : Below w.heap.size w w2 := ⟨h.os, h.tape, h.output, h.size, h.block⟩
theorem str_of {S : Nat → Prop} {w : World} {A : Option Addr} {x : List UInt8} {n : Nat} (hn : x.length = n) (h : RdL Kd.byte S w A x) (c : Nat) : (convert 22 9 (.slice A n c)).run Try.prog w = .ok (.string (bstr x)) w := by
  rw [← hn]
  exact run_str Try.underlying22 Try.underlying5 Try.underlying9 h.srcB c
theorem str_keep {S : Nat → Prop} {w : World} {A : Option Addr} {x : List UInt8} {n : Nat} {str : ByteArray} (hs : str = bstr x) (hn : x.length = n) (h : RdL Kd.byte S w A x) (c : Nat) : (convert 22 9 (.slice A n c)).run Try.prog w = .ok (.string str) w := by
  rw [hs]; exact str_of hn h c
theorem str_ow {S : Nat → Prop} {w : World} {A : Option Addr} {x : List UInt8} {n m c : Nat} {str : ByteArray} (hs : str = bstr x) (hn : x.length = n) (h : Kd.ow.R S w x [.slice A m c]) : (convert 22 9 (.slice A m c)).run Try.prog w = .ok (.string str) w := by
  obtain ⟨e, h'⟩ := Kd.ow_rd h
  exact str_keep hs e.symm h' c
theorem keep_cell {w w' : World} {a : Addr} {u : Value} (h : w.cell? a = some u) (hb : Below w.heap.size w w') : w'.cell? a = some u := (hb.cell (World.block_lt_of_cell? _ _ h)).trans h
theorem zero_at {w : World} {g : Nat} {i : Int} {bl : List (List UInt8)} {us : List Bool} {x : List UInt8} {zb : Bool} (hz : zb = zeroB x) (hg : got bl us i = x) (hh : hasB us i = true) (h : Calls Try.prog 36 #[.pointer (some ⟨g, 0, none⟩), .int .i64 i] w fun e w' => e = .returned (.bool (hasB us i && zeroB (got bl us i))) ∧ w = w') :
    Calls Try.prog 36 #[.pointer (some ⟨g, 0, none⟩), .int .i64 i] w fun e w' => e = .returned (.bool zb) ∧ w = w' := by
  rw [hh, hg, ← hz, Bool.true_and] at h; exact h
theorem refzero_at {S : Nat → Prop} {w : World} {A : Option Addr} {x : List UInt8} {n : Nat} {zb : Bool} (hz : zb = zeroB x) (hn : x.length = n) (hm : n ≤ maxLen) (h : RdL Kd.byte S w A x) : Calls Try.prog 17 #[.slice A n n] w fun e w' => e = .returned (.bool zb) ∧ w = w' := by
  have := refzero_calls A x n S w hm (by omega) h
  rw [hn, ← hz] at this; exact this
/-- What a block put upon another one leaves, outside and in the arena. -/
theorem heap_xor {w1 w6 w7 : World} {vo va : Value} {qs : List Nat} {n M g k i0 k0 q1 live peak : Nat} {bl : List (List UInt8)} {S : Nat → Prop} {ks : List Value} {o : Obj} (hbl : bl.length = k) (i5 : i0 < k) (i6 : k0 < k) (hne : i0 ≠ k0) (hob : OB w6 vo qs n bl) (hrt : Row w6 3 va ks)
    (hal : AL w1 w6 S g n M (ontoL bl (List.replicate k true) (i0 : Int) (k0 : Int)) (List.replicate k true) [] live peak) (hdo : ∀ z, OB.own vo qs z → ¬ S z ∧ w1.heap.size ≤ z) (hdt : ∀ z, va.ownBlock = some z → ¬ S z ∧ w1.heap.size ≤ z ∧ ¬ OB.own vo qs z)
    (hq1 : qs[i0]? = some q1) (hl1 : (bl[i0]'(by omega)).length = n) (hl2 : (bl[k0]'(by omega)).length = n) (hw : Wr w7 (some ⟨q1, 0, none⟩) q1 [] [] 5 (sumL (bl[i0]'(by omega)) [bl[k0]'(by omega)])) (hg : ((w6.alloc o).drew).grownBy w7 (some q1)) :
    OB w7 vo qs n (bl.set i0 (sumL (bl[i0]'(by omega)) [bl[k0]'(by omega)])) ∧ Row w7 3 va ks ∧ AL w1 w7 S g n M (bl.set i0 (sumL (bl[i0]'(by omega)) [bl[k0]'(by omega)])) (List.replicate k true) [] live peak ∧ (bl.set i0 (sumL (bl[i0]'(by omega)) [bl[k0]'(by omega)])).length = k := by
  have hsl : (sumL (bl[i0]'(by omega)) [bl[k0]'(by omega)]).length = n := sumL_len n _ _ hl1 fun b hb => by simp at hb; rw [hb]; exact hl2
  have hqo : OB.own vo qs q1 := .inl (List.mem_of_getElem? hq1)
  have e7 : ((w6.alloc o).drew).heap.size = w6.heap.size + 1 := by show (w6.alloc o).heap.size = _; simp
  have hs := hg.size
  have hk7 : ∀ z, z < w6.heap.size → z ≠ q1 → w7.heap[z]? = w6.heap[z]? := fun z hz hne => (hg.block z (by omega) fun e => hne (by injection e)).trans ((balloc w6 o).block z hz)
  have hnl : ontoL bl (List.replicate k true) (i0 : Int) (k0 : Int) = bl.set i0 (sumL (bl[i0]'(by omega)) [bl[k0]'(by omega)]) := by
    rw [ontoL, onto_all i5 i6, if_pos (by simp; omega)]
    have g1 : got bl (List.replicate k true) (i0 : Int) = bl[i0]'(by omega) := by simp [got, hasB, i5, hbl]
    have g2 : got bl (List.replicate k true) (k0 : Int) = bl[k0]'(by omega) := by simp [got, hasB, i6, hbl]
    rw [g1, g2]; rfl
  rw [hnl] at hal
  refine ⟨hob.put (w' := w7) hq1 hsl (fun z hz hne => hk7 z (hob.lt hz) hne) (fun hn => by have := (hw (by omega)).2; simpa using this) (by omega), hrt.keep (fun z hz => hk7 z (hrt.lt hz) fun e => (hdt z hz).2.2 (e ▸ hqo)), ?_, by rw [List.length_set]; exact hbl⟩
  refine ((hal.below (balloc w6 o)).below (w' := (w6.alloc o).drew) ⟨rfl, rfl, rfl, Nat.le_refl _, fun _ _ => rfl⟩).keep (Ch.of_grown hg) (fun z hz => ?_) fun z hs hz => ?_
  · injection hz with hz; subst hz; exact (hdo _ hqo).2
  · injection hz with hz; subst hz; exact (hdo _ hqo).1 hs
/-- What two appends leave. -/
theorem heap_state {w1 w7 : World} {vo va : Value} {qs : List Nat} {n M g k z0 live peak : Nat} {cs : List (List UInt8)} {x : List UInt8} {us : List Bool} {ks : List Value} {S : Nat → Prop} (hob : OB w7 vo qs n cs) (hrt : Row w7 3 va ks) (hal : AL w1 w7 S g n M (cs ++ [x]) us [] live peak)
    (hz : w7.heap[z0]? = some (.cells (x.map encB).toArray 5 (0, 0))) (hx : x.length = n) (hdo : ∀ z, OB.own vo qs z → ¬ S z ∧ w1.heap.size ≤ z) (hdt : ∀ z, va.ownBlock = some z → ¬ S z ∧ w1.heap.size ≤ z ∧ ¬ OB.own vo qs z) (hzS : ¬ S z0) (hz1 : w1.heap.size ≤ z0) (hzo : ¬ OB.own vo qs z0) (hzt : va.ownBlock ≠ some z0) :
    ∀ (vo' : Value) (w9 : World), Row w9 22 vo' ((qs.map fun q => .slice (some ⟨q, 0, none⟩) n n) ++ [.slice (some ⟨z0, 0, none⟩) n n]) → (w7.alloc (.cells #[.slice (some ⟨z0, 0, none⟩) n n] 22)).grownBy w9 vo.ownBlock → (vo'.ownBlock = vo.ownBlock ∨ vo'.ownBlock = some (w7.alloc (.cells #[.slice (some ⟨z0, 0, none⟩) n n] 22)).heap.size) →
      ∀ (va' : Value) (w11 : World), Row w11 3 va' (ks ++ [.int .i64 (k : Int)]) → (w9.alloc (.cells #[.int .i64 (k : Int)] 3)).grownBy w11 va.ownBlock → (va'.ownBlock = va.ownBlock ∨ va'.ownBlock = some (w9.alloc (.cells #[.int .i64 (k : Int)] 3)).heap.size) →
      OB w11 vo' (qs ++ [z0]) n (cs ++ [x]) ∧ Row w11 3 va' (ks ++ [.int .i64 (k : Int)]) ∧ AL w1 w11 S g n M (cs ++ [x]) us [] live peak ∧ (∀ z, OB.own vo' (qs ++ [z0]) z → ¬ S z ∧ w1.heap.size ≤ z) ∧ (∀ z, va'.ownBlock = some z → ¬ S z ∧ w1.heap.size ≤ z ∧ ¬ OB.own vo' (qs ++ [z0]) z) := by
  intro vo' w9 hr9 g9 o9 va' w11 hr11 g11 o11
  have s9 := g9.size
  have s11 := g11.size
  have q7 : (w7.alloc (.cells #[.slice (some ⟨z0, 0, none⟩) n n] 22)).heap.size = w7.heap.size + 1 := by simp
  have q9 : (w9.alloc (.cells #[.int .i64 (k : Int)] 3)).heap.size = w9.heap.size + 1 := by simp
  rw [q7] at o9 s9
  rw [q9] at o11 s11
  have hz7 : z0 < w7.heap.size := (Array.getElem?_eq_some_iff.1 hz).1
  have k9 : ∀ z, z < w7.heap.size → vo.ownBlock ≠ some z → w9.heap[z]? = w7.heap[z]? := fun z hl ho => (g9.block z (by omega) fun e => ho e.symm).trans ((balloc w7 _).block z hl)
  have k11 : ∀ z, z < w9.heap.size → va.ownBlock ≠ some z → w11.heap[z]? = w9.heap[z]? := fun z hl ho => (g11.block z (by omega) fun e => ho e.symm).trans ((balloc w9 _).block z hl)
  have hlS : ∀ z, S z → z < w7.heap.size := hal.ar.lt
  have hvo : ∀ z, vo'.ownBlock = some z → vo.ownBlock = some z ∨ z = w7.heap.size + 1 := fun z hz => by
    rcases o9 with e | e
    · exact .inl (e ▸ hz)
    · rw [hz] at e; injection e with e; exact .inr e
  have hva : ∀ z, va'.ownBlock = some z → va.ownBlock = some z ∨ z = w9.heap.size + 1 := fun z hz => by
    rcases o11 with e | e
    · exact .inl (e ▸ hz)
    · rw [hz] at e; injection e with e; exact .inr e
  have hvaq : ∀ z, z ∈ qs → va.ownBlock ≠ some z := fun z hq e => (hdt z e).2.2 (.inl hq)
  have hvavo : ∀ z, vo'.ownBlock = some z → va.ownBlock ≠ some z := fun z h e => by
    rcases hvo z h with h1 | h1
    · exact (hdt z e).2.2 (.inr h1)
    · have := hrt.lt e; omega
  refine ⟨?_, hr11, ?_, ?_, ?_⟩
  · refine hob.push hx (fun z hq => (k11 z (by have := hob.qlt hq; omega) (hvaq z hq)).trans (k9 z (hob.qlt hq) fun e => hob.ov z e hq)) ?_ ?_ (fun hm => hzo (.inl hm)) fun z h => ?_
    · rw [List.map_append]
      exact hr9.keep fun z h => k11 z (hr9.lt h) (hvavo z h)
    · exact ((k11 z0 (by omega) hzt).trans (k9 z0 hz7 fun e => hzo (.inr e))).trans hz
    · rcases hvo z h with h1 | h1
      · exact ⟨hob.ov z h1, fun e => hzo (.inr (e ▸ h1))⟩
      · exact ⟨fun hm => by have := hob.qlt hm; omega, by omega⟩
  · have h8 := hal.below (balloc w7 (.cells #[.slice (some ⟨z0, 0, none⟩) n n] 22))
    have h9 := h8.keep (Ch.of_grown g9) (fun z h => (hdo z (.inr h)).2) fun z hs h => (hdo z (.inr h)).1 hs
    have h10 := h9.below (balloc w9 (.cells #[.int .i64 (k : Int)] 3))
    exact h10.keep (Ch.of_grown g11) (fun z h => (hdt z h).2.1) fun z hs h => (hdt z h).1 hs
  · intro z h
    rcases h with h | h
    · rcases List.mem_append.1 h with h1 | h1
      · exact hdo z (.inl h1)
      · simp at h1; subst h1; exact ⟨hzS, hz1⟩
    · rcases hvo z h with h1 | h1
      · exact hdo z (.inr h1)
      · exact ⟨fun hs => by have := hlS z hs; omega, by have := hal.bel.size; omega⟩
  · intro z h
    rcases hva z h with h1 | h1
    · obtain ⟨a1, a2, a3⟩ := hdt z h1
      refine ⟨a1, a2, fun ho => ?_⟩
      rcases ho with ho | ho
      · rcases List.mem_append.1 ho with h2 | h2
        · exact a3 (.inl h2)
        · simp at h2; subst h2; exact hzt h1
      · exact hvavo z ho h1
    · refine ⟨fun hs => by have := hlS z hs; omega, by have := hal.bel.size; omega, fun ho => ?_⟩
      rcases ho with ho | ho
      · rcases List.mem_append.1 ho with h2 | h2
        · have := hob.qlt h2; omega
        · simp at h2; omega
      · rcases hvo z ho with h2 | h2
        · have := hob.row.lt h2; omega
        · omega
theorem OB.lens {w : World} {v : Value} {qs : List Nat} {n : Nat} {xs : List (List UInt8)} (h : OB w v qs n xs) : ∀ b ∈ xs, b.length = n := by
  intro b hb
  obtain ⟨i, hi, rfl⟩ := List.getElem_of_mem hb
  have hi' : i < qs.length := by rw [h.len]; exact hi
  exact (h.bk i qs[i] xs[i] (List.getElem?_eq_getElem hi') (List.getElem?_eq_getElem hi)).1
theorem heap_sum {w : World} {Ao : Option Addr} {k co n : Nat} {qs : List Nat} {bl : List (List UInt8)} (hob : OB w (.slice Ao k co) qs n bl) (hbl : bl.length = k) (hn : n ≤ 1000000) :
    Calls Try.prog 18 #[.int .i64 (n : Int), .slice Ao k co] w fun e w' => ∃ z, e = .returned (.tuple #[.slice (some ⟨z, 0, none⟩) n n, .bool true]) ∧ Wr w' (some ⟨z, 0, none⟩) z [] [] 5 (sumL (zs n) bl) ∧ z < w'.heap.size ∧ Below w.heap.size w w' := by
  subst hbl
  obtain ⟨A, c, e, h1, h2⟩ := hob.shape
  injection e with e1 e2 e3
  refine (sum_yes n Ao bl co (OB.own (.slice Ao bl.length co) qs) w (by omega) (by rw [e3]; exact h2) (by rw [e3]; exact h1) hob.lens (hob.rd rfl (by unfold maxLen; omega)) (fun k hk => hob.lt hk)).mono ?_
  rintro e' w' ⟨rfl, h3, h4, h5⟩
  exact ⟨_, rfl, h3, h4, h5⟩
theorem heap_rsum {w : World} {Ao : Option Addr} {k co n : Nat} {qs : List Nat} {bl : List (List UInt8)} (hob : OB w (.slice Ao k co) qs n bl) (hbl : bl.length = k) (hn : n ≤ 1000000) :
    Calls Try.prog 16 #[.int .i64 (n : Int), .slice Ao k co] w fun e w' => ∃ z, e = .returned (.slice (some ⟨z, 0, none⟩) n n) ∧ Wr w' (some ⟨z, 0, none⟩) z [] [] 5 (sumL (zs n) bl) ∧ z < w'.heap.size ∧ Below w.heap.size w w' := by
  subst hbl
  obtain ⟨A, c, e, h1, h2⟩ := hob.shape
  injection e with e1 e2 e3
  refine (refsum_calls n Ao bl co (OB.own (.slice Ao bl.length co) qs) w (by omega) (by rw [e3]; exact h2) (by rw [e3]; exact h1) hob.lens (hob.rd rfl (by unfold maxLen; omega)) (fun k hk => hob.lt hk)).mono ?_
  rintro e' w' ⟨rfl, h3, h4, h5⟩
  exact ⟨_, rfl, h3, h4, h5⟩
theorem hp_alloc {w x : World} {o : Obj} (h : Hid (Below w.heap.size w x)) : Hid (Below w.heap.size w (x.alloc o)) := hide (h.out.alloc h.out.size o)
theorem hp_drew {w x : World} (h : Hid (Below w.heap.size w x)) : Hid (Below w.heap.size w x.drew) := hide h.out.drew
section
variable {S : Nat → Prop} {w1 w : World} {g n M i0 q1 ba live peak : Nat} {bl : List (List UInt8)} {us : List Bool} {x : List UInt8} {str : ByteArray} {zb : Bool}
theorem heap_get (hal : AL w1 w S g n M bl us [] live peak) (hn : n ≤ 1000000) (hx : x.length = n) (hg : got bl us (i0 : Int) = x) (y : World) (hb : Below w.heap.size w y) : Calls Try.prog 24 #[.pointer (some ⟨g, 0, none⟩), .int .i64 (i0 : Int)] y fun e w' => ∃ A c, e = .returned (.slice A n c) ∧ Kd.ow.R (fun k => y.heap.size ≤ k ∧ k < w'.heap.size) w' x [.slice A n c] ∧ Below y.heap.size y w' := by
  have h := as_get (i0 : Int) (hal.below hb).ar hn
  rw [hg, hx] at h; exact h
theorem heap_zero (hal : AL w1 w S g n M bl us [] live peak) (hn : n ≤ 1000000) (hz : zb = zeroB x) (hg : got bl us (i0 : Int) = x) (hh : hasB us (i0 : Int) = true) (y : World) (hb : Below w.heap.size w y) : Calls Try.prog 36 #[.pointer (some ⟨g, 0, none⟩), .int .i64 (i0 : Int)] y fun e w' => e = .returned (.bool zb) ∧ y = w' :=
  zero_at hz hg hh (as_zero (i0 : Int) (hal.below hb).ar hn)
theorem heap_rzero (hn : n ≤ 1000000) (hz : zb = zeroB x) (hx : x.length = n) (hq : q1 < w.heap.size) (hr : RdL Kd.byte (fun z => z = q1) w (some ⟨q1, 0, none⟩) x) (y : World) (hb : Below w.heap.size w y) : Calls Try.prog 17 #[.slice (some ⟨q1, 0, none⟩) n n] y fun e w' => e = .returned (.bool zb) ∧ y = w' :=
  refzero_at hz hx (by unfold maxLen; omega) (hr.keep (w' := y) fun z hz => hb.block z (by rw [hz]; exact hq))
theorem heap_s (hs : str = bstr x) (hx : x.length = n) (hq : q1 < w.heap.size) (hr : RdL Kd.byte (fun z => z = q1) w (some ⟨q1, 0, none⟩) x) (hci : w.cell? ⟨ba, i0, none⟩ = some (.int .i64 (i0 : Int))) (y : World) (hb : Below w.heap.size w y) :
    y.cell? ⟨ba, i0, none⟩ = some (.int .i64 (i0 : Int)) ∧ (convert 22 9 (.slice (some ⟨q1, 0, none⟩) n n)).run Try.prog y = .ok (.string str) y :=
  ⟨keep_cell hci hb, str_keep hs hx (hr.keep (w' := y) fun z hz => hb.block z (by rw [hz]; exact hq)) n⟩
theorem heap_c (hs : str = bstr x) (hx : x.length = n) (y : World) (A : Option Addr) (c : Nat) (T : Nat → Prop) (h : Kd.ow.R T y x [.slice A n c]) : (convert 22 9 (.slice A n c)).run Try.prog y = .ok (.string str) y := str_ow hs hx h
theorem heap_cw (hs : str = bstr x) (hx : x.length = n) (hq : q1 < w.heap.size) (hr : Wr w (some ⟨q1, 0, none⟩) q1 [] [] 5 x) (y : World) (hb : Below w.heap.size w y) : (convert 22 9 (.slice (some ⟨q1, 0, none⟩) n n)).run Try.prog y = .ok (.string str) y :=
  str_keep hs hx ((hr.rd).keep (w' := y) fun z hz => hb.block z (by rw [hz]; exact hq)) n
theorem heap_live (hal : AL w1 w S g n M bl us [] live peak) (y : World) (hb : Below w.heap.size w y) : Calls Try.prog 25 #[.pointer (some ⟨g, 0, none⟩)] y fun e w' => e = .returned (.int .i64 (live : Int)) ∧ y = w' := as_live (hal.below hb).ar
theorem heap_rs {Ao : Option Addr} {k co : Nat} {qs : List Nat} (hob : OB w (.slice Ao k co) qs n bl) (hbl : bl.length = k) (hn : n ≤ 1000000) (hx : sumL (zs n) bl = x) (y : World) (hb : Below w.heap.size w y) :
    Calls Try.prog 16 #[.int .i64 (n : Int), .slice Ao k co] y fun e w' => ∃ z, e = .returned (.slice (some ⟨z, 0, none⟩) n n) ∧ Wr w' (some ⟨z, 0, none⟩) z [] [] 5 x ∧ z < w'.heap.size ∧ Below y.heap.size y w' := by
  have h := heap_rsum (hob.keep (w' := y) fun z hz => hb.block z (hob.lt hz)) hbl hn
  rw [hx] at h; exact h
end
set_option maxHeartbeats 8000000 in
set_option maxRecDepth 100000 in
theorem Heap_calls (A : Option Addr) (bls : List (List UInt8)) (c : Nat) (B : Option Addr) (prs : List (UInt8 × UInt8)) (d : Nat) (w : World) (hc : bls.length ≤ c) (hcm : c ≤ maxLen) (hA : RdL (Kd.sl Kd.byte) (· < w.heap.size) w A bls) (hd : prs.length ≤ d) (hdm : d ≤ maxLen) (hB : RdL (Kd.seq Kd.byte Kd.byte) (· < w.heap.size) w B prs) :
    Calls Try.prog 11 #[.slice A bls.length c, .slice B prs.length d] w fun e w' => e = .returned (.bool true) ∧ Below w.heap.size w w' := by
  refine cps fun R hR => ?_
  have Hsp := hide (hspeaks w)
  have HA := hide hA
  have HB := hide hB
  unfold maxLen at hcm hdm
  obtain ⟨M, hM⟩ : ∃ M, M = bls.length := ⟨_, rfl⟩
  obtain ⟨Pn, hPn⟩ : ∃ Pn, Pn = prs.length := ⟨_, rfl⟩
  rw [← hM] at hc ⊢
  rw [← hPn] at hd ⊢
  have HM := hide hM
  have HPn := hide hPn
  clear hM hPn hA hB
  by_cases hM1 : M < 1
  · go_enter Try.func11, Try.ntmps11
    go_wp2_with fail
    refine Hsp.out.mono ?_
    rintro _ w1 ⟨rfl, hc1, hb1⟩
    go_wp2_with fail
    exact hR.out _ _ ⟨rfl, hb1⟩
  by_cases hM20 : 20 < M
  · go_enter Try.func11, Try.ntmps11
    go_wp2_with fail
    refine Hsp.out.mono ?_
    rintro _ w1 ⟨rfl, hc1, hb1⟩
    go_wp2_with fail
    exact hR.out _ _ ⟨rfl, hb1⟩
  by_cases hP100 : 100 < Pn
  · go_enter Try.func11, Try.ntmps11
    go_wp2_with fail
    refine Hsp.out.mono ?_
    rintro _ w1 ⟨rfl, hc1, hb1⟩
    go_wp2_with fail
    exact hR.out _ _ ⟨rfl, hb1⟩
  have hmin := fun (w : World) ts t (a : Nat) => run_min2 Try.prog w ts t a
  obtain ⟨bx, off, u, rfl, hbx, hu, hcx⟩ := HA.out.at1 rfl (i := 0) (by have := HM.out; omega)
  obtain ⟨Bf, cf, rfl, -, -, -⟩ := Kd.sl_cell hu
  obtain ⟨F, hF⟩ : ∃ F, F = (bls[0]'(by have := HM.out; omega)).length := ⟨_, rfl⟩
  rw [← hF] at hcx
  obtain ⟨n, hn⟩ : ∃ n, n = min F 40 := ⟨_, rfl⟩
  have hmin0 := fun (w : World) => run_min2 Try.prog w #[3, 3] 3 F
  rw [← hn] at hmin0
  have hn40 : n ≤ 40 := by omega
  have Hmin := hide hmin0
  clear hmin hu hF hn hmin0
  go_enter Try.func11, Try.ntmps11
  go_wp2_with fail
  refine Hsp.out.mono ?_
  rintro _ w1 ⟨rfl, hc1, hb1⟩
  have hc0 : w1.cell? ⟨bx, off, none⟩ = some (.slice Bf F cf) := (hb1.cell hbx).trans (by simpa using hcx)
  have hmw := Hmin.out w1
  have Hb1 := hide hb1
  clear hb1 hcx Hsp Hmin
  go_wp2_with fail
  refine (al_new (n : Int) (M : Int) w1).mono ?_
  rintro _ w2 ⟨rfl, S2, h2⟩
  rw [Int.toNat_natCast, Int.toNat_natCast] at h2
  obtain ⟨g, hg⟩ : ∃ g, g = w1.heap.size := ⟨_, rfl⟩
  rw [← hg] at h2 ⊢
  have Hg := hide hg
  have H2 := hide h2
  clear h2 hg hc1 hmw hc0
  go_wp2_with fail
  go_loopw [8, 9, 59] (fun own at' i wr => ∃ (k : Nat) (S : Nat → Prop) (qs : List Nat) (Ao : Option Addr) (co : Nat) (At : Option Addr) (ct : Nat), k ≤ M ∧ i = .int .i64 (k : Int) ∧ own = .slice Ao k co ∧ at' = .slice At k ct ∧ OB wr own qs n ((bls.take k).map (padN n)) ∧ Row wr 3 at' ((List.range k).map encN) ∧ AL w1 wr S g n M ((bls.take k).map (padN n)) (List.replicate k true) [] k k ∧ (∀ z, OB.own own qs z → ¬ S z ∧ w1.heap.size ≤ z) ∧ (∀ z, at'.ownBlock = some z → ¬ S z ∧ w1.heap.size ≤ z ∧ ¬ OB.own own qs z)) (fun _ _ i _ => M - (intOf i).toNat)
  case atStart => exact ⟨0, S2, [], none, 0, none, 0, by omega, rfl, rfl, rfl, OB.nil, Row.nil, H2.out, (fun z hz => by rcases hz with hz | hz <;> cases hz), (fun z hz => by cases hz)⟩
  case round =>
    obtain ⟨k, S, qs, Ao, co, At, ct, hk, rfl, rfl, rfl, hob, hrt, hal, hdo, hdt⟩ := hrel
    by_cases hlt : k < M
    · have hkl : k < bls.length := by rw [← HM.out]; exact hlt
      have hbw := below_t4 Hb1.out Hb1.out.size hal.bel
      obtain ⟨by', oy, u, ey, hby, hu, hcy⟩ := HA.out.at1 rfl hkl
      obtain ⟨Bk, ck, rfl, hck, hckm, hrk⟩ := Kd.sl_cell hu
      injection ey with ey
      injection ey with ey1 ey2 ey3
      subst ey1; subst ey2
      clear ey3
      obtain ⟨bk, hbk⟩ : ∃ bk, bk = bls[k] := ⟨_, rfl⟩
      rw [← hbk] at hcy hck hrk
      have hcr : wr.cell? ⟨bx, off + k, none⟩ = some (.slice Bk bk.length ck) := (hbw.cell hby).trans hcy
      have htk : (bls.take (k + 1)).map (padN n) = (bls.take k).map (padN n) ++ [padN n bk] := by
        rw [List.take_succ_eq_append_getElem hkl, List.map_append, hbk]; rfl
      have hmk := make_bytes n (by omega) wr
      obtain ⟨cs, hcs⟩ : ∃ cs, cs = (bls.take k).map (padN n) := ⟨_, rfl⟩
      have hcl : cs.length = k := by rw [hcs, List.length_map, List.length_take]; omega
      rw [← hcs] at htk hob hal
      have Hcl := hide hcl
      have Htk := hide htk
      have Hob := hide hob
      have Hrt := hide hrt
      have Hal := hide hal
      have Hdo := hide hdo
      have Hdt := hide hdt
      have Hrk := hide (hrk.below hbw)
      have Hbw := hide hbw
      obtain ⟨fl, hfl⟩ : ∃ fl, fl = bk.length := ⟨_, rfl⟩
      rw [← hfl] at hcr hck
      have Hfl := hide hfl
      obtain ⟨z0, hz0⟩ : ∃ z0, z0 = wr.heap.size := ⟨_, rfl⟩
      obtain ⟨w3, hw3⟩ : ∃ w3, w3 = wr.alloc (.cells (madeCells #[.int .u8 0] n) 5) := ⟨_, rfl⟩
      have hh3 : w3.heap[z0]? = some (.cells ((zs n).map encB).toArray 5 (0, 0)) := by rw [hw3, hz0, show ((zs n).map encB).toArray = madeCells #[.int .u8 0] n from (made_cells n).symm]; exact heap_alloc_new wr _
      have hb3 : Below wr.heap.size wr w3 := by rw [hw3]; exact balloc wr _
      have HW3 := hide hw3
      have Hz0 := hide hz0
      have Hh3 := hide hh3
      have Hb3 := hide hb3
      have Hcks := hide (show fl ≤ ck ∧ ck ≤ maxLen from ⟨hck, hckm⟩)
      obtain ⟨cs0, hcs0⟩ : ∃ cs0, cs0 = (bk.take n).map encB := ⟨_, rfl⟩
      have hln := hide (show cs0.length = Nat.min fl n by rw [hcs0, List.length_map, List.length_take, hfl]; exact Nat.min_comm ..)
      have hone := hide (show ∀ v ∈ cs0, v.oneCell' = true by rw [hcs0]; exact encB_one _)
      have hsr := hide (show 0 < cs0.length → (some ⟨z0, 0, none⟩ : Option Addr) = some ⟨z0, 0, none⟩ ∧ ∃ ad, Bk = some ad ∧ ∀ j v, cs0[j]? = some v → w3.cell? (ad.add j) = some v from fun hp => by
        obtain ⟨ad, e, hc'⟩ := ((Hrk.out.take n).keep (w' := w3) fun z hz => hb3.block z (by have := Hbw.out.size; omega)).srcB (by rw [← hcs0]; exact hp)
        exact ⟨rfl, ad, e, fun j v hv => hc' j v (by rw [← hcs0]; exact hv)⟩)
      have hfit := hide (show 0 + cs0.length ≤ ((zs n).map encB).length by rw [hcs0]; simp [zs]; omega)
      have hspl := hide (show splice ((zs n).map encB) 0 cs0 = (padN n bk).map encB by
        rw [hcs0]
        unfold splice padN zs
        simp
        omega)
      clear hcs0
      clear hkl hbw hcs hcl htk hob hal hrt hdo hdt hrk hu hcy hbk hfl hz0 hw3 hh3 hb3 hck hckm
      go_upto_region 14 with fail
      rw [← HW3.out, ← Hz0.out]
      clear HW3 hmk
      go_wp2_with (with_reducible refine wpList_copy_splice rfl (.tmp 65) (.tmp 66) 22 22 rfl 5 Try.underlying22 (by kernel_rfl) (some ⟨z0, 0, none⟩) Bk n n fl ck rfl rfl z0 0 ((zs n).map encB) 5 Hh3.out cs0 hln.out hsr.out hfit.out hone.out z0 w3 (Below.refl _ _) (Nat.le_refl _) ?_; intro w4 hg4 hb4)
      have hz := Hz0.out
      have hbr4 : Below wr.heap.size wr w4 := Hb3.out.trans (by rw [← hz]; exact hb4)
      have hh4 : w4.heap[z0]? = some (.cells ((padN n bk).map encB).toArray 5 (0, 0)) := by rw [← hspl.out]; exact hg4.out
      have hz4 : z0 < w4.heap.size := (Array.getElem?_eq_some_iff.1 hh4).1
      have hal4 := hide (al_fresh (Hal.out.below hbr4) rfl (by rw [Hcl.out]; exact hlt) (by omega) (by rw [Hcl.out]; omega) (by omega) (by omega))
      rw [Hcl.out] at hal4
      have Hbr4 := hide hbr4
      have Hh4 := hide hh4
      have Hz4 := hide hz4
      clear hz hbr4 hh4 hz4 hg4 hb4 hln hone hsr hfit hspl Hh3 Hb3
      go_wp2_with fail
      refine hal4.out.mono ?_
      rintro _ w5 ⟨rfl, S5, h5, hst5⟩
      have hz0S : ¬ S z0 := fun hs => by have := Hal.out.ar.lt z0 hs; have := Hz0.out; omega
      have hz0S5 : ¬ S5 z0 := fun hs => by
        rcases hst5.new z0 hs with h1 | h1
        · exact hz0S h1
        · have := Hz4.out; omega
      have hh5 : w5.heap[z0]? = some (.cells ((padN n bk).map encB).toArray 5 (0, 0)) := (hst5.ch.block z0 Hz4.out hz0S).trans Hh4.out
      have hz5 : z0 < w5.heap.size := (Array.getElem?_eq_some_iff.1 hh5).1
      have hr5 : RdL Kd.byte (fun z => z = z0) w5 (some ⟨z0, 0, none⟩) (padN n bk) := (blk_wr (padN_len n bk) fun _ => hh5).rd
      obtain ⟨w6, hw6⟩ : ∃ w6, w6 = w5.alloc (.cells #[.slice (some ⟨z0, 0, none⟩) n n] 22) := ⟨_, rfl⟩
      have hb6 : Below w5.heap.size w5 w6 := by rw [hw6]; exact balloc w5 _
      have hl6 : RdL (Kd.sl Kd.byte) (fun z => z = z0 ∨ z = w5.heap.size) w6 (some ⟨w5.heap.size, 0, none⟩) [padN n bk] := RdL.lit1 (c := n) (by rw [padN_len]; exact Nat.le_refl _) (by unfold maxLen; omega) hr5 (fun z hz => by omega) (by rw [padN_len]; exact hw6)
      have hput := al_put k (some ⟨w5.heap.size, 0, none⟩) [padN n bk] 1 (fun z => z = z0 ∨ z = w5.heap.size) (h5.below hb6) (by simp [hasB]) (by omega) (by unfold maxLen; omega) (by simp) hl6 (fun z hz => by
        rcases hz with rfl | rfl
        · exact ⟨by have := hb6.size; omega, hz0S5⟩
        · exact ⟨by rw [hw6]; simp, fun hs => by have := h5.ar.lt _ hs; omega⟩) (fun b hb => by simp at hb; rw [hb]; exact padN_len n bk)
      have hbl : ((cs ++ [zs n]).set k (sumL (got (cs ++ [zs n]) (List.replicate k true ++ [true]) (k : Int)) [padN n bk])) = cs ++ [padN n bk] := by
        have hg : got (cs ++ [zs n]) (List.replicate k true ++ [true]) (k : Int) = zs n := by
          simp [got, hasB, Hcl.out]
        rw [hg]
        have hx : sumL (zs n) [padN n bk] = padN n bk := by
          have := zero_xorN (padN n bk)
          rw [padN_len] at this
          exact this
        rw [hx, List.set_append, if_neg (by rw [Hcl.out]; omega), Hcl.out, Nat.sub_self]; rfl
      rw [hbl] at hput
      have Hput := hide hput
      have HW6 := hide hw6
      have Hst5 := hide hst5
      have Hb6 := hide hb6
      have Hh5 := hide hh5
      have HzS5 := hide hz0S5
      clear hbl hput hw6 hst5 hb6 hh5 hz0S hz0S5 hz5 hr5 hl6 h5 hal4
      go_wp2_with fail
      rw [← HW6.out]
      clear HW6
      refine Hput.out.mono ?_
      rintro _ w7 ⟨rfl, h7, hst7⟩
      have h07 : ∀ z, z < wr.heap.size → ¬ S z → w7.heap[z]? = wr.heap[z]? := fun z hz hs => by
        have s4 := Hbr4.out.size
        have s5 := Hst5.out.ch.size
        have s6 := Hb6.out.size
        have hs5 : ¬ S5 z := fun h => by
          rcases Hst5.out.new z h with h1 | h1
          · exact hs h1
          · omega
        exact (((hst7.ch.block z (by omega) hs5).trans (Hb6.out.block z (by omega))).trans (Hst5.out.ch.block z (by omega) hs)).trans (Hbr4.out.block z hz)
      have hsz7 : wr.heap.size < w7.heap.size := by
        have s4 := Hbr4.out.size
        have s5 := Hst5.out.ch.size
        have s6 := Hb6.out.size
        have s7 := hst7.ch.size
        have := Hz0.out
        have := Hz4.out
        omega
      have hS5 : ∀ z, S5 z → S z ∨ wr.heap.size ≤ z := fun z hz => (Hst5.out.new z hz).imp id fun h1 => by have := Hbr4.out.size; omega
      have hz7 : w7.heap[z0]? = some (.cells ((padN n bk).map encB).toArray 5 (0, 0)) := (hst7.ch.block z0 (by have := (Array.getElem?_eq_some_iff.1 Hh5.out).1; have := Hb6.out.size; omega) HzS5.out).trans ((Hb6.out.block z0 (Array.getElem?_eq_some_iff.1 Hh5.out).1).trans Hh5.out)
      have hob7 : OB w7 (.slice Ao k co) qs n cs := Hob.out.keep fun z hz => h07 z (Hob.out.lt hz) (Hdo.out z hz).1
      have hrt7 : Row w7 3 (.slice At k ct) ((List.range k).map encN) := Hrt.out.keep fun z hz => h07 z (Hrt.out.lt hz) (Hdt.out z hz).1
      have ex7 := hide (heap_state (k := k) hob7 hrt7 h7 hz7 (by rw [padN_len]) (fun z hz => ⟨fun h => by
          rcases hS5 z h with h1 | h1
          · exact (Hdo.out z hz).1 h1
          · have := Hob.out.lt hz; omega, (Hdo.out z hz).2⟩) (fun z hz => ⟨fun h => by
          rcases hS5 z h with h1 | h1
          · exact (Hdt.out z hz).1 h1
          · have := Hrt.out.lt hz; omega, (Hdt.out z hz).2⟩) HzS5.out (by have := Hz0.out; have := Hal.out.bel.size; omega) (fun h => by have := Hob.out.lt h; have := Hz0.out; omega) (fun h => by have := Hrt.out.lt h; have := Hz0.out; omega))
      have b8 := balloc w7 (.cells #[.slice (some ⟨z0, 0, none⟩) n n] 22)
      have r8 := hide (hob7.row.keep (w' := w7.alloc (.cells #[.slice (some ⟨z0, 0, none⟩) n n] 22)) fun z hz => b8.block z (hob7.row.lt hz))
      have s8 := hide (Src.lit1 w7 (.slice (some ⟨z0, 0, none⟩) n n) 22)
      have hql := hide (show (qs.map fun q => Value.slice (some ⟨q, 0, none⟩) n n).length = k by rw [List.length_map, hob7.len, Hcl.out])
      have hkk := hide (show ((List.range k).map encN).length = k by simp)
      have Hrt7 := hide hrt7
      clear h07 hsz7 hS5 hz7 hob7 hrt7 b8 h7 hst7 Hput Hst5 Hb6 Hh5 Hbr4 Hh4
      go_wp2_with (at_builtin; with_reducible refine wp_app 86 rfl rfl (.tmp 83) (.tmp 85) 23 rfl Try.underlying23 infoSB ?_ (us := qs.map fun q => .slice (some ⟨q, 0, none⟩) n n) ?_ r8.out (A := some ⟨w7.heap.size, 0, none⟩) (c := 1) (news := [.slice (some ⟨z0, 0, none⟩) n n]) ?_ s8.out ?_ ?_ ?_ ?_)
      all_goals first | rfl | (intro u hu; simp at hu; subst hu; rfl) | (rw [hql.out, List.length_singleton]; omega) | (rw [hql.out, List.length_singleton]; unfold maxLen; omega) | skip
      intro v9 w9 hr9 g9 o9
      obtain ⟨A9, c9, rfl, -, -⟩ := hr9.shape
      have el9 : ((qs.map fun q => Value.slice (some ⟨q, 0, none⟩) n n) ++ [Value.slice (some ⟨z0, 0, none⟩) n n]).length = k + 1 := by rw [List.length_append, hql.out]; rfl
      rw [el9] at hr9 o9 ⊢
      have hr10 := hide (heap_at Hrt7.out g9 (cells := #[.slice (some ⟨z0, 0, none⟩) n n]) (t := 22) (o2 := .cells #[.int .i64 (k : Int)] 3) (fun z hz h => (Hdt.out z hz).2.2 (.inr h)))
      have s10 := hide (Src.lit1 w9 (.int .i64 (k : Int)) 3)
      have Hr9 := hide hr9
      have G9 := hide g9
      have O9 := hide o9
      clear hr9 g9 o9 el9
      go_wp2_with (at_builtin; with_reducible refine wp_app 90 rfl rfl (.tmp 87) (.tmp 89) 37 rfl Try.underlying37 infoI ?_ (us := (List.range k).map encN) ?_ hr10.out (A := some ⟨w9.heap.size, 0, none⟩) (c := 1) (news := [.int .i64 (k : Int)]) ?_ s10.out ?_ ?_ ?_ ?_)
      all_goals first | rfl | (intro u hu; simp at hu; subst hu; rfl) | (rw [hkk.out, List.length_singleton]; omega) | (rw [hkk.out, List.length_singleton]; unfold maxLen; omega) | skip
      intro v11 w11 hr11 g11 o11
      obtain ⟨A11, c11, rfl, -, -⟩ := hr11.shape
      have el11 : ((List.range k).map encN ++ [Value.int .i64 (k : Int)]).length = k + 1 := by rw [List.length_append, hkk.out]; rfl
      rw [el11] at hr11 o11 ⊢
      have Hend := hide (ex7.out (.slice A9 (k + 1) c9) w9 Hr9.out G9.out O9.out (.slice A11 (k + 1) c11) w11 hr11 g11 o11)
      clear hr11 g11 o11 el11
      go_wp2_with fail
      obtain ⟨e1, e2, e3, e4, e5⟩ := Hend.out
      refine ⟨⟨k + 1, S5, qs ++ [z0], A9, c9, A11, c11, by omega, by rw [Int.natCast_succ], rfl, rfl, by rw [Htk.out]; exact e1, by rw [List.range_succ, List.map_append]; exact e2, ?_, e4, e5⟩, by simp only [intOf]; omega⟩
      rw [Htk.out, List.replicate_succ']
      rw [show max k (k + 1) = k + 1 by omega] at e3
      exact e3
    · obtain rfl : k = M := by omega
      have hfull : bls.take k = bls := List.take_of_length_le (by rw [← HM.out]; exact Nat.le_refl _)
      rw [hfull] at hob hal
      obtain ⟨bl, hbl⟩ : ∃ bl, bl = bls.map (padN n) := ⟨_, rfl⟩
      have hbll : bl.length = k := by rw [hbl, List.length_map, ← HM.out]
      rw [← hbl] at hob hal
      clear hbl hfull
      have Hob := hide hob
      have Hrt := hide hrt
      have Hal := hide hal
      have Hdo := hide hdo
      have Hdt := hide hdt
      have Hbll := hide hbll
      have hk1 : 1 ≤ k := by omega
      have hk20 : k ≤ 20 := by omega
      clear hob hrt hal hdo hdt hbll hM1 hM20 hlt hk
      obtain ⟨wo, hwo⟩ : ∃ wo : World, wo = wr := ⟨_, rfl⟩
      rw [← hwo] at Hob Hrt Hal ⊢
      clear hwo
      go_wp2_with fail
      go_loopw [94] (fun i wr => ∃ (p : Nat) (bl : List (List UInt8)), p ≤ Pn ∧ i = .int .i64 (p : Int) ∧ OB wr (.slice Ao k co) qs n bl ∧ Row wr 3 (.slice At k ct) ((List.range k).map encN) ∧ AL w1 wr S g n k bl (List.replicate k true) [] k k ∧ bl.length = k) (fun i _ => Pn - (intOf i).toNat)
      case atStart => exact ⟨0, bl, by omega, rfl, Hob.out, Hrt.out, Hal.out, Hbll.out⟩
      case round =>
        obtain ⟨p, bl2, hp, rfl, hob, hrt, hal, hbl2⟩ := hrel
        clear Hob Hrt Hal Hbll
        have hbw := below_t4 Hb1.out Hb1.out.size hal.bel
        by_cases hlt : p < Pn
        · have hpl : p < prs.length := by rw [← HPn.out]; exact hlt
          obtain ⟨bp, op, x, y, rfl, hbp, hcx, hcy⟩ := pair_at HB.out hpl
          have qx : wr.cell? ⟨bp, op + p * 2, none⟩ = some (.int .u8 (x.toNat : Int)) := (hbw.cell hbp).trans hcx
          have qy : wr.cell? ⟨bp, op + p * 2 + 1, none⟩ = some (.int .u8 (y.toNat : Int)) := (hbw.cell hbp).trans hcy
          obtain ⟨i0, hi0⟩ : ∃ i0, i0 = x.toNat % k := ⟨_, rfl⟩
          obtain ⟨k0, hk0⟩ : ∃ k0, k0 = y.toNat % k := ⟨_, rfl⟩
          have hil : i0 < k := by rw [hi0]; exact Nat.mod_lt _ (by omega)
          have hkl : k0 < k := by rw [hk0]; exact Nat.mod_lt _ (by omega)
          have hxm : ((x.toNat : Int)).tmod (k : Int) = (i0 : Int) := by rw [Int.tmod_eq_emod_of_nonneg (by omega), hi0]; simp
          have hym : ((y.toNat : Int)).tmod (k : Int) = (k0 : Int) := by rw [Int.tmod_eq_emod_of_nonneg (by omega), hk0]; simp
          have hxm' : ((x.toNat : Int)) % (k : Int) = (i0 : Int) := by rw [hi0]; simp
          have hym' : ((y.toNat : Int)) % (k : Int) = (k0 : Int) := by rw [hk0]; simp
          obtain ⟨xn, hxn⟩ : ∃ xn : Int, xn = (x.toNat : Int) := ⟨_, rfl⟩
          obtain ⟨yn, hyn⟩ : ∃ yn : Int, yn = (y.toNat : Int) := ⟨_, rfl⟩
          have hxb : 0 ≤ xn ∧ xn < 256 := by have := x.toNat_lt; omega
          have hyb : 0 ≤ yn ∧ yn < 256 := by have := y.toNat_lt; omega
          rw [← hxn] at qx hxm hxm'
          rw [← hyn] at qy hym hym'
          obtain ⟨w3, hw3⟩ : ∃ w3, w3 = wr.alloc (.cells #[.int .u8 xn, .int .u8 yn] 62) := ⟨_, rfl⟩
          have hb3 : Below wr.heap.size wr w3 := by rw [hw3]; exact balloc wr _
          have hh3 : w3.heap[wr.heap.size]? = some (.cells #[.int .u8 xn, .int .u8 yn] 62 (0, 0)) := by rw [hw3]; exact heap_alloc_new wr _
          have z0 : w3.cell? ⟨wr.heap.size, 0, none⟩ = some (.int .u8 xn) := by rw [cell_of_row _ _ 0 _ _ _ hh3]; rfl
          have z1 : w3.cell? ⟨wr.heap.size, 1, none⟩ = some (.int .u8 yn) := by rw [cell_of_row _ _ 1 _ _ _ hh3]; rfl
          have HW3 := hide hw3
          have Hb3 := hide hb3
          have Hob := hide (hob.keep (w' := w3) fun z hz => hb3.block z (hob.lt hz))
          have Hrt := hide (hrt.keep (w' := w3) fun z hz => hb3.block z (hrt.lt hz))
          have Hal := hide (hal.below hb3)
          have Hbl2 := hide hbl2
          have Hil := hide (show i0 < k ∧ k0 < k from ⟨hil, hkl⟩)
          clear hpl hcx hcy hi0 hk0 hxn hyn hw3 hb3 hh3 hob hrt hal hbl2 hbw
          go_upto_region 23 with fail
          rw [← HW3.out]
          clear HW3 qx qy
          go_quiet (fail)
          go_wp2_with fail
          obtain ⟨w4, hw4⟩ : ∃ w4, w4 = w3.drewN nq := ⟨_, rfl⟩
          have hb4 : Below w3.heap.size w3 w4 := by rw [hw4]; exact ⟨rfl, rfl, rfl, Nat.le_refl _, fun _ _ => rfl⟩
          rw [← hw4]
          clear hw4 z0 z1 hxm hym hxm' hym'
          have hob4 := Hob.out.keep (w' := w4) fun z hz => hb4.block z (Hob.out.lt hz)
          have hrt4 := Hrt.out.keep (w' := w4) fun z hz => hb4.block z (Hrt.out.lt hz)
          have hal4 := Hal.out.below hb4
          obtain ⟨ba, hAt, hci, hck⟩ := at_cells hrt4 Hil.out.1 Hil.out.2
          subst hAt
          have hon := al_onto (i0 : Int) (k0 : Int) (hal4.below (w' := w4.drew) ⟨rfl, rfl, rfl, Nat.le_refl _, fun _ _ => rfl⟩) (by omega)
          rw [onto_all Hil.out.1 Hil.out.2] at hon
          have Hon := hide hon
          have Hob4 := hide hob4
          have Hrt4 := hide hrt4
          have Hb34 := hide (below_t4 Hb3.out Hb3.out.size hb4)
          clear hon hob4 hrt4 hal4 hb4 Hob Hrt Hal
          have i1 : (0 : Int) ≤ (i0 : Int) := by omega
          have i2 : (i0 : Int) < (k : Int) := by have := Hil.out; omega
          have i3 : (0 : Int) ≤ (k0 : Int) := by omega
          have i4 : (k0 : Int) < (k : Int) := by have := Hil.out; omega
          have i5 : i0 < k := Hil.out.1
          have i6 : k0 < k := Hil.out.2
          by_cases hik : i0 = k0
          · have hd : decide ((i0 : Int) ≠ (k0 : Int)) = false := by simp; omega
            have hn1 : ((i0 : Int) != (k0 : Int)) = false := by simp; omega
            rw [hd] at Hon
            clear hd hik
            go_region_law ((go_simp; refine Hon.out.mono ?_; rintro _ w5 ⟨rfl, h5, hs5⟩; have H5 := hide h5; have Hs5 := hide hs5; clear h5 hs5))
            all_goals
              go_wp2_with fail
              have hnl : ontoL bl2 (List.replicate k true) (i0 : Int) (k0 : Int) = bl2 := by
                rw [ontoL, onto_all i5 i6]; simp at hn1; simp [hn1]
              have h5 := H5.out
              rw [hnl] at h5
              exact ⟨⟨p + 1, bl2, by omega, by rw [Int.natCast_succ], Hob4.out.keep (fun z hz => Hs5.out.ch.block z (Hob4.out.lt hz) (Hdo.out z hz).1), Hrt4.out.keep (fun z hz => Hs5.out.ch.block z (Hrt4.out.lt hz) (Hdt.out z hz).1), h5, Hbl2.out⟩, by simp only [intOf]; omega⟩
          · have hd : decide ((i0 : Int) ≠ (k0 : Int)) = true := by simp; omega
            have hn1 : ((i0 : Int) != (k0 : Int)) = true := by simp; omega
            have Hik := hide hik
            rw [hd] at Hon
            clear hd hik
            go_region_law ((go_simp; refine Hon.out.mono ?_; rintro _ w5 ⟨rfl, h5, hs5⟩; have H5 := hide h5; have Hs5 := hide hs5; clear h5 hs5))
            all_goals
              obtain ⟨w6, hw6⟩ : ∃ w6 : World, w6 = w5 := ⟨_, rfl⟩
              rw [← hw6] at H5 Hs5 ⊢
              clear hw6
              go_wp2_with fail
              have hob5 := Hob4.out.keep (w' := w6) fun z hz => Hs5.out.ch.block z (Hob4.out.lt hz) (Hdo.out z hz).1
              obtain ⟨bo, co1, q1, eo1, ho1, hq1, hc1, hl1, hwr1⟩ := hob5.at (i := i0) (by rw [Hbl2.out]; exact i5)
              obtain ⟨bo', co2, q2, eo2, ho2, hq2, hc2, hl2, hwr2⟩ := hob5.at (i := k0) (by rw [Hbl2.out]; exact i6)
              rw [ho1] at ho2
              obtain rfl : bo = bo' := by injection ho2
              have hqq : q1 ≠ q2 := fun e => Hik.out (nodup_get hob5.nd hq1 (e ▸ hq2))
              injection eo1 with eA eB eC
              subst eA
              clear eB eC eo2
              have hq1l := hob5.ql q1 (List.mem_of_getElem? hq1)
              have hq2l := hob5.ql q2 (List.mem_of_getElem? hq2)
              have hrow : RdL (Kd.sl Kd.byte) (fun z => z = q2 ∨ z = w6.drew.heap.size) (w6.drew.alloc (.cells #[.slice (some ⟨q2, 0, none⟩) n n] 22)) (some ⟨w6.drew.heap.size, 0, none⟩) [bl2[k0]'(by rw [Hbl2.out]; exact i6)] :=
                RdL.lit1 (w := w6.drew) (c := n) (by omega) (by unfold maxLen; omega) (hwr2.rd.keep fun _ _ => rfl) (fun z hz => by rw [hz]; exact hq2l) (by rw [hl2])
              have hxr := xorall_yes (some ⟨q1, 0, none⟩) q1 [] [] 5 (bl2[i0]'(by rw [Hbl2.out]; exact i5)) n (some ⟨w6.drew.heap.size, 0, none⟩) [bl2[k0]'(by rw [Hbl2.out]; exact i6)] 1 (fun z => z = q2 ∨ z = w6.drew.heap.size) (w6.drew.alloc (.cells #[.slice (some ⟨q2, 0, none⟩) n n] 22)) (by unfold maxLen; omega) (by omega) (by unfold maxLen; omega) (by simp) (hwr1.keep ((balloc w6.drew _).block q1 hq1l)) (fun b hb => by simp at hb; rw [hb, hl1, hl2]) hrow (fun z hz => by
                have hsz : w6.drew.heap.size = w6.heap.size := rfl
                rcases hz with rfl | rfl
                · exact ⟨by simp; omega, fun e => hqq e.symm⟩
                · exact ⟨by simp, by omega⟩)
              rw [hl1] at hxr
              have Hxr := hide (show Calls Try.prog 14 #[.slice (some ⟨q1, 0, none⟩) n n, .slice (some ⟨w6.heap.size, 0, none⟩) 1 1] ((w6.alloc (.cells #[.slice (some ⟨q2, 0, none⟩) n n] 22)).drew) fun e w' => e = .returned (.bool true) ∧ Wr w' (some ⟨q1, 0, none⟩) q1 [] [] 5 (sumL (bl2[i0]'(by rw [Hbl2.out]; exact i5)) [bl2[k0]'(by rw [Hbl2.out]; exact i6)]) ∧ ((w6.alloc (.cells #[.slice (some ⟨q2, 0, none⟩) n n] 22)).drew).grownBy w' (some q1) from hxr)
              have Hob5 := hide hob5
              have Hq1 := hide (show qs[i0]? = some q1 ∧ (bl2[i0]'(by rw [Hbl2.out]; exact i5)).length = n ∧ (bl2[k0]'(by rw [Hbl2.out]; exact i6)).length = n ∧ q1 < w6.heap.size from ⟨hq1, hl1, hl2, hq1l⟩)
              have ca1 : ((w6.alloc (.cells #[.slice (some ⟨q2, 0, none⟩) n n] 22)).drew).cell? ⟨bo, i0, none⟩ = some (.slice (some ⟨q1, 0, none⟩) n n) := alloc_cell hc1 (.cells #[.slice (some ⟨q2, 0, none⟩) n n] 22)
              clear hob5 hq1 hq2 hwr1 hwr2 hrow hxr hqq hq1l hq2l ho1 ho2
              go_region_law ((go_simp; refine Hxr.out.mono ?_; rintro _ w7 ⟨rfl, hw7, hg7⟩; have Hw7 := hide hw7; have Hg7 := hide hg7; clear hw7 hg7))
              all_goals
                go_wp2_with fail
                obtain ⟨e1, e2, e3, e4⟩ := heap_xor Hbl2.out i5 i6 (by simp at hn1; exact fun e => hn1 (by rw [e])) Hob5.out (Hrt4.out.keep (w' := w6) fun z hz => Hs5.out.ch.block z (Hrt4.out.lt hz) (Hdt.out z hz).1) H5.out Hdo.out Hdt.out Hq1.out.1 Hq1.out.2.1 Hq1.out.2.2.1 Hw7.out Hg7.out
                exact ⟨⟨p + 1, _, by omega, by rw [Int.natCast_succ], e1, e2, e3, e4⟩, by simp only [intOf]; omega⟩
        · obtain rfl : p = Pn := by omega
          have Hob := hide hob
          have Hrt := hide hrt
          have Hal := hide hal
          have Hbl2 := hide hbl2
          clear hob hrt hal hbl2 hbw
          obtain ⟨wo, hwo⟩ : ∃ wo : World, wo = wr := ⟨_, rfl⟩
          rw [← hwo] at Hob Hrt Hal ⊢
          clear hwo
          go_wp2_with fail
          go_loopw [140] (fun i wr => ∃ (p : Nat), p ≤ k ∧ i = .int .i64 (p : Int) ∧ OB wr (.slice Ao k co) qs n bl2 ∧ Row wr 3 (.slice At k ct) ((List.range k).map encN) ∧ AL w1 wr S g n k bl2 (List.replicate k true) [] k k) (fun i _ => k - (intOf i).toNat)
          case atStart => exact ⟨0, by omega, rfl, Hob.out, Hrt.out, Hal.out⟩
          case round =>
            obtain ⟨i0, hi0, rfl, hob, hrt, hal⟩ := hrel
            clear Hob Hrt Hal
            by_cases hlt3 : i0 < k
            · obtain ⟨bo, co1, q1, eo1, ho1, hq1, hc1, hl1, hwr1⟩ := hob.at (i := i0) (by rw [Hbl2.out]; exact hlt3)
              injection eo1 with eA eB eC
              subst eA
              clear eB eC
              obtain ⟨ba, hAt, hci, -⟩ := at_cells hrt hlt3 hlt3
              subst hAt
              obtain ⟨x, hx⟩ : ∃ x, x = bl2[i0]'(by rw [Hbl2.out]; exact hlt3) := ⟨_, rfl⟩
              rw [← hx] at hl1 hwr1
              have hgot : got bl2 (List.replicate k true) (i0 : Int) = x := by rw [hx]; simp [got, hasB, hlt3, Hbl2.out]
              have hhas : hasB (List.replicate k true) (i0 : Int) = true := by simp [hasB, hlt3]
              obtain ⟨str, hstr⟩ : ∃ str, str = bstr x := ⟨_, rfl⟩
              obtain ⟨zb, hzb⟩ : ∃ zb, zb = zeroB x := ⟨_, rfl⟩
              have hq1l := hob.ql q1 (List.mem_of_getElem? hq1)
              have Hob := hide hob
              have Hrt := hide hrt
              have Hal := hide hal
              have hG := hide (heap_get Hal.out (by omega) hl1 hgot)
              have hZ := hide (heap_zero Hal.out (by omega) hzb hgot hhas)
              have hRZ := hide (heap_rzero (by omega) hzb hl1 hq1l hwr1.rd)
              have hS := hide (heap_s hstr hl1 hq1l hwr1.rd hci)
              have hC := hide (heap_c (n := n) (x := x) hstr hl1)
              have e1 : (str.toList != str.toList) = false := by simp
              have e2 : (zb != zb) = false := by cases zb <;> rfl
              have i1 : (0 : Int) ≤ (i0 : Int) := by omega
              have i2 : (i0 : Int) < (k : Int) := by omega
              obtain ⟨-, s0⟩ := hS.out wr (Below.refl _ _)
              clear hob hrt hal hl1 hgot hhas hstr hzb hwr1 hx ho1 hq1 hq1l
              go_upto_region 32 with fail
              go_region_held (fun y => Hid (Below wr.heap.size wr y) ∧ y.cell? ⟨ba, i0, none⟩ = some (.int .i64 (i0 : Int)) ∧ (convert 22 9 (.slice (some ⟨q1, 0, none⟩) n n)).run Try.prog y = .ok (.string str) y)
                (exact ⟨hide (Hid.out (by repeat (first | assumption | exact hide (Below.refl _ _) | refine hp_alloc ?_ | refine hp_drew ?_))), hS.out _ (Hid.out (by repeat (first | assumption | exact hide (Below.refl _ _) | refine hp_alloc ?_ | refine hp_drew ?_)))⟩) (first
                | (go_at_call 24
                   refine (hG.out _ (Hid.out (by repeat (first | assumption | exact hide (Below.refl _ _) | refine hp_alloc ?_ | refine hp_drew ?_)))).mono ?_
                   rintro e w5 ⟨A5, c5, rfl, h5, hb5'⟩
                   have hb5 : Hid (Below wr.heap.size wr w5) := hide (Below.trans (Hid.out (by repeat (first | assumption | exact hide (Below.refl _ _) | refine hp_alloc ?_ | refine hp_drew ?_))) (hb5'.mono (Below.size (Hid.out (by repeat (first | assumption | exact hide (Below.refl _ _) | refine hp_alloc ?_ | refine hp_drew ?_))))))
                   have t5 := hC.out _ _ _ _ h5
                   clear h5 hb5')
                | (go_at_call 36
                   refine (hZ.out _ (Hid.out (by repeat (first | assumption | exact hide (Below.refl _ _) | refine hp_alloc ?_ | refine hp_drew ?_)))).mono ?_
                   rintro e w6 ⟨rfl, rfl⟩)
                | (go_at_call 17
                   refine (hRZ.out _ (Hid.out (by repeat (first | assumption | exact hide (Below.refl _ _) | refine hp_alloc ?_ | refine hp_drew ?_)))).mono ?_
                   rintro e w6 ⟨rfl, rfl⟩))
              all_goals
                go_wp2_with fail
                exact ⟨⟨i0 + 1, by omega, by rw [Int.natCast_succ], Hob.out.keep (fun z hz => hb5.out.block z (Hob.out.lt hz)), Hrt.out.keep (fun z hz => hb5.out.block z (Hrt.out.lt hz)), Hal.out.below hb5.out⟩, by simp only [intOf]; omega⟩
            · obtain rfl : i0 = k := by omega
              have hs := heap_sum hob Hbl2.out (by omega)
              have Hob := hide hob
              have Hal := hide hal
              have Hs := hide hs
              clear hob hrt hal hs
              go_wp2_with fail
              refine Hs.out.mono ?_
              rintro _ wa ⟨za, rfl, hwa, hza, hba⟩
              have hoba := Hob.out.keep (w' := wa) fun z hz => hba.block z (Hob.out.lt hz)
              have hsl : (sumL (zs n) bl2).length = n := sumL_len n bl2 (zs n) (by simp [zs]) Hob.out.lens
              obtain ⟨sm, hsm⟩ : ∃ sm, sm = sumL (zs n) bl2 := ⟨_, rfl⟩
              rw [← hsm] at hwa hsl
              obtain ⟨str, hstr⟩ : ∃ str, str = bstr sm := ⟨_, rfl⟩
              have hS := hide (heap_cw hstr hsl hza hwa)
              have hC := hide (fun (y : World) (z : Nat) (hz : z < y.heap.size) (h : Wr y (some ⟨z, 0, none⟩) z [] [] 5 sm) => heap_cw hstr hsl hz h y (Below.refl _ _))
              have hRs := hide (heap_rs hoba Hbl2.out (by omega) hsm.symm)
              have hL := hide (fun (y : World) (hy : Below wa.heap.size wa y) => heap_live Hal.out y (hba.trans (hy.mono hba.size)))
              have Hba := hide hba
              have e1 : (str.toList == str.toList) = true := by simp
              have s0 := hS.out wa (Below.refl _ _)
              clear hoba hsl hsm hstr hwa hza hba
              go_upto_region 36 with fail
              go_region_held (fun y => Hid (Below wa.heap.size wa y) ∧ (convert 22 9 (.slice (some ⟨za, 0, none⟩) n n)).run Try.prog y = .ok (.string str) y)
                (exact ⟨hide (Hid.out (by repeat (first | assumption | exact hide (Below.refl _ _) | refine hp_alloc ?_ | refine hp_drew ?_))), hS.out _ (Hid.out (by repeat (first | assumption | exact hide (Below.refl _ _) | refine hp_alloc ?_ | refine hp_drew ?_)))⟩) (first
                | (go_at_call 16
                   refine (hRs.out _ (Hid.out (by repeat (first | assumption | exact hide (Below.refl _ _) | refine hp_alloc ?_ | refine hp_drew ?_)))).mono ?_
                   rintro e wb ⟨zb, rfl, hwb, hzb, hb5'⟩
                   have hb5 : Hid (Below wa.heap.size wa wb) := hide (Below.trans (Hid.out (by repeat (first | assumption | exact hide (Below.refl _ _) | refine hp_alloc ?_ | refine hp_drew ?_))) (hb5'.mono (Below.size (Hid.out (by repeat (first | assumption | exact hide (Below.refl _ _) | refine hp_alloc ?_ | refine hp_drew ?_))))))
                   have t5 := hC.out wb zb hzb hwb
                   clear hwb hzb hb5')
                | (go_at_call 25
                   refine (hL.out _ (Hid.out (by repeat (first | assumption | exact hide (Below.refl _ _) | refine hp_alloc ?_ | refine hp_drew ?_)))).mono ?_
                   rintro e w6 ⟨rfl, rfl⟩))
              all_goals
                (try go_wp2_with fail)
                have hbw := below_t4 Hb1.out Hb1.out.size Hal.out.bel
                have hbx := below_t4 (below_t4 hbw hbw.size Hba.out) (below_t4 hbw hbw.size Hba.out).size hb5.out
                first
                  | exact hR.out _ _ ⟨rfl, hbx⟩
                  | (refine bodyPost_ret (v := .bool true) ?_ rfl ?_
                     · first | rfl | kernel_rfl | (simp [results, go_sem])
                     exact hR.out _ _ ⟨rfl, hbx⟩)
end Go.Proofs.Ythcbjhmckbfkmaa
