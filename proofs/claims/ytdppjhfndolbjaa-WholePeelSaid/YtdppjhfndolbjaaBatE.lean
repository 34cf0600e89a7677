/- batch.Solve, walked. -/
import Derived.Test.YtdppjhfndolbjaaBatD
import Derived.Deep.RegionHeld
import Derived.Deep.Cut
import Derived.Deep.CutRange
import Derived.Deep.CutBlock
set_option linter.unusedVariables false
set_option linter.unusedSimpArgs false
namespace Go.Proofs.Ytdppjhfndolbjaa
open Go.RowKit

theorem run_max0 (P : Program) (w : World) (ts : Array TypeId) (t : TypeId) (a : Nat) : (Builtin.max_ ts t #[.int .i64 (a : Int), .int .i64 0]).run P w = .ok (.int .i64 (a : Int)) w := by
  simp [Builtin.max_, Builtin.max2]
  omega
theorem eq_at {S : Nat → Prop} {w : World} {B : Option Addr} {l : List EqB} (h : RdL kEq S w B l) {i : Nat} (hi : i < l.length) : ∃ b off A c Bx d, B = some ⟨b, off, none⟩ ∧ S b ∧ w.cell? ⟨b, off + i * 2, none⟩ = some (.slice A l[i].1.length c) ∧ w.cell? ⟨b, off + i * 2 + 1, none⟩ = some (.slice Bx l[i].2.length d) ∧ l[i].1.length ≤ c ∧ c ≤ maxLen ∧ RdL kInt S w A l[i].1 ∧ l[i].2.length ≤ d ∧ d ≤ maxLen ∧ RdL Kd.byte S w Bx l[i].2 := by
  obtain ⟨b, off, e, hs, hc⟩ := h (by omega)
  obtain ⟨cs, hr, hcell⟩ := hc i l[i] (List.getElem?_eq_getElem hi)
  obtain ⟨_, _, rfl, ⟨A, c, rfl, a1, a2, a3⟩, Bx, d, rfl, h1, h2, h3⟩ := hr
  exact ⟨b, off, A, c, Bx, d, e, hs, hcell 0 _ rfl, hcell 1 _ rfl, a1, a2, a3, h1, h2, h3⟩
/-- While Solve runs: its variables, its values. -/
structure SS (w0 w : World) (all size n : Nat) (pa ps p6 p7 gv : Nat) (S : Nat → Prop) (vs : Vals) : Prop where
  vr : VR S w gv n vs
  c7 : w.cell? ⟨p7, 0, none⟩ = some (.slice (some ⟨gv, 0, none⟩) n n)
  ca : w.cell? ⟨pa, 0, none⟩ = some (.int .i64 (all : Int))
  cs : w.cell? ⟨ps, 0, none⟩ = some (.int .i64 (size : Int))
  sb : ∀ k, S k → w0.heap.size ≤ k ∧ k < w.heap.size ∧ k ≠ gv ∧ k ≠ p6
  pb : w0.heap.size ≤ p6
  h6 : w.heap[p6]? = some (.cells #[.slice none 0 0, .slice none 0 0, .bool false] 33 (0, 0))
  nv : gv ≠ pa ∧ gv ≠ ps ∧ gv ≠ p7 ∧ gv ≠ p6
  gb : w0.heap.size ≤ gv
  bel : Below w0.heap.size w0 w
theorem fold_take {all size : Int} {es : List EqB} {p : Vals × Bool} {k : Nat} (hk : k < es.length) : (es.take (k + 1)).foldl (stepF all size) p = stepF all size ((es.take k).foldl (stepF all size) p) es[k] := by
  rw [List.take_succ_eq_append_getElem hk, List.foldl_append]; rfl
theorem stepF_not {all size : Int} {p : Vals × Bool} {e : EqB} (h : firesB all size p.1 e = false) : stepF all size p e = p := by
  rw [stepF, step_not h, h, Bool.or_false]
theorem pass_count {all size : Nat} : ∀ {es : List EqB} {p : Vals × Bool}, WV all size p.1 → noneN (es.foldl (stepF all size) p).1 + (if (es.foldl (stepF all size) p).2 && !p.2 then 1 else 0) ≤ noneN p.1
  | [], p, _ => by simp
  | e :: r, p, h => by
    have h1 : WV all size (stepF all size p e).1 := h.step e
    have ih := pass_count (es := r) (p := stepF all size p e) h1
    show noneN (r.foldl (stepF all size) (stepF all size p e)).1 + (if (r.foldl (stepF all size) (stepF all size p e)).2 && !p.2 then 1 else 0) ≤ noneN p.1
    cases hf : firesB all size p.1 e with
    | false => rw [stepF_not hf] at ih ⊢; exact ih
    | true =>
      have hc := count_fire h hf
      have h3 : noneN (stepF all size p e).1 + 1 = noneN p.1 := hc
      split <;> omega
theorem conf_take {all size : Int} {es : List EqB} {vs : Vals} {k : Nat} (hk : k < es.length) : confB all size (es.take (k + 1)) vs = (confB all size (es.take k) vs || (okE all size es[k] && (decide ((leftV vs es[k].1).length = 0) && !zeroB (restV vs es[k].1 es[k].2)))) := by
  rw [List.take_succ_eq_append_getElem hk, confB, List.any_append]
  simp [confB]
theorem iter_der {all size : Nat} (es : List EqB) : ∀ m : Nat, Der all size (· ∈ es) (iter all size es (List.replicate all none) m)
  | 0 => .init
  | m + 1 => Der.steps es _ (fun _ h => h) (iter_der es m)
theorem undrew8 {w w2 : World} (h : Below w.drew.heap.size w.drew w2) : Below w.heap.size w w2 := ⟨h.os, h.tape, h.output, h.size, h.block⟩
theorem keep8 {w w' : World} {a : Addr} {u : Value} (h : w.cell? a = some u) (hb : Below w.heap.size w w') : w'.cell? a = some u := (hb.cell (World.block_lt_of_cell? _ _ h)).trans h
section
variable {w0 w w' : World} {all size n pa ps p6 p7 gv : Nat} {S : Nat → Prop} {vs : Vals}
theorem SS.below (h : SS w0 w all size n pa ps p6 p7 gv S vs) (hb : Below w.heap.size w w') : SS w0 w' all size n pa ps p6 p7 gv S vs :=
  ⟨h.vr.keep fun k hk => hb.block k (hk.elim (fun hk => (h.sb k hk).2.1) fun hk => by rw [hk]; exact h.vr.lt), (hb.cell (World.block_lt_of_cell? _ _ h.c7)).trans h.c7, (hb.cell (World.block_lt_of_cell? _ _ h.ca)).trans h.ca, (hb.cell (World.block_lt_of_cell? _ _ h.cs)).trans h.cs,
    fun k hk => ⟨(h.sb k hk).1, Nat.lt_of_lt_of_le (h.sb k hk).2.1 hb.size, (h.sb k hk).2.2⟩, h.pb, (hb.block _ (Array.getElem?_eq_some_iff.1 h.h6).1).trans h.h6, h.nv, h.gb, h.bel.trans (hb.mono h.bel.size)⟩
theorem SS.known (h : SS w0 w all size n pa ps p6 p7 gv S vs) (hn : n ≤ 1000000) (i : Int) : Calls Try.prog 21 #[.int .i64 i, .pointer (some ⟨p7, 0, none⟩)] w fun e w' => e = .returned (.bool (knB vs i)) ∧ w = w' :=
  known_calls (B := some ⟨gv, 0, none⟩) (c := n) (by rw [h.vr.len]; exact h.c7) (by rw [h.vr.len]; exact Nat.le_refl _) (by unfold maxLen; omega) h.vr.rd i
theorem SS.blt (h : SS w0 w all size n pa ps p6 p7 gv S vs) : ∀ k, (S k ∨ k = gv) → k < w.heap.size := fun k hk => hk.elim (fun hk => (h.sb k hk).2.1) fun hk => by rw [hk]; exact h.vr.lt
theorem put_ready (h : SS w0 w all size n pa ps p6 p7 gv S vs) {k : Nat} (hk : k < n) : (∃ u0, w.cell? ⟨gv, k, none⟩ = some u0) ∧ w.frozen? ⟨gv, k, none⟩ = false :=
  ⟨(h.vr.set hk (.bool true)).1, (h.vr.set hk (.bool true)).2.1⟩
/-- A value found is laid. -/
theorem SS.put (h : SS w0 w all size n pa ps p6 p7 gv S vs) {k g c' : Nat} (hk : k < n) {b : List UInt8} {post : List Value} (hb : Below w.heap.size w w') (hw : Wr w' (some ⟨g, 0, none⟩) g [] post 5 b) (hl : b.length ≤ c') (hc : c' ≤ maxLen) (hg : w.heap.size ≤ g) (hg' : g < w'.heap.size) :
    SS w0 (w'.setCell ⟨gv, k, none⟩ (.slice (some ⟨g, 0, none⟩) b.length c')) all size n pa ps p6 p7 gv (fun z => S z ∨ z = g) (vs.set k (some b)) := by
  have h2 := h.below hb
  have hgv := h.vr.lt
  obtain ⟨-, -, h3⟩ := h2.vr.set hk (.slice (some ⟨g, 0, none⟩) b.length c')
  have hsz : (w'.setCell ⟨gv, k, none⟩ (.slice (some ⟨g, 0, none⟩) b.length c')).heap.size = w'.heap.size := by simp [World.setCell]
  have hcell : ∀ (p : Nat) (u : Value), gv ≠ p → w'.cell? ⟨p, 0, none⟩ = some u → (w'.setCell ⟨gv, k, none⟩ (.slice (some ⟨g, 0, none⟩) b.length c')).cell? ⟨p, 0, none⟩ = some u := fun p u hne hc => by
    rw [World.cell?_of_block (w := w') (Below.heap_setCell _ _ _ _ (Ne.symm hne))]; exact hc
  refine ⟨h3 _ b (fun z hz => .inl hz) (fun z hz => ?_) ⟨⟨g, 0, none⟩, c', rfl, hl, hc, hw.rdB.mono fun z hz => .inr hz⟩, hcell _ _ h.nv.2.2.1 h2.c7, hcell _ _ h.nv.1 h2.ca, hcell _ _ h.nv.2.1 h2.cs, fun z hz => ?_, h.pb, (Below.heap_setCell _ _ _ _ (Ne.symm h.nv.2.2.2)).trans h2.h6, h.nv, h.gb, h2.bel.setCell (by show w0.heap.size ≤ gv; exact h.gb) _⟩
  · rcases hz with hz | rfl
    · exact (h.sb z hz).2.2.1
    · omega
  · have hp6 := (Array.getElem?_eq_some_iff.1 h.h6).1
    rw [hsz]
    rcases hz with hz | rfl
    · exact h2.sb z hz
    · exact ⟨by have := h.bel.size; omega, hg', by omega, by omega⟩
end
theorem SS.start (w : World) {all size : Nat} (hall : all ≤ 1000) {w5 : World} (h5 : w5 = ((((w.alloc (.cells #[.int .i64 (all : Int)] 3)).alloc (.cells #[.int .i64 (size : Int)] 3)).alloc (.cells #[.slice none 0 0, .slice none 0 0, .bool false] 33)).alloc (.cells (madeCells #[.slice none 0 0] all) 38)).alloc (.cells #[.slice (some ⟨w.heap.size + 1 + 1 + 1, 0, none⟩) all all] 23)) :
    SS w w5 all size all w.heap.size (w.heap.size + 1) (w.heap.size + 1 + 1) (w.heap.size + 1 + 1 + 1 + 1) (w.heap.size + 1 + 1 + 1) (fun _ => False) (List.replicate all none) := by
  obtain ⟨a1, h1⟩ : ∃ a1, a1 = w.alloc (.cells #[.int .i64 (all : Int)] 3) := ⟨_, rfl⟩
  obtain ⟨a2, h2⟩ : ∃ a2, a2 = a1.alloc (.cells #[.int .i64 (size : Int)] 3) := ⟨_, rfl⟩
  obtain ⟨a3, h3⟩ : ∃ a3, a3 = a2.alloc (.cells #[.slice none 0 0, .slice none 0 0, .bool false] 33) := ⟨_, rfl⟩
  obtain ⟨a4, h4⟩ : ∃ a4, a4 = a3.alloc (.cells (madeCells #[.slice none 0 0] all) 38) := ⟨_, rfl⟩
  rw [← h1, ← h2, ← h3, ← h4] at h5
  have s1 : a1.heap.size = w.heap.size + 1 := by rw [h1]; simp
  have s2 : a2.heap.size = w.heap.size + 1 + 1 := by rw [h2]; simp [s1]
  have s3 : a3.heap.size = w.heap.size + 1 + 1 + 1 := by rw [h3]; simp [s2]
  have s4 : a4.heap.size = w.heap.size + 1 + 1 + 1 + 1 := by rw [h4]; simp [s3]
  have b1 : Below w.heap.size w a1 := by rw [h1]; exact balloc w _
  have b2 : Below a1.heap.size a1 a2 := by rw [h2]; exact balloc a1 _
  have b3 : Below a2.heap.size a2 a3 := by rw [h3]; exact balloc a2 _
  have b4 : Below a3.heap.size a3 a4 := by rw [h4]; exact balloc a3 _
  have b5 : Below a4.heap.size a4 w5 := by rw [h5]; exact balloc a4 _
  have b35 : Below a3.heap.size a3 w5 := b4.trans (b5.mono (by omega))
  have b25 : Below a2.heap.size a2 w5 := b3.trans (b35.mono (by omega))
  have b15 : Below a1.heap.size a1 w5 := b2.trans (b25.mono (by omega))
  have b05 : Below w.heap.size w w5 := b1.trans (b15.mono (by omega))
  have k1 : w5.heap[w.heap.size]? = some (.cells #[.int .i64 (all : Int)] 3 (0, 0)) := (b15.block _ (by omega)).trans (by rw [h1]; exact heap_alloc_new w _)
  have k2 : w5.heap[w.heap.size + 1]? = some (.cells #[.int .i64 (size : Int)] 3 (0, 0)) := (b25.block _ (by omega)).trans (by rw [h2, ← s1]; exact heap_alloc_new a1 _)
  have k3 : w5.heap[w.heap.size + 1 + 1]? = some (.cells #[.slice none 0 0, .slice none 0 0, .bool false] 33 (0, 0)) := (b35.block _ (by omega)).trans (by rw [h3, ← s2]; exact heap_alloc_new a2 _)
  have k4 : VR (fun _ => False) a4 (w.heap.size + 1 + 1 + 1) all (List.replicate all none) := by rw [h4, ← s3]; exact VR.made a3 (by omega)
  have k5 : w5.heap[w.heap.size + 1 + 1 + 1 + 1]? = some (.cells #[.slice (some ⟨w.heap.size + 1 + 1 + 1, 0, none⟩) all all] 23 (0, 0)) := by rw [h5, ← s4]; exact heap_alloc_new a4 _
  exact ⟨k4.keep fun k hk => b5.block k (by
    rcases hk with hk | hk
    · exact hk.elim
    · omega), by rw [cell_of_row _ _ 0 _ _ _ k5]; rfl, by rw [cell_of_row _ _ 0 _ _ _ k1]; rfl, by rw [cell_of_row _ _ 0 _ _ _ k2]; rfl, fun k hk => hk.elim, by omega, k3, by omega, by omega, b05⟩
/-- The numbers of what is known. -/
def knT (vs : Vals) (j : Nat) : List Int := ((List.range j).filter fun k => (vs.getD k none).isSome).map fun k : Nat => (k : Int)
theorem knT_succ (vs : Vals) (j : Nat) : knT vs (j + 1) = knT vs j ++ (if knB vs (j : Int) = true then [(j : Int)] else []) := by
  rw [knT, List.range_succ, List.filter_append, List.map_append, knB_nat]
  congr 1
  cases h : (vs.getD j none).isSome <;> (simp only [List.filter, h]; rfl)
theorem knT_len (vs : Vals) (j : Nat) : (knT vs j).length ≤ j := by
  rw [knT, List.length_map]
  have := List.length_filter_le (fun k => (vs.getD k none).isSome) (List.range j)
  rw [List.length_range] at this
  exact this
/-- The result while it is made. -/
structure KR (w w' : World) (p14 : Nat) (vk vv : Value) (kn : List Int) (cf : Bool) : Prop where
  hp : w'.heap[p14]? = some (.cells #[vk, vv, .bool cf] 33 (0, 0))
  row : Row w' 3 vk (kn.map encI)
  own : ∀ z, vk.ownBlock = some z → w.heap.size ≤ z ∧ z ≠ p14
  bel : Below w.heap.size w w'
  pb : w.heap.size ≤ p14
theorem KR.push {w wr w5 : World} {p14 : Nat} {vk vv v5 : Value} {kn : List Int} {cf : Bool} {x : Int} {o : Obj} (h : KR w wr p14 vk vv kn cf) (hr : Row w5 3 v5 (kn.map encI ++ [.int .i64 x])) (hg : (wr.alloc o).grownBy w5 vk.ownBlock) (ho : v5.ownBlock = vk.ownBlock ∨ v5.ownBlock = some (wr.alloc o).heap.size) :
    w5.cell? ⟨p14, 0, none⟩ = some vk ∧ w5.frozen? ⟨p14, 0, none⟩ = false ∧ KR w (w5.setCell ⟨p14, 0, none⟩ v5) p14 v5 vv (kn ++ [x]) cf := by
  have hpl := (Array.getElem?_eq_some_iff.1 h.hp).1
  have hz : (wr.alloc o).heap.size = wr.heap.size + 1 := by simp
  rw [hz] at ho
  have hh : w5.heap[p14]? = some (.cells #[vk, vv, .bool cf] 33 (0, 0)) := (hg.block p14 (by omega) fun e => (h.own p14 e.symm).2 rfl).trans (((balloc wr o).block p14 hpl).trans h.hp)
  have hs := hg.size
  have hbz := h.bel.size
  have hown : ∀ z, v5.ownBlock = some z → w.heap.size ≤ z ∧ z ≠ p14 := fun z hz' => by
    rcases ho with e | e
    · exact h.own z (e ▸ hz')
    · rw [hz'] at e; injection e with e; omega
  refine ⟨by rw [cell_of_row _ _ 0 _ _ _ hh]; rfl, by simp [World.frozen?, hh], ⟨by simp [World.setCell, Array.getElem?_modify, hh], ?_, hown, ?_, h.pb⟩⟩
  · rw [List.map_append]
    exact hr.keep fun z hz' => Below.heap_setCell _ _ _ _ (hown z hz').2
  · exact (((Ch.of_grown hg).below (h.bel.alloc hbz o) (by rw [hz]; omega) fun z hz' => (h.own z hz').1).setCell (by show w.heap.size ≤ p14; exact h.pb) _)
theorem KR.conf {w wr : World} {p14 : Nat} {vk vv : Value} {kn : List Int} {cf : Bool} (h : KR w wr p14 vk vv kn cf) :
    wr.cell? ⟨p14, 2, none⟩ = some (.bool cf) ∧ wr.frozen? ⟨p14, 2, none⟩ = false ∧ KR w (wr.setCell ⟨p14, 2, none⟩ (.bool true)) p14 vk vv kn true :=
  ⟨by rw [cell_of_row _ _ 2 _ _ _ h.hp]; rfl, by simp [World.frozen?, h.hp], ⟨by simp [World.setCell, Array.getElem?_modify, h.hp], h.row.keep fun z hz => Below.heap_setCell _ _ _ _ (h.own z hz).2, h.own, h.bel.setCell (by show w.heap.size ≤ p14; exact h.pb) _, h.pb⟩⟩
theorem KR.below {w wr w' : World} {p14 : Nat} {vk vv : Value} {kn : List Int} {cf : Bool} (h : KR w wr p14 vk vv kn cf) (hb : Below wr.heap.size wr w') : KR w w' p14 vk vv kn cf :=
  ⟨(hb.block _ (Array.getElem?_eq_some_iff.1 h.hp).1).trans h.hp, h.row.keep fun z hz => hb.block z (h.row.lt hz), h.own, h.bel.trans (hb.mono h.bel.size), h.pb⟩
/-- What Solve answers: the values, the numbers of those that are known, in memory of its own. -/
structure RS (w w' : World) (all : Nat) (vk : Value) (gv : Nat) (S : Nat → Prop) (vs : Vals) : Prop where
  vr : VR S w' gv all vs
  row : Row w' 3 vk ((knT vs all).map encI)
  sb : ∀ k, S k → w.heap.size ≤ k ∧ k < w'.heap.size
  gb : w.heap.size ≤ gv
  kb : ∀ z, vk.ownBlock = some z → w.heap.size ≤ z ∧ z ≠ gv ∧ ¬ S z
  bel : Below w.heap.size w w'
theorem set3 {w Z : World} {g : Nat} {t : TypeId} {v0 v1 v2 : Value} (u0 u1 u2 : Value) (h : w.heap[g]? = some (.cells #[v0, v1, v2] t (0, 0))) (hZ : Z = ((w.setCell ⟨g, 0, none⟩ u0).setCell ⟨g, 1, none⟩ u1).setCell ⟨g, 2, none⟩ u2) :
    Z.heap[g]? = some (.cells #[u0, u1, u2] t (0, 0)) ∧ (∀ k, k ≠ g → Z.heap[k]? = w.heap[k]?) ∧ Z.heap.size = w.heap.size := by
  subst hZ
  refine ⟨by simp [World.setCell, Array.getElem?_modify, h], fun k hk => ?_, by simp [World.setCell]⟩
  rw [Below.heap_setCell _ _ _ _ hk, Below.heap_setCell _ _ _ _ hk, Below.heap_setCell _ _ _ _ hk]
theorem SS.done {w0 wx w Z : World} {all size pa ps p6 p7 gv p14 : Nat} {S : Nat → Prop} {vs : Vals} {Av : Option Addr} {lk cv : Nat} {cf : Bool} (hx : SS w0 wx all size all pa ps p6 p7 gv S vs) (h : SS w0 w all size all pa ps p6 p7 gv S vs) (hk : KR wx w p14 (.slice Av lk cv) (.slice (some ⟨gv, 0, none⟩) all all) (knT vs all) cf)
    (hZ : Z = ((w.setCell ⟨p6, 0, none⟩ (.slice Av lk cv)).setCell ⟨p6, 1, none⟩ (.slice (some ⟨gv, 0, none⟩) all all)).setCell ⟨p6, 2, none⟩ (.bool cf)) :
    Z.cell? ⟨p6, 0, none⟩ = some (.slice Av lk cv) ∧ Z.cell? ⟨p6, 1, none⟩ = some (.slice (some ⟨gv, 0, none⟩) all all) ∧ Z.cell? ⟨p6, 2, none⟩ = some (.bool cf) ∧ RS w0 Z all (.slice Av lk cv) gv S vs := by
  obtain ⟨h1, h2, h3⟩ := set3 _ _ _ h.h6 hZ
  have hp6 := (Array.getElem?_eq_some_iff.1 hx.h6).1
  have hgv := hx.vr.lt
  have hxs := hx.bel.size
  refine ⟨by rw [cell_of_row _ _ 0 _ _ _ h1]; rfl, by rw [cell_of_row _ _ 1 _ _ _ h1]; rfl, by rw [cell_of_row _ _ 2 _ _ _ h1]; rfl, ⟨h.vr.keep fun k hk => h2 k ?_, hk.row.keep fun z hz => h2 z ?_, fun k hk => ⟨(h.sb k hk).1, by rw [h3]; exact (h.sb k hk).2.1⟩, h.gb, fun z hz => ⟨?_, ?_, fun hs => ?_⟩, ?_⟩⟩
  · rcases hk with hk | rfl
    · exact (h.sb k hk).2.2.2
    · exact h.nv.2.2.2
  · have := (hk.own z hz).1; omega
  · have := (hk.own z hz).1; omega
  · have := (hk.own z hz).1; omega
  · have := (hk.own z hz).1; have := (hx.sb z hs).2.1; omega
  · rw [hZ]
    exact ((h.bel.setCell (by show w0.heap.size ≤ p6; exact h.pb) _).setCell (by show w0.heap.size ≤ p6; exact h.pb) _).setCell (by show w0.heap.size ≤ p6; exact h.pb) _
set_option maxHeartbeats 40000000 in
set_option maxRecDepth 100000 in
theorem solve_calls (all size : Nat) (B : Option Addr) (es : List EqB) (d : Nat) (T : Nat → Prop) (w : World) (hd : d ≤ maxLen) (hdl : es.length ≤ d) (hB : RdL kEq T w B es) (hT : ∀ k, T k → k < w.heap.size) (hall : all ≤ 1000) (hsz : size ≤ 1000) (hel : es.length ≤ 1000) (hee : ∀ e ∈ es, e.1.length ≤ 1000) :
    Calls Try.prog 11 #[.int .i64 (all : Int), .int .i64 (size : Int), .slice B es.length d] w fun e w' => ∃ (vs : Vals) (vk : Value) (gv : Nat) (S : Nat → Prop), Fin all size es vs ∧ e = .returned (.agg #[vk, .slice (some ⟨gv, 0, none⟩) all all, .bool (confB all size es vs)]) ∧ RS w w' all vk gv S vs := by
  refine cps fun R hR => ?_
  unfold maxLen at hd
  have H := hide hB
  have HT := hide hT
  have Hee := hide hee
  clear hB hT hee
  obtain ⟨L, hL⟩ : ∃ L, L = es.length := ⟨_, rfl⟩
  rw [← hL] at hdl hel ⊢
  have HL := hide hL
  clear hL
  have hmx := fun (w : World) ts t => run_max0 Try.prog w ts t all
  have hmk := make_vals all (by omega)
  go_enter Try.func11, Try.ntmps11
  go_upto_region 4 with fail
  obtain ⟨w5, hw5⟩ : ∃ w5, w5 = ((((w.alloc (.cells #[.int .i64 (all : Int)] 3)).alloc (.cells #[.int .i64 (size : Int)] 3)).alloc (.cells #[.slice none 0 0, .slice none 0 0, .bool false] 33)).alloc (.cells (madeCells #[.slice none 0 0] all) 38)).alloc (.cells #[.slice (some ⟨w.heap.size + 1 + 1 + 1, 0, none⟩) all all] 23) := ⟨_, rfl⟩
  have hss := SS.start (size := size) w hall hw5
  rw [← hw5]
  clear hw5 hmk
  generalize w.heap.size + 1 + 1 + 1 + 1 = p7 at *
  generalize w.heap.size + 1 + 1 + 1 = gv at *
  generalize w.heap.size + 1 + 1 = p6 at *
  generalize w.heap.size + 1 = ps at *
  obtain ⟨pa, hpa⟩ : ∃ pa, pa = w.heap.size := ⟨_, rfl⟩
  rw [← hpa] at hss ⊢
  have Hss := hide hss
  clear hss hpa
  go_wp2_with fail
  go_loopg [10] (2 * noneN (List.replicate all none) + 1) (fun gk more wr => ∃ (m : Nat) (mr : Bool) (S : Nat → Prop), more = .bool mr ∧ SS w wr all size all pa ps p6 p7 gv S (iter all size es (List.replicate all none) m) ∧ (mr = false → (passF all size es (iter all size es (List.replicate all none) m)).2 = false) ∧ gk = 2 * noneN (iter all size es (List.replicate all none) m) + (if mr then 1 else 0))
  case atStart => exact ⟨0, true, _, rfl, Hss.out, (fun h => by cases h), rfl⟩
  case round =>
    obtain ⟨m, mr, S, rfl, hS, hfin, rfl⟩ := hrel
    obtain ⟨vs, hvs⟩ : ∃ vs, vs = iter all size es (List.replicate all none) m := ⟨_, rfl⟩
    rw [← hvs] at hS hfin
    have HS := hide hS
    have Hvs := hide hvs
    have Hfin := hide hfin
    clear hS hfin Hss
    cases mr
    · obtain ⟨wx, hwx⟩ : ∃ wx : World, wx = wr := ⟨_, rfl⟩
      rw [← hwx] at HS ⊢
      clear hwx hvs
      have hno := hide (Hfin.out rfl)
      have hfn := hide (show Fin all size es vs from ⟨⟨m, Hvs.out⟩, hno.out⟩)
      have hpn : wx.cell? ⟨p7, 0, none⟩ = some (.slice (some ⟨gv, 0, none⟩) all all) := HS.out.c7
      have hvlen := HS.out.vr.len
      obtain ⟨p14, hp14⟩ : ∃ p14, p14 = wx.heap.size := ⟨_, rfl⟩
      have Hp14 := hide hp14
      obtain ⟨wB, hwB⟩ : ∃ wB, wB = wx.alloc (.cells #[.slice none 0 0, .slice (some ⟨gv, 0, none⟩) all all, .bool false] 33) := ⟨_, rfl⟩
      have hB0 := balloc wx (.cells #[.slice none 0 0, .slice (some ⟨gv, 0, none⟩) all all, .bool false] 33)
      have hhB : wB.heap[p14]? = some (.cells #[.slice none 0 0, .slice (some ⟨gv, 0, none⟩) all all, .bool false] 33 (0, 0)) := by rw [hwB, hp14]; exact heap_alloc_new wx _
      rw [← hwB] at hB0
      have HwB := hide hwB
      have HB0 := hide hB0
      have HhB := hide hhB
      have Hvl := hide hvlen
      clear hvlen hwB hB0 hhB Hfin hp14
      go_upto_region 16 with fail
      rw [← HwB.out, ← Hp14.out]
      clear HwB
      have c7B : wB.cell? ⟨p7, 0, none⟩ = some (.slice (some ⟨gv, 0, none⟩) all all) := keep8 hpn HB0.out
      go_wp2_with fail
      go_loopw [54] (fun i wy => ∃ (j : Nat) (vk : Value), j ≤ all ∧ i = .int .i64 (j : Int) ∧ KR wx wy p14 vk (.slice (some ⟨gv, 0, none⟩) all all) (knT vs j) false) (fun i _ => all - (intOf i).toNat)
      case atStart => exact ⟨0, .slice none 0 0, Nat.zero_le _, rfl, ⟨HhB.out, (Row.nil : Row wB 3 (.slice none 0 0) []), (fun z hz => by cases hz), HB0.out, by rw [Hp14.out]; exact Nat.le_refl _⟩⟩
      case round =>
        obtain ⟨j, vk, hj, rfl, hK⟩ := hrel
        obtain ⟨Ak, ck, rfl, hck1, hck2⟩ := hK.row.shape
        rw [List.length_map] at hK hck1
        by_cases hlt : j < all
        · have hjv : j < vs.length := by rw [Hvl.out]; exact hlt
          have hSn := HS.out.below hK.bel
          obtain ⟨b2, off2, u2, eb, -, hu2, hcy⟩ := hSn.vr.rd.at1 rfl hjv
          injection eb with eb; injection eb with eb1 eb2
          subst eb1; subst eb2
          rw [Nat.zero_add] at hcy
          have hsucc := hide (knT_succ vs j)
          have hlen := hide (knT_len vs j)
          obtain ⟨kn, hkn⟩ : ∃ kn, kn = knT vs j := ⟨_, rfl⟩
          rw [← hkn] at hK hck1 hsucc hlen
          have hnil := fun a l c => run_neq_slice_nil (P := Try.prog) (w := wr) 38 5 a l c Try.underlying38
          have i1 : (0 : Int) ≤ (j : Int) := by omega
          have i2 : (j : Int) < (all : Int) := by omega
          have p0 : wr.cell? ⟨p14, 0, none⟩ = some (.slice Ak kn.length ck) := by rw [cell_of_row _ _ 0 _ _ _ hK.hp]; rfl
          have HK := hide hK
          clear hkn hSn hK
          rcases val_cell hjv with ⟨h1, h2⟩ | ⟨h1, h2⟩
          · rw [h2] at hu2
            have hu2' : [u2] = [.slice none 0 0] := hu2
            injection hu2' with hu2' hu2''
            subst hu2'
            have H1 := hide h1
            clear h1 h2 hu2'' hu2
            go_wp2_with fail
            exact ⟨⟨j + 1, _, by omega, by rw [Int.natCast_succ], by rw [hsucc.out, H1.out]; simpa using HK.out⟩, by simp only [intOf]; omega⟩
          · rw [h2] at hu2
            obtain ⟨a, c2, hu2', -⟩ := hu2
            injection hu2' with hu2' hu2''
            subst hu2'
            have H1 := hide h1
            clear h1 h2 hu2''
            generalize (valAt vs (j : Int)).length = ly at hcy
            have hr7 := hide (HK.out.row.keep (w' := wr.alloc (.cells #[.int .i64 (j : Int)] 3)) fun z hz => (balloc wr _).block z (HK.out.row.lt hz))
            have s7 := hide (Src.lit1 wr (.int .i64 (j : Int)) 3)
            have hym := hide (show (kn.map encI).length = kn.length from List.length_map _)
            go_wp2_with (at_builtin; with_reducible refine wp_app 65 rfl rfl (.tmp 62) (.tmp 64) 31 rfl Try.underlying31 infoI ?_ (us := kn.map encI) ?_ hr7.out (A := some ⟨wr.heap.size, 0, none⟩) (c := 1) (news := [.int .i64 (j : Int)]) ?_ s7.out ?_ ?_ ?_ ?_)
            all_goals first | rfl | (intro u hu; simp at hu; subst hu; rfl) | (have := hlen.out; omega) | (have := hlen.out; unfold maxLen; omega) | (have := hlen.out; rw [hym.out, List.length_singleton]; omega) | (have := hlen.out; rw [hym.out, List.length_singleton]; unfold maxLen; omega) | skip
            intro v5 w5 hr5 g5 o5
            obtain ⟨z1, z2, z3⟩ := HK.out.push (o := .cells #[.int .i64 (j : Int)] 3) hr5 g5 (by simpa using o5)
            obtain ⟨A5, c5, e5, -, -⟩ := hr5.shape
            rw [List.length_append, hym.out, List.length_singleton] at e5
            subst e5
            have Z3 := hide z3
            clear hr5 g5 o5 z3
            go_wp2_with fail
            exact ⟨⟨j + 1, _, by omega, by rw [Int.natCast_succ], by rw [hsucc.out, H1.out]; exact Z3.out⟩, by simp only [intOf]; omega⟩
        · obtain rfl : all = j := by omega
          have HK := hide hK
          obtain ⟨vk, hvk⟩ : ∃ vk : Value, vk = .slice Ak (knT vs all).length ck := ⟨_, rfl⟩
          rw [← hvk] at HK
          have hcf0 := hide (show confB all size (es.take 0) vs = false from rfl)
          clear hK hvk hck1 hck2 hlt hj
          obtain ⟨wy, hwy⟩ : ∃ wy : World, wy = wr := ⟨_, rfl⟩
          rw [← hwy] at HK ⊢
          clear hwy
          go_wp2_with fail
          go_loopw [70] (fun i wz => ∃ j : Nat, j ≤ L ∧ i = .int .i64 (j : Int) ∧ KR wx wz p14 vk (.slice (some ⟨gv, 0, none⟩) all all) (knT vs all) (confB all size (es.take j) vs)) (fun i _ => L - (intOf i).toNat)
          case atStart => exact ⟨0, Nat.zero_le _, rfl, by rw [hcf0.out]; exact HK.out⟩
          case round =>
            obtain ⟨j, hj, rfl, hK⟩ := hrel
            by_cases hlt : j < L
            · have hjl : j < es.length := by rw [← HL.out]; exact hlt
              have hS2 := HS.out.below hK.bel
              have hct := conf_take (all := all) (size := size) (vs := vs) hjl
              obtain ⟨b, off, A, c, Bx, dd, rfl, hsb, q0, q1, a1, a2, hrA, a4, a5, hrB⟩ := eq_at (H.out.keep (w' := wr) fun z hz => hS2.bel.block z (HT.out z hz)) hjl
              have hee := Hee.out es[j] (List.getElem_mem hjl)
              generalize es[j] = e at hct q0 q1 a1 hrA a4 hrB hee
              obtain ⟨of, v⟩ := e
              simp only at q0 q1 a1 hrA a4 hrB hee hct
              obtain ⟨cf, hcf⟩ : ∃ cf, cf = confB all size (es.take j) vs := ⟨_, rfl⟩
              rw [← hcf] at hK hct
              obtain ⟨w3, hw3⟩ : ∃ w3, w3 = wr.alloc (.cells #[.slice A of.length c, .slice Bx v.length dd] 43) := ⟨_, rfl⟩
              have hb3 : Below wr.heap.size wr w3 := by rw [hw3]; exact balloc wr _
              have hh : w3.heap[wr.heap.size]? = some (.cells #[.slice A of.length c, .slice Bx v.length dd] 43 (0, 0)) := by rw [hw3]; exact heap_alloc_new wr _
              have c0 : w3.cell? ⟨wr.heap.size, 0, none⟩ = some (.slice A of.length c) := by rw [cell_of_row _ _ 0 _ _ _ hh]; rfl
              have c1 : w3.cell? ⟨wr.heap.size, 1, none⟩ = some (.slice Bx v.length dd) := by rw [cell_of_row _ _ 1 _ _ _ hh]; rfl
              have hS3 := hS2.below hb3
              have hTw : ∀ z, T z → z < wr.heap.size := fun z hz => Nat.lt_of_lt_of_le (HT.out z hz) hS2.bel.size
              have hA3 := hrA.keep (w' := w3) fun z hz => hb3.block z (hTw z hz)
              have hB3 := hrB.keep (w' := w3) fun z hz => hb3.block z (hTw z hz)
              have Hf2 := hide (fits2_calls (B := Bx) (v := v) (d := dd) hS3.ca hS3.cs a1 a2 hA3 (fun z hz => Nat.lt_of_lt_of_le (hTw z hz) hb3.size))
              obtain ⟨q, hq⟩ : ∃ q, q = wr.heap.size := ⟨_, rfl⟩
              have Hq := hide (show q < w3.heap.size by rw [hq, hw3]; simp)
              rw [← hq] at c0 c1
              have HK3 := hide (hK.below hb3)
              have HS3 := hide hS3
              have HA3 := hide hA3
              have HB3 := hide hB3
              have Hw3 := hide hw3
              have HTw := hide (show ∀ z, T z → z < w3.heap.size from fun z hz => Nat.lt_of_lt_of_le (hTw z hz) hb3.size)
              have Hct := hide hct
              obtain ⟨ok, hok⟩ : ∃ ok, ok = okE all size (of, v) := ⟨_, rfl⟩
              rw [← hok] at Hf2 Hct
              have Hok := hide hok
              clear hok hct hb3 hh hS2 hS3 hTw hA3 hB3 hw3 hrA hrB hsb hK hcf
              go_upto_region 25 with fail
              rw [← Hw3.out]
              rw [← hq]
              clear Hw3 hq q0 q1
              go_wp2_with fail
              refine Hf2.out.mono ?_
              rintro _ w4 ⟨rfl, hb4⟩
              have HS4 := hide (HS3.out.below hb4)
              have HK4 := hide (HK3.out.below hb4)
              have d0 : w4.cell? ⟨q, 0, none⟩ = some (.slice A of.length c) := (hb4.cell Hq.out).trans c0
              have d1 : w4.cell? ⟨q, 1, none⟩ = some (.slice Bx v.length dd) := (hb4.cell Hq.out).trans c1
              have HTw4 := hide (show ∀ z, T z → z < w4.heap.size from fun z hz => Nat.lt_of_lt_of_le (HTw.out z hz) hb4.size)
              have HA4 := hide (HA3.out.keep (w' := w4) fun z hz => hb4.block z (HTw.out z hz))
              have HB4 := hide (HB3.out.keep (w' := w4) fun z hz => hb4.block z (HTw.out z hz))
              clear hb4 c0 c1
              cases ok
              · go_wp2_with fail
                exact ⟨⟨j + 1, by omega, by rw [Int.natCast_succ], by rw [Hct.out]; simpa using HK4.out⟩, by simp only [intOf]; omega⟩
              · have hkn := fun (y : World) (hy : Below w4.heap.size w4 y) (i : Int) => (HS4.out.below hy).known (by omega) i
                have Hle := hide (left_calls (B := Bx) (lv := v.length) (d := dd) a1 a2 (by omega) HA4.out HTw4.out hkn)
                clear hkn
                go_wp2_with fail
                refine Hle.out.mono ?_
                rintro _ w6 ⟨v6, rfl, ho6⟩
                obtain ⟨Al, cl, rfl, hcl1, hcl2⟩ := ho6.shape
                have HS6 := hide (HS4.out.below ho6.bel)
                have HK6 := hide (HK4.out.below ho6.bel)
                have f0 : w6.cell? ⟨q, 0, none⟩ = some (.slice A of.length c) := (ho6.bel.cell (World.block_lt_of_cell? _ _ d0)).trans d0
                have f1 : w6.cell? ⟨q, 1, none⟩ = some (.slice Bx v.length dd) := (ho6.bel.cell (World.block_lt_of_cell? _ _ d1)).trans d1
                obtain ⟨ll, hll⟩ : ∃ ll, ll = (leftV vs of).length := ⟨_, rfl⟩
                rw [← hll] at hcl1 ho6 Hct ⊢
                have Hll := hide hll
                have Ho6 := hide ho6
                clear hll ho6 d0 d1
                by_cases h1 : ll = 0
                · subst h1
                  obtain ⟨hfit, hvl0⟩ := okE_len Hok.out.symm
                  have hvl : v.length = size := hvl0
                  have hwv : WV all size vs := hfn.out.der.wv
                  have hrs := rest_calls (A := A) (B := Bx) (C := some ⟨gv, 0, none⟩) (of := of) (v := v) (c := c) (d := dd) (cv := all) (vs := vs) (S := fun z => T z ∨ (S z ∨ z = gv)) (w := w6) a1 a2 a4 a5 (by omega) (by rw [HS6.out.vr.len]; exact Nat.le_refl _) (by unfold maxLen; omega)
                    ((HA4.out.keep (w' := w6) fun z hz => Ho6.out.bel.block z (HTw4.out z hz)).mono fun z hz => .inl hz) ((HB4.out.keep (w' := w6) fun z hz => Ho6.out.bel.block z (HTw4.out z hz)).mono fun z hz => .inl hz)
                    ((HS6.out.vr.rd).mono fun z hz => .inr hz) (fun z hz => by
                      rcases hz with hz | hz
                      · have := HTw4.out z hz; have := Ho6.out.bel.size; omega
                      · exact HS6.out.blt z hz) (fun i hi => by rw [HS6.out.vr.len]; exact fitsI_mem hfit hi) (fun i hi => by rw [hwv.val hi, hvl])
                  rw [HS6.out.vr.len] at hrs
                  have hrl : (restV vs of v).length = v.length := by rw [rest_len hwv hvl, hvl]
                  obtain ⟨rs, hrs0⟩ : ∃ rs, rs = restV vs of v := ⟨_, rfl⟩
                  rw [← hrs0] at hrl hrs Hct
                  obtain ⟨zb, hzb⟩ : ∃ zb, zb = zeroB rs := ⟨_, rfl⟩
                  rw [← hzb] at Hct
                  have Hzb := hide hzb
                  have Hrl := hide hrl
                  have Hrs := hide hrs
                  have g7 := HS6.out.c7
                  clear hrs hrl hrs0 hzb hwv hvl hvl0 hfit
                  go_wp2_with fail
                  refine Hrs.out.mono ?_
                  rintro _ w7 ⟨g, c', rfl, b1, b2, ⟨post, b3⟩, b4, b5, b6⟩
                  have hze := zero_calls (some ⟨g, 0, none⟩) rs c' _ w7 b2 (by rw [Hrl.out]; exact b1) b3.rdB
                  rw [Hrl.out, ← Hzb.out] at hze
                  have Hze := hide hze
                  have HK7 := hide (HK6.out.below b6)
                  obtain ⟨z1, z2, z3⟩ := HK7.out.conf
                  have Z3 := hide z3
                  clear hze b3 b6 z3
                  go_wp2_with fail
                  refine Hze.out.mono ?_
                  rintro _ w8 ⟨rfl, rfl⟩
                  cases zb
                  · go_wp2_with fail
                    exact ⟨⟨j + 1, by omega, by rw [Int.natCast_succ], by rw [Hct.out]; simpa using Z3.out⟩, by simp only [intOf]; omega⟩
                  · go_wp2_with fail
                    exact ⟨⟨j + 1, by omega, by rw [Int.natCast_succ], by rw [Hct.out]; simpa using HK7.out⟩, by simp only [intOf]; omega⟩
                · have e1 : ((ll : Int) == 0) = false := by simp; omega
                  have e2 : decide (ll = 0) = false := by simp [h1]
                  rw [e2] at Hct
                  clear e2
                  go_wp2_with fail
                  exact ⟨⟨j + 1, by omega, by rw [Int.natCast_succ], by rw [Hct.out]; simpa using HK6.out⟩, by simp only [intOf]; omega⟩
            · obtain rfl : j = L := by omega
              have hfull : es.take j = es := List.take_of_length_le (by rw [← HL.out]; exact Nat.le_refl _)
              rw [hfull] at hK
              have hS2 := HS.out.below hK.bel
              obtain ⟨Av, cv, evk, hv1, hv2⟩ := hK.row.shape
              subst evk
              generalize ((knT vs all).map encI).length = lk at *
              have k0 : wr.cell? ⟨p14, 0, none⟩ = some (.slice Av lk cv) := by rw [cell_of_row _ _ 0 _ _ _ hK.hp]; rfl
              have k1 : wr.cell? ⟨p14, 1, none⟩ = some (.slice (some ⟨gv, 0, none⟩) all all) := by rw [cell_of_row _ _ 1 _ _ _ hK.hp]; rfl
              have k2 : wr.cell? ⟨p14, 2, none⟩ = some (.bool (confB all size es vs)) := by rw [cell_of_row _ _ 2 _ _ _ hK.hp]; rfl
              obtain ⟨cf, hcf⟩ : ∃ cf, cf = confB all size es vs := ⟨_, rfl⟩
              rw [← hcf] at k2 hK
              have Hcf := hide hcf
              have h6 := hS2.h6
              have r0 : wr.cell? ⟨p6, 0, none⟩ = some (.slice none 0 0) := by rw [cell_of_row _ _ 0 _ _ _ h6]; rfl
              have r1 : wr.cell? ⟨p6, 1, none⟩ = some (.slice none 0 0) := by rw [cell_of_row _ _ 1 _ _ _ h6]; rfl
              have r2 : wr.cell? ⟨p6, 2, none⟩ = some (.bool false) := by rw [cell_of_row _ _ 2 _ _ _ h6]; rfl
              have r3 : ∀ i, wr.frozen? ⟨p6, i, none⟩ = false := fun i => by simp [World.frozen?, h6]
              have HK := hide hK
              have HS2 := hide hS2
              have H6 := hide h6
              clear hK hS2 h6 hcf hfull
              go_wp2_with fail
              obtain ⟨Z, hZ⟩ : ∃ Z : World, Z = ((wr.setCell ⟨p6, 0, none⟩ (.slice Av lk cv)).setCell ⟨p6, 1, none⟩ (.slice (some ⟨gv, 0, none⟩) all all)).setCell ⟨p6, 2, none⟩ (.bool cf) := ⟨_, rfl⟩
              rw [← hZ]
              obtain ⟨y0, y1, y2, y3⟩ := HS.out.done HS2.out HK.out hZ
              clear hZ
              refine bodyPost_ret (v := .agg #[.slice Av lk cv, .slice (some ⟨gv, 0, none⟩) all all, .bool cf]) ?_ rfl (hR.out _ _ ⟨vs, _, gv, S, hfn.out, by rw [Hcf.out], y3⟩)
              simp [results, Try.results11, go_sem, y0, y1, y2]
    · go_wp2_with fail
      go_loopw [10, 27] (fun more i wx => ∃ (j : Nat) (S2 : Nat → Prop), j ≤ L ∧ i = .int .i64 (j : Int) ∧ more = .bool ((es.take j).foldl (stepF all size) (vs, false)).2 ∧ SS w wx all size all pa ps p6 p7 gv S2 ((es.take j).foldl (stepF all size) (vs, false)).1) (fun _ i _ => L - (intOf i).toNat)
      case atStart => exact ⟨0, S, Nat.zero_le _, rfl, rfl, HS.out⟩
      case round =>
        obtain ⟨j, S2, hj, rfl, rfl, hS2⟩ := hrel
        obtain ⟨pj, hpj⟩ : ∃ pj, pj = (es.take j).foldl (stepF all size) (vs, false) := ⟨_, rfl⟩
        have Hpj := hide hpj
        rw [← hpj] at hS2 ⊢
        clear hpj
        by_cases hlt : j < L
        · have hjl : j < es.length := by rw [← HL.out]; exact hlt
          have hft := fold_take (all := all) (size := size) (p := (vs, false)) hjl
          rw [← Hpj.out] at hft
          obtain ⟨b, off, A, c, Bx, dd, rfl, hsb, q0, q1, a1, a2, hrA, a4, a5, hrB⟩ := eq_at (H.out.keep (w' := wr) fun z hz => hS2.bel.block z (HT.out z hz)) hjl
          have hee := Hee.out es[j] (List.getElem_mem hjl)
          generalize es[j] = e at hft q0 q1 a1 hrA a4 hrB hee
          obtain ⟨of, v⟩ := e
          simp only at q0 q1 a1 hrA a4 hrB hee
          obtain ⟨w3, hw3⟩ : ∃ w3, w3 = wr.alloc (.cells #[.slice A of.length c, .slice Bx v.length dd] 43) := ⟨_, rfl⟩
          have hb3 : Below wr.heap.size wr w3 := by rw [hw3]; exact balloc wr _
          have hh : w3.heap[wr.heap.size]? = some (.cells #[.slice A of.length c, .slice Bx v.length dd] 43 (0, 0)) := by rw [hw3]; exact heap_alloc_new wr _
          have c0 : w3.cell? ⟨wr.heap.size, 0, none⟩ = some (.slice A of.length c) := by rw [cell_of_row _ _ 0 _ _ _ hh]; rfl
          have c1 : w3.cell? ⟨wr.heap.size, 1, none⟩ = some (.slice Bx v.length dd) := by rw [cell_of_row _ _ 1 _ _ _ hh]; rfl
          have hS3 := hS2.below hb3
          have hTw : ∀ z, T z → z < wr.heap.size := fun z hz => Nat.lt_of_lt_of_le (HT.out z hz) hS2.bel.size
          have hA3 := hrA.keep (w' := w3) fun z hz => hb3.block z (hTw z hz)
          have hB3 := hrB.keep (w' := w3) fun z hz => hb3.block z (hTw z hz)
          have Hf2 := hide (fits2_calls (B := Bx) (v := v) (d := dd) hS3.ca hS3.cs a1 a2 hA3 (fun z hz => Nat.lt_of_lt_of_le (hTw z hz) hb3.size))
          obtain ⟨q, hq⟩ : ∃ q, q = wr.heap.size := ⟨_, rfl⟩
          have Hq := hide (show q < w3.heap.size by rw [hq, hw3]; simp)
          rw [← hq] at c0 c1
          have HS2 := hide hS2
          have HS3 := hide hS3
          have HA3 := hide hA3
          have HB3 := hide hB3
          have Hw3 := hide hw3
          have HTw := hide (show ∀ z, T z → z < w3.heap.size from fun z hz => Nat.lt_of_lt_of_le (hTw z hz) hb3.size)
          have Hft := hide hft
          obtain ⟨ok, hok⟩ : ∃ ok, ok = okE all size (of, v) := ⟨_, rfl⟩
          rw [← hok] at Hf2
          have Hok := hide hok
          clear hok hft hb3 hh hS2 hS3 hTw hA3 hB3 hw3 hrA hrB hsb
          go_upto_region 10 with fail
          rw [← Hw3.out]
          rw [← hq]
          clear Hw3 hq q0 q1
          go_wp2_with fail
          refine Hf2.out.mono ?_
          rintro _ w4 ⟨rfl, hb4⟩
          have HS4 := hide (HS3.out.below hb4)
          have d0 : w4.cell? ⟨q, 0, none⟩ = some (.slice A of.length c) := (hb4.cell Hq.out).trans c0
          have d1 : w4.cell? ⟨q, 1, none⟩ = some (.slice Bx v.length dd) := (hb4.cell Hq.out).trans c1
          have HTw4 := hide (show ∀ z, T z → z < w4.heap.size from fun z hz => Nat.lt_of_lt_of_le (HTw.out z hz) hb4.size)
          have HA4 := hide (HA3.out.keep (w' := w4) fun z hz => hb4.block z (HTw.out z hz))
          have HB4 := hide (HB3.out.keep (w' := w4) fun z hz => hb4.block z (HTw.out z hz))
          have Hb4 := hide hb4
          clear hb4 c0 c1
          cases ok
          · have hnf : firesB all size pj.1 (of, v) = false := by rw [firesB, ← Hok.out]; rfl
            have hst := hide (stepF_not hnf)
            clear hnf
            go_wp2_with fail
            exact ⟨⟨j + 1, S2, by omega, by rw [Int.natCast_succ], by rw [Hft.out, hst.out], by rw [Hft.out, hst.out]; exact HS4.out⟩, by simp only [intOf]; omega⟩
          · have hkn := fun (y : World) (hy : Below w4.heap.size w4 y) (i : Int) => (HS4.out.below hy).known (by omega) i
            have Hle := hide (left_calls (B := Bx) (lv := v.length) (d := dd) a1 a2 (by omega) HA4.out HTw4.out hkn)
            clear hkn
            go_wp2_with fail
            refine Hle.out.mono ?_
            rintro _ w6 ⟨v6, rfl, ho6⟩
            obtain ⟨Al, cl, rfl, hcl1, hcl2⟩ := ho6.shape
            have HS6 := hide (HS4.out.below ho6.bel)
            have f0 : w6.cell? ⟨q, 0, none⟩ = some (.slice A of.length c) := (ho6.bel.cell (World.block_lt_of_cell? _ _ d0)).trans d0
            have f1 : w6.cell? ⟨q, 1, none⟩ = some (.slice Bx v.length dd) := (ho6.bel.cell (World.block_lt_of_cell? _ _ d1)).trans d1
            obtain ⟨ll, hll⟩ : ∃ ll, ll = (leftV pj.1 of).length := ⟨_, rfl⟩
            rw [← hll] at hcl1 ho6 ⊢
            have Hll := hide hll
            have Ho6 := hide ho6
            clear hll ho6 d0 d1
            by_cases h1 : ll = 1
            · subst h1
              have hfire : firesB all size pj.1 (of, v) = true := by
                rw [firesB, ← Hok.out]
                have : decide ((leftV pj.1 (of, v).1).length = 1) = true := by rw [← Hll.out]; simp
                rw [this]; rfl
              obtain ⟨hok2, x, hx, hxm, hkx, hx0, hxa⟩ := fires_one hfire
              obtain ⟨hfit, hvl0⟩ := okE_len hok2
              have hvl : v.length = size := hvl0
              clear hvl0
              have hx' : leftV pj.1 of = [x] := hx
              obtain ⟨kx, rfl⟩ := Int.eq_ofNat_of_zero_le hx0
              have hwv : WV all size pj.1 := by rw [Hpj.out, Hvs.out]; exact (Der.steps (es.take j) _ (fun e he => List.mem_of_mem_take he) (iter_der es m)).wv
              have hstep : stepF all size pj (of, v) = (pj.1.set kx (some (restV pj.1 of v)), true) := by
                rw [stepF, step_fire hfire hx, hfire, Int.toNat_natCast, Bool.or_true]
              have hrow := Ho6.out.row
              rw [hx'] at hrow
              obtain ⟨ql, cq, eq1, hcl, -, -, -⟩ := hrow.set (i := 0) (by simp) (.bool true)
              injection eq1 with eq1 eq2 eq3
              subst eq1
              clear eq2 eq3
              have g0 : w6.cell? ⟨ql, 0, none⟩ = some (.int .i64 (kx : Int)) := hcl
              have g7 := HS6.out.c7
              have hrs := fun (y : World) (hy : Below w6.heap.size w6 y) => rest_calls (A := A) (B := Bx) (C := some ⟨gv, 0, none⟩) (of := of) (v := v) (c := c) (d := dd) (cv := all) (vs := pj.1) (S := fun z => T z ∨ (S2 z ∨ z = gv)) (w := y) a1 a2 a4 a5 (by omega) (by rw [HS6.out.vr.len]; exact Nat.le_refl _) (by unfold maxLen; omega)
                ((HA4.out.keep (w' := y) fun z hz => (Ho6.out.bel.trans (hy.mono Ho6.out.bel.size)).block z (HTw4.out z hz)).mono fun z hz => .inl hz) ((HB4.out.keep (w' := y) fun z hz => (Ho6.out.bel.trans (hy.mono Ho6.out.bel.size)).block z (HTw4.out z hz)).mono fun z hz => .inl hz)
                (((HS6.out.below hy).vr.rd).mono fun z hz => .inr hz) (fun z hz => by
                  rcases hz with hz | hz
                  · have := HTw4.out z hz; have := Ho6.out.bel.size; have := hy.size; omega
                  · exact (HS6.out.below hy).blt z hz) (fun i hi => by rw [HS6.out.vr.len]; exact fitsI_mem hfit hi) (fun i hi => by rw [hwv.val hi, hvl])
              rw [HS6.out.vr.len] at hrs
              have Hrs := hide hrs
              have Hst := hide (And.intro hstep (And.intro hvl (show (restV pj.1 of v).length = size from rest_len hwv hvl)))
              have i1 : (0 : Int) ≤ (kx : Int) := by omega
              have i2 : (kx : Int) < (all : Int) := hxa
              have i3 : kx < all := by omega
              have hsw := hide (fun (y : World) (hy : Below w6.heap.size w6 y) => put_ready (HS6.out.below hy) i3)
              clear hrs hstep hfire hok2 hx hxm hkx hx0 hxa hfit hvl hx' hwv hrow hcl
              go_wp2_with fail
              go_region_law ((go_simp; refine (Hrs.out _ (Below.refl _ _).drew).mono ?_; rintro _ w7 ⟨g, c', rfl, e1, e2, e3, e4, e5, e6'⟩; have e6 := undrew8 e6'; obtain ⟨⟨u0, z1⟩, z2⟩ := hsw.out _ e6; have z3 := keep8 g7 e6; have z4 := keep8 g0 e6; have E3 := hide e3; have E6 := hide e6; clear e3 e6' e6))
              all_goals
                go_wp2_with fail
                obtain ⟨o1, o2, o3⟩ := Hst.out
                obtain ⟨post, o4⟩ := E3.out
                have hput := HS6.out.put i3 E6.out o4 (by rw [o3, ← o2]; exact e1) e2 e4 e5
                have hbl : (restV pj.1 of v).length = v.length := by rw [o3, o2]
                rw [hbl] at hput
                exact ⟨⟨j + 1, _, by omega, by rw [Int.natCast_succ], by rw [Hft.out, o1], by rw [Hft.out, o1]; exact hput⟩, by simp only [intOf]; omega⟩
            · have hnf : firesB all size pj.1 (of, v) = false := by
                rw [firesB]
                have : decide ((leftV pj.1 (of, v).1).length = 1) = false := by rw [← Hll.out]; simp [h1]
                rw [this, Bool.and_false]
              have hst := hide (stepF_not hnf)
              have e1 : ((ll : Int) == 1) = false := by simp; omega
              clear hnf
              go_wp2_with fail
              exact ⟨⟨j + 1, S2, by omega, by rw [Int.natCast_succ], by rw [Hft.out, hst.out], by rw [Hft.out, hst.out]; exact HS6.out⟩, by simp only [intOf]; omega⟩
        · obtain rfl : j = L := by omega
          have hfull : es.take j = es := List.take_of_length_le (by rw [← HL.out]; exact Nat.le_refl _)
          rw [hfull] at Hpj
          have hps := hide (show pj = passF all size es vs from Hpj.out)
          have hcnt := hide (pass_count (es := es) (p := (vs, false)) (show WV all size vs by rw [Hvs.out]; exact (iter_der es m).wv))
          have HS2 := hide hS2
          clear hfull hS2
          go_wp2_with fail
          go_roundg (2 * noneN pj.1 + (if pj.2 then 1 else 0))
          case measure =>
            have h1 := hcnt.out
            rw [show es.foldl (stepF all size) (vs, false) = pj from hps.out.symm] at h1
            have h2 : noneN pj.1 + (if pj.2 then 1 else 0) ≤ noneN vs := by
              cases hp : pj.2 <;> rw [hp] at h1 <;> simpa using h1
            rw [← Hvs.out]
            cases hp : pj.2 <;> rw [hp] at h2 <;> simp at h2 ⊢ <;> omega
          case rel =>
            have hit : iter all size es (List.replicate all none) (m + 1) = pj.1 := by
              show (passF all size es (iter all size es (List.replicate all none) m)).1 = _
              rw [← Hvs.out, hps.out]
            refine ⟨m + 1, pj.2, S2, rfl, by rw [hit]; exact HS2.out, fun h => ?_, by rw [hit]⟩
            rw [hit]
            have hpf := pass_flag es (vs, false) (by rw [show es.foldl (stepF all size) (vs, false) = pj from hps.out.symm]; exact h)
            have : pj.1 = vs := by rw [show es.foldl (stepF all size) (vs, false) = pj from hps.out.symm] at hpf; exact hpf.2.1
            rw [this, ← hps.out]; exact h
end Go.Proofs.Ytdppjhfndolbjaa
