/- outer.New, walked. -/
import Derived.Test.YtfkofhdgokhodaaOut1
import Derived.Test.YtfkofhdgokhodaaSome1
import Derived.Test.YtfkofhdgokhodaaPar
import Derived.Deep.RegionHeldLaw
set_option linter.unusedVariables false
set_option linter.unusedSimpArgs false
namespace Go.Proofs.Ytfkofhdgokhodaa
open Go.RowKit Go.Maps

theorem OG.mono {b0 b1 g : Nat} {c : Nat → Nat} {w : World} {vo vh : Value} {uo uh : List Value} {of has : List (List Int)} (h : OG b0 c w g vo vh uo uh of has) (hb : b1 ≤ b0) : OG b1 c w g vo vh uo uh of has :=
  ⟨h.cell, ⟨h.gc.1, Nat.le_trans hb h.gc.2⟩, h.ro, fun z hz => ⟨(h.co z hz).1, Nat.le_trans hb (h.co z hz).2⟩, h.rh, fun z hz => ⟨(h.ch z hz).1, Nat.le_trans hb (h.ch z hz).2⟩, h.lo, h.lh,
    fun i u l a b => ⟨(h.eo i u l a b).1, fun z hz => ⟨((h.eo i u l a b).2 z hz).1, Nat.le_trans hb ((h.eo i u l a b).2 z hz).2⟩⟩, fun i u l a b => ⟨(h.eh i u l a b).1, fun z hz => ⟨((h.eh i u l a b).2 z hz).1, Nat.le_trans hb ((h.eh i u l a b).2 z hz).2⟩⟩⟩
theorem lit3u (w : World) (a b c : UInt64) : RdL Kd.u64 (· = w.heap.size) (w.alloc (.cells #[.int .u64 (a.toNat : Int), .int .u64 (b.toNat : Int), .int .u64 (c.toNat : Int)] 24)) (some ⟨w.heap.size, 0, none⟩) [a, b, c] :=
  RdL.block1 rfl (heap_alloc_new w _) rfl fun i x hx => by
    match i, hx with
    | 0, hx => exact ⟨_, rfl, _, rfl, by injection hx with hx; subst hx; rfl⟩
    | 1, hx => exact ⟨_, rfl, _, rfl, by injection hx with hx; subst hx; rfl⟩
    | 2, hx => exact ⟨_, rfl, _, rfl, by injection hx with hx; subst hx; rfl⟩
    | n + 3, hx => simp at hx
theorem nat_u64 {i : Nat} (h : i < 18446744073709551616) : ((UInt64.ofNat i).toNat : Int) = (i : Int) := by
  rw [UInt64.toNat_ofNat_of_lt' (by simpa using h)]
/-- The draws of one message block. -/
theorem new3 (s : UInt64) (i : Nat) (hi : i < 1000000) (w y : World) (hb : Below (w.alloc (.cells #[.int .u64 (s.toNat : Int), .int .u64 1, .int .u64 (i : Int)] 24)).heap.size (w.alloc (.cells #[.int .u64 (s.toNat : Int), .int .u64 1, .int .u64 (i : Int)] 24)) y) :
    Calls Try.prog 11 #[.slice (some ⟨w.heap.size, 0, none⟩) 3 3] y fun e w' => ∃ gr, e = .returned (.pointer (some ⟨gr, 0, none⟩)) ∧ w.heap.size ≤ gr ∧ RandAt w' gr (seedF [s, 1, UInt64.ofNat i]) ∧ Below w.heap.size w w' := by
  have hl := lit3u w s 1 (UInt64.ofNat i)
  rw [nat_u64 (by omega), show (((1 : UInt64).toNat : Nat) : Int) = 1 from rfl] at hl
  have hz : (w.alloc (.cells #[.int .u64 (s.toNat : Int), .int .u64 1, .int .u64 (i : Int)] 24)).heap.size = w.heap.size + 1 := by simp
  have hbw : Below w.heap.size w y := (balloc w _).trans (hb.mono (by omega))
  have hly := hl.keep (w' := y) fun k hk => hb.block k (by omega)
  have := hb.size
  refine (new_calls (some ⟨w.heap.size, 0, none⟩) 3 [s, 1, UInt64.ofNat i] (· = w.heap.size) y (by decide) (Nat.le_refl 3) (fun k hk => by omega) hly).mono ?_
  rintro e w' ⟨rfl, h1, h2⟩
  exact ⟨_, rfl, by omega, h1, hbw.trans (h2.mono hbw.size)⟩
theorem some3 {w y : World} {gr a q : Nat} {s : UInt64} (ha : a ≤ 1000000) (hq : q ≤ a) (hb : Below w.heap.size w y) (hg : w.heap.size ≤ gr) (h : RandAt y gr s) :
    Calls Try.prog 10 #[.pointer (some ⟨gr, 0, none⟩), .int .i64 (a : Int), .int .i64 (q : Int)] y fun e w' => ∃ v, e = .returned v ∧ Row w' 3 v ((someL a q s).map encI) ∧ (∀ z, v.ownBlock = some z → w.heap.size ≤ z) ∧ Below w.heap.size w w' :=
  (some_calls gr a q s y ha hq h).mono fun e w' ⟨v, h1, h2, h3, h4, h5⟩ => ⟨v, h1, h2, fun z hz => Nat.le_trans hb.size (h3 z hz), h5.below hb hb.size fun j hj => by rw [hj]; exact hg⟩
theorem infoL : (Try.prog.info? 29).map (fun i => (i.zero, i.size, i.bytes)) = some (some (.slice none 0 0), 1, 24) := by kernel_rfl
theorem make_lists (n : Nat) (hn : n ≤ 1000000) (w : World) : (Instr.makeSlice 71 (.int .i64 (n : Int)) (.int .i64 (n : Int))).run Try.prog w = .ok (.slice (some ⟨w.heap.size, 0, none⟩) n n) (w.alloc (.cells (madeCells #[.slice none 0 0] n) 29)) :=
  run_make_row' 71 29 (.slice none 0 0) 24 Try.underlying71 infoL rfl .i64 .i64 n (by omega) (by omega) w
theorem held_alloc9 {W w : World} {o : Obj} (h : Hid (Below W.heap.size W w)) : Hid (Below W.heap.size W (w.alloc o)) := hide (h.out.alloc h.out.size o)
theorem held_drew9 {W w : World} (h : Hid (Below W.heap.size W w)) : Hid (Below W.heap.size W w.drew) := hide h.out.drew
theorem held_cell9 {W w : World} {a : Addr} {u : Value} (h : Hid (W.cell? a = some u)) (hb : Hid (Below W.heap.size W w)) : w.cell? a = some u := (hb.out.cell (World.block_lt_of_cell? _ _ h.out)).trans h.out
/-- The graph, new. -/
theorem OG.new (w : World) (a : Nat) (ha : a ≤ 1000000) : ∃ W, W = (w.alloc (.cells (madeCells #[.slice none 0 0] a) 29)).alloc (.cells #[.slice none 0 0, .slice (some ⟨w.heap.size, 0, none⟩) a a] 81) ∧ Below w.heap.size w W ∧
    OG w.heap.size (fun z => if z = w.heap.size then 2 else 0) W (w.heap.size + 1) (.slice none 0 0) (.slice (some ⟨w.heap.size, 0, none⟩) a a) [] (List.replicate a (.slice none 0 0)) [] (hasL [] a) := by
  have hz : (w.alloc (.cells (madeCells #[.slice none 0 0] a) 29)).heap.size = w.heap.size + 1 := by simp
  refine ⟨_, rfl, (balloc w _).trans ((balloc _ _).mono (by omega)), ?_, ⟨if_neg (by omega), by omega⟩, Row.nil, (fun z hz => by cases hz), ?_, ?_, rfl, by simp [hasL_len], (fun i u l h => by simp at h), fun i u l hu hl => ?_⟩
  · rw [← hz]; exact heap_alloc_new _ _
  · have h1 := Row.lit (w := w) (e := 29) (List.replicate a (.slice none 0 0)) (by simp [maxLen]; omega)
    rw [List.length_replicate] at h1
    have e1 : (List.replicate a (Value.slice none 0 0)).toArray = madeCells #[.slice none 0 0] a := by rw [← Array.toList_inj, toList_madeCells_one]
    rw [e1] at h1
    exact h1.keep fun z hz' => (balloc _ _).block z (by have := h1.lt hz'; exact this)
  · intro z hz'
    have hz2 : some w.heap.size = some z := hz'
    injection hz2 with hz2
    subst hz2
    exact ⟨if_pos rfl, Nat.le_refl _⟩
  · have hi : i < a := by have := (List.getElem?_eq_some_iff.1 hu).1; simpa using this
    rw [List.getElem?_replicate, if_pos hi] at hu
    rw [hasL_nil, List.getElem?_replicate, if_pos hi] at hl
    injection hu with hu; injection hl with hl
    subst hu; subst hl
    exact ⟨Row.nil, fun z hz => by cases hz⟩
end Go.Proofs.Ytfkofhdgokhodaa
