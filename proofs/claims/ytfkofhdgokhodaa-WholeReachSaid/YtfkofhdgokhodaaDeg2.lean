/- A table of degrees: made, read. -/
import Derived.Test.YtfkofhdgokhodaaDeg1
import Derived.BigQuiet
set_option linter.unusedVariables false
set_option linter.unusedSimpArgs false
namespace Go.Proofs.Ytfkofhdgokhodaa
open Go.RowKit

theorem info64 : (Try.prog.info? 24).map (fun i => (i.zero, i.size, i.bytes)) = some (some (.int .u64 0), 1, 8) := by kernel_rfl
theorem cset {w : World} {g : Nat} {t : TypeId} {cs : Array Value} (h : w.heap[g]? = some (.cells cs t (0, 0))) (i : Nat) (u : Value) : (w.setCell ⟨g, i, none⟩ u).heap[g]? = some (.cells (cs.setIfInBounds i u) t (0, 0)) := by
  simp [World.setCell, Array.getElem?_modify, h]
theorem alloc_head (w : World) (o : Obj) : (w.alloc o).heap[w.heap.size]? = some o := by show (w.heap.push o)[w.heap.size]? = some o; exact Array.getElem?_push_size
def belL (F E n : Nat) : List UInt64 := (List.range n).map fun i => UInt64.ofNat (bel F E (i + 1))
theorem belL_len (F E n : Nat) : (belL F E n).length = n := by simp [belL]
theorem belL_succ (F E n : Nat) : belL F E (n + 1) = belL F E n ++ [UInt64.ofNat (bel F E (n + 1))] := by simp [belL, List.range_succ]
theorem belL_get {F E n i : Nat} (m : May F E) (hn : n < F) (hi : i < (belL F E n).length) : (belL F E n)[i].toNat = bel F E (i + 1) := by
  have hi' : i < n := by rw [belL_len] at hi; exact hi
  simp only [belL, List.getElem_map, List.getElem_range]
  have := bel_bd m (show 1 ≤ i + 1 by omega) (show i + 1 < F by omega)
  rw [UInt64.toNat_ofNat']
  exact Nat.mod_eq_of_lt this
/-- A table of what lies below each degree: its head is block g; nothing of it lies below block B. -/
def Tab (w : World) (B g : Nat) (xs : List UInt64) : Prop := ∃ v, w.heap[g]? = some (.cells #[v] 130 (0, 0)) ∧ Row w 24 v (xs.map enc64) ∧ (∀ k, v.ownBlock = some k → B ≤ k ∧ k ≠ g) ∧ B ≤ g
section
variable {w w' : World} {B g : Nat} {xs : List UInt64}
theorem Tab.lt (h : Tab w B g xs) : g < w.heap.size := by obtain ⟨v, h, -⟩ := h; exact (Array.getElem?_eq_some_iff.1 h).1
theorem Tab.below (h : Tab w B g xs) (hb : Below w.heap.size w w') : Tab w' B g xs := by
  obtain ⟨v, h1, h2, h3, h4⟩ := h
  exact ⟨v, (hb.block g (Array.getElem?_eq_some_iff.1 h1).1).trans h1, h2.keep fun k hk => hb.block k (h2.lt hk), h3, h4⟩
theorem Tab.open (h : Tab w B g xs) : ∃ A c, w.cell? ⟨g, 0, none⟩ = some (.slice A xs.length c) ∧ w.frozen? ⟨g, 0, none⟩ = false ∧ RdL Kd.u64 (fun k => B ≤ k) w A xs := by
  obtain ⟨v, h1, h2, h3, h4⟩ := h
  obtain ⟨A, c, rfl, -, -⟩ := h2.shape
  rw [List.length_map] at *
  exact ⟨A, c, by rw [cell_of_row w g 0 _ _ (0, 0) h1]; rfl, by simp [World.frozen?, h1], h2.rd rfl _ (fun b hb => (h3 b hb).1) fun x => ⟨_, rfl, rfl⟩⟩
end

/-- What lies below degree d. -/
def belT (xs : List UInt64) (d : Int) : Int := if h : 1 ≤ d ∧ d ≤ xs.length then (xs[d.toNat - 1]'(by omega)).toNat else 0
def belB (xs : List UInt64) (d : Int) : Bool := decide (1 ≤ d ∧ d ≤ xs.length)
section
variable {F E : Nat} (m : May F E)
include m
set_option maxHeartbeats 2000000 in
theorem dnew_calls (N B Q : Int) (w : World) (hm : mayB N B Q (E : Int) (F : Int) = true) :
    Calls Try.prog 42 #[pV N B Q (E : Int) (F : Int)] w fun e w' => ∃ g, e = .returned (.tuple #[.pointer (some ⟨g, 0, none⟩), .int .i64 0]) ∧ Tab w' w.heap.size g (belL F E (F - 1)) ∧ Below w.heap.size w w' := by
  refine cps fun R hR => ?_
  have h1 := m.f4
  have h2 := m.e2
  have c1 : IntKind.u64.wrap (F : Int) = (F : Int) := w64_nat rfl (by omega)
  have c2 : IntKind.u64.wrap (E : Int) = (E : Int) := w64_nat rfl (by omega)
  obtain ⟨W, hW, hb, hs, d0, d1, d2, d3, d4⟩ := box5 w N B Q E F 23
  have HW := hide hW
  have Hb := hide hb
  have Hck := hide (check_calls N B Q (E : Int) (F : Int) W)
  rw [if_pos hm] at Hck
  clear hW hb hm
  go_enter Try.func42, Try.ntmps42
  go_upto_region 1 with fail
  rw [← HW.out]
  go_wp2_with fail
  refine Hck.out.mono ?_
  rintro e w1 ⟨rfl, hb1⟩
  have k3 := later_cell d3 ⟨w1, hb1⟩
  have k4 := later_cell d4 ⟨w1, hb1⟩
  simp only [Later.v] at k3 k4
  have B1 := hide (below_step Hb.out (Nat.le_of_lt hs) hb1)
  clear hb1 d0 d1 d2 d3 d4 hs
  go_upto_region 4 with fail
  go_quiet (fail)
  obtain ⟨w2, hw2⟩ : ∃ w2, w2 = w1.drewN nq := ⟨_, rfl⟩
  rw [← hw2]
  have B2 : Hid (Below w.heap.size w w2) := hide (by rw [hw2]; exact B1.out.trans ⟨rfl, rfl, rfl, Nat.le_refl _, fun _ _ => rfl⟩)
  clear hw2 k3 k4
  go_upto_region 5 with fail
  obtain ⟨w3, hw3⟩ : ∃ w3, w3 = w2.alloc (.cells #[.slice none 0 0] 130) := ⟨_, rfl⟩
  have T3 : Hid (Tab w3 w.heap.size w2.heap.size (belL F E 0)) := hide (by
    rw [hw3]
    exact ⟨.slice none 0 0, alloc_head _ _, Row.nil, fun k hk => by simp [Value.ownBlock] at hk, B2.out.size⟩)
  have B3 : Hid (Below w.heap.size w w3) := hide (by rw [hw3]; exact B2.out.alloc B2.out.size _)
  have HW3 := hide hw3
  obtain ⟨g, hg⟩ : ∃ g, g = w2.heap.size := ⟨_, rfl⟩
  rw [← hg] at T3
  have Hg := hide hg
  clear hw3 hg
  go_upto_region 6 with fail
  rw [← HW3.out, ← Hg.out]
  clear c1 c2 HW3 Hg B1 B2 Hb Hck
  have M := hide m
  clear h1 h2
  go_wp2_with fail
  go_loopw [8] (fun i wr => ∃ k : Nat, k + 1 ≤ F ∧ i = .int .u64 ((k + 1 : Nat) : Int) ∧ Tab wr w.heap.size g (belL F E k) ∧ Below w.heap.size w wr) (fun i _ => F - (intOf i).toNat)
  case atStart => exact ⟨0, by have := m.f2; omega, rfl, T3.out, B3.out⟩
  case round =>
    obtain ⟨k, hk, rfl, hT, hB⟩ := hrel
    obtain ⟨i, hi⟩ : ∃ i, i = k + 1 := ⟨_, rfl⟩
    rw [← hi]
    by_cases hlt : k + 1 < F
    · obtain ⟨P, z, f, zf, q1, g1, g2, g3, q2, e1, e2, e3, f1, f2, f3, f4, f5, f6, f7, f8, f9, f10, f11, f12, f13, f14, f15⟩ := facs m hi hlt
      have hl1 := hi_lt m (show 1 ≤ i by omega) (show i < F by omega)
      have hl2 := lo_bd m (show i ≤ 4096 by have := m.f4; omega)
      have hl3 := hi_pos (i := i) m (by omega)
      have hbel : bel F E i = shareN (hiN F E i) (loN F E i) := rfl
      have hbb := bel_bd m (show 1 ≤ i by omega) (show i < F by omega)
      have hnext : Hid (belL F E (k + 1) = belL F E k ++ [UInt64.ofNat (bel F E i)]) := hide (by rw [hi]; exact belL_succ F E k)
      have hdiv := hide (div_calls (hiN F E i) (loN F E i) wr hl3 hl1 (by omega))
      rw [← hbel] at hdiv
      generalize hiN F E i = hi' at *
      generalize loN F E i = lo' at *
      generalize bel F E i = b at *
      have hen : Hid (enc64 (UInt64.ofNat b) = .int .u64 (b : Int)) := hide (by rw [enc64, UInt64.toNat_ofNat', Nat.mod_eq_of_lt (by simpa using hbb)])
      obtain ⟨v, hhd, hrow, hvb, hgb⟩ := hT
      have hglt : g < wr.heap.size := (Array.getElem?_eq_some_iff.1 hhd).1
      obtain ⟨A, c, rfl, hc1, hc2⟩ := hrow.shape
      have hlen : ((belL F E k).map enc64).length = k := by rw [List.length_map, belL_len]
      rw [hlen] at hhd hrow hvb
      have hc := cell_of_row wr g 0 _ _ (0, 0) hhd
      have hc : wr.cell? ⟨g, 0, none⟩ = some (.slice A k c) := hc
      have s1 := hide (Src.lit1 wr (.int .u64 (b : Int)) 24)
      have b1 := hide (balloc wr (.cells #[.int .u64 (b : Int)] 24))
      have hrow1 := hide (hrow.keep (w' := wr.alloc (.cells #[.int .u64 (b : Int)] 24)) fun k hk => b1.out.block k (hrow.lt hk))
      have Hhd := hide hhd
      have Hvb := hide hvb
      have HB := hide hB
      have Hlen := hide hlen
      have f16 : IntKind.u64.wrap ((i : Int) + 1) = ((i + 1 : Nat) : Int) := w64_nat (by omega) (by have := m.f4; omega)
      have t1 : decide (i < F) = true := by simp; omega
      have hkf : k < 4096 := by have := m.f4; omega
      have Hrow := hide hrow
      have Hk := hide (show i = k + 1 ∧ k + 1 < F ∧ k < 4096 from ⟨hi, hlt, hkf⟩)
      clear hhd hrow hvb hlen hB hl1 hl2 hl3 hbel hbb hc1 hc2 hi hlt hk hkf
      go_wp2_with fail
      refine hdiv.out.mono ?_
      rintro e w5 ⟨r, rfl, rfl⟩
      go_wp2_with (at_builtin; with_reducible refine wp_app 71 rfl rfl (.tmp 68) (.tmp 70) 87 rfl Try.underlying87 info64 ?_ (us := (belL F E k).map enc64) ?_ hrow1.out (A := some ⟨wr.heap.size, 0, none⟩) (c := 1) (news := [.int .u64 (b : Int)]) ?_ ?_ ?_ ?_ ?_ ?_)
      case refine_1 => rfl
      case refine_2 => rfl
      case refine_3 => rfl
      case refine_4 => exact s1.out
      case refine_5 => intro u hu; simp at hu; subst hu; rfl
      case refine_6 => have := Hk.out; rw [Hlen.out]; simp; omega
      case refine_7 => have := Hk.out; rw [Hlen.out]; simp; unfold maxLen; omega
      case refine_8 =>
      intro v' w6 hr6 g6 a6
      have b2 : Below w.heap.size w (wr.alloc (.cells #[.int .u64 (b : Int)] 24)) := HB.out.alloc HB.out.size _
      have b3 := (Ch.of_grown g6).below b2 b2.size (fun b hb => (Hvb.out b hb).1)
      have h6g : w6.heap[g]? = wr.heap[g]? := (g6.block g (by simp; omega) (fun e => (Hvb.out g e.symm).2 rfl)).trans (b1.out.block g hglt)
      have Hh6 := hide (h6g.trans Hhd.out)
      have x0 : w6.cell? ⟨g, 0, none⟩ = some (.slice A k c) := cell_of_row w6 g 0 _ _ (0, 0) Hh6.out
      have x1 : w6.frozen? ⟨g, 0, none⟩ = false := by simp [World.frozen?, Hh6.out]
      obtain ⟨A', c', rfl, -, -⟩ := hr6.shape
      rw [List.length_append, Hlen.out] at hr6 a6 ⊢
      have Hr6 := hide hr6
      have A6 := hide a6
      have B3' := hide b3
      clear hr6 a6 g6 b2 b3 h6g hc f1 f2 f3 f4 f5 f6 f7 f8 f9 f10 f11 f12 f13 f14 f15
      go_wp2_with fail
      have hu := Hk.out
      have hne : ∀ j, j ≠ g → (w6.setCell ⟨g, 0, none⟩ (.slice A' (k + 1) c')).heap[j]? = w6.heap[j]? := fun j hj => Below.heap_setCell w6 ⟨g, 0, none⟩ _ j hj
      have hown : ∀ j, (Value.slice A' (k + 1) c').ownBlock = some j → w.heap.size ≤ j ∧ j ≠ g := fun j hj => by
        rcases A6.out with h1 | h1
        · exact Hvb.out j (h1 ▸ hj)
        · have h1 : (Value.slice A' (k + 1) c').ownBlock = some (wr.alloc (.cells #[.int .u64 (b : Int)] 24)).heap.size := h1
          rw [hj] at h1
          injection h1 with h1
          have := b1.out.size
          have := HB.out.size
          omega
      refine ⟨⟨k + 1, by omega, by rw [hu.1]; push_cast; rfl, ⟨.slice A' (k + 1) c', ?_, ?_, hown, hgb⟩, ?_⟩, ?_⟩
      · have := cset Hh6.out 0 (.slice A' (k + 1) c')
        simpa using this
      · rw [hnext.out, List.map_append, List.map_cons, List.map_nil, hen.out]
        exact Hr6.out.keep fun j hj => hne j (hown j hj).2
      · exact (Ch.set w6 ⟨g, 0, none⟩ (.slice A' (k + 1) c')).below B3'.out B3'.out.size (fun j hj => by rw [hj]; exact hgb)
      · have := hu.1; simp only [intOf]; omega
    · obtain rfl : F = i := by omega
      have t1 : decide (F < F) = false := by simp
      have hF : F - 1 = k := by omega
      have Hi := hide hi
      clear hk hlt hi
      rw [hF] at hR
      go_wp2_with fail
      exact hR.out _ _ ⟨g, rfl, hT, hB⟩
end
end Go.Proofs.Ytfkofhdgokhodaa
