/- speaks of the laws of layer 17, walked. -/
import Derived.Test.YtdppjhfndolbjaaBatH
import Derived.Deep.Cut
import Derived.Deep.CutRange
set_option linter.unusedVariables false
set_option linter.unusedSimpArgs false
namespace Go.Proofs.Ytdppjhfndolbjaa
open Go.RowKit

abbrev eqsS : List EqB := [([0, 1], [3]), ([0], [1])]
theorem fin_speaks {vs : Vals} (h : Fin 3 1 eqsS vs) : vs = [some [1], some [2], none] ∧ confB 3 1 eqsS vs = false := by
  have e : vs = [some [1], some [2], none] := h.one ⟨⟨2, by decide⟩, by decide⟩
  subst e
  exact ⟨rfl, by decide⟩
theorem ints_lit {S : Nat → Prop} {w : World} {b : Nat} {l : List Int} (h : w.heap[b]? = some (.cells (l.map encI).toArray 3 (0, 0))) (hw : ∀ x ∈ l, (Lit.int .i64 x).wf = true) (hs : S b) : RdL kInt S w (some ⟨b, 0, none⟩) l :=
  RdL.block1 (d := kInt) rfl h hs fun i x hx => ⟨encI x, by rw [List.getElem?_toArray, List.getElem?_map, hx]; rfl, _, rfl, rfl, hw x (List.mem_of_getElem? hx)⟩
theorem bytes_lit {S : Nat → Prop} {w : World} {b : Nat} {l : List UInt8} (h : w.heap[b]? = some (.cells (l.map encB).toArray 5 (0, 0))) (hs : S b) : RdL Kd.byte S w (some ⟨b, 0, none⟩) l :=
  RdL.block1 (d := Kd.byte) rfl h hs fun i x hx => ⟨encB x, by rw [List.getElem?_toArray, List.getElem?_map, hx]; rfl, _, rfl, rfl⟩
theorem speaks_mem (w : World) {w5 : World} (h5 : w5 = ((((w.alloc (.cells #[.int .i64 0, .int .i64 1] 3)).alloc (.cells #[.int .u8 3] 5)).alloc (.cells #[.int .i64 0] 3)).alloc (.cells #[.int .u8 1] 5)).alloc (.cells #[.slice (some ⟨w.heap.size, 0, none⟩) 2 2, .slice (some ⟨w.heap.size + 1, 0, none⟩) 1 1, .slice (some ⟨w.heap.size + 1 + 1, 0, none⟩) 1 1, .slice (some ⟨w.heap.size + 1 + 1 + 1, 0, none⟩) 1 1] 43)) :
    RdL kEq (· < w5.heap.size) w5 (some ⟨w.heap.size + 1 + 1 + 1 + 1, 0, none⟩) eqsS ∧ Below w.heap.size w w5 := by
  obtain ⟨a1, h1⟩ : ∃ a1, a1 = w.alloc (.cells #[.int .i64 0, .int .i64 1] 3) := ⟨_, rfl⟩
  obtain ⟨a2, h2⟩ : ∃ a2, a2 = a1.alloc (.cells #[.int .u8 3] 5) := ⟨_, rfl⟩
  obtain ⟨a3, h3⟩ : ∃ a3, a3 = a2.alloc (.cells #[.int .i64 0] 3) := ⟨_, rfl⟩
  obtain ⟨a4, h4⟩ : ∃ a4, a4 = a3.alloc (.cells #[.int .u8 1] 5) := ⟨_, rfl⟩
  rw [← h1, ← h2, ← h3, ← h4] at h5
  have s1 : a1.heap.size = w.heap.size + 1 := by rw [h1]; simp
  have s2 : a2.heap.size = w.heap.size + 1 + 1 := by rw [h2]; simp [s1]
  have s3 : a3.heap.size = w.heap.size + 1 + 1 + 1 := by rw [h3]; simp [s2]
  have s4 : a4.heap.size = w.heap.size + 1 + 1 + 1 + 1 := by rw [h4]; simp [s3]
  have s5 : w5.heap.size = w.heap.size + 1 + 1 + 1 + 1 + 1 := by rw [h5]; simp [s4]
  have b1 : Below w.heap.size w a1 := by rw [h1]; exact balloc w _
  have b2 : Below a1.heap.size a1 a2 := by rw [h2]; exact balloc a1 _
  have b3 : Below a2.heap.size a2 a3 := by rw [h3]; exact balloc a2 _
  have b4 : Below a3.heap.size a3 a4 := by rw [h4]; exact balloc a3 _
  have b5 : Below a4.heap.size a4 w5 := by rw [h5]; exact balloc a4 _
  have b35 : Below a3.heap.size a3 w5 := b4.trans (b5.mono (by omega))
  have b25 : Below a2.heap.size a2 w5 := b3.trans (b35.mono (by omega))
  have b15 : Below a1.heap.size a1 w5 := b2.trans (b25.mono (by omega))
  have k1 : w5.heap[w.heap.size]? = some (.cells #[.int .i64 0, .int .i64 1] 3 (0, 0)) := (b15.block _ (by omega)).trans (by rw [h1]; exact heap_alloc_new w _)
  have k2 : w5.heap[w.heap.size + 1]? = some (.cells #[.int .u8 3] 5 (0, 0)) := (b25.block _ (by omega)).trans (by rw [h2, ← s1]; exact heap_alloc_new a1 _)
  have k3 : w5.heap[w.heap.size + 1 + 1]? = some (.cells #[.int .i64 0] 3 (0, 0)) := (b35.block _ (by omega)).trans (by rw [h3, ← s2]; exact heap_alloc_new a2 _)
  have k4 : w5.heap[w.heap.size + 1 + 1 + 1]? = some (.cells #[.int .u8 1] 5 (0, 0)) := (b5.block _ (by omega)).trans (by rw [h4, ← s3]; exact heap_alloc_new a3 _)
  have k5 : w5.heap[w.heap.size + 1 + 1 + 1 + 1]? = some (.cells #[.slice (some ⟨w.heap.size, 0, none⟩) 2 2, .slice (some ⟨w.heap.size + 1, 0, none⟩) 1 1, .slice (some ⟨w.heap.size + 1 + 1, 0, none⟩) 1 1, .slice (some ⟨w.heap.size + 1 + 1 + 1, 0, none⟩) 1 1] 43 (0, 0)) := by rw [h5, ← s4]; exact heap_alloc_new a4 _
  refine ⟨fun _ => ⟨_, 0, rfl, by omega, fun i x hx => ?_⟩, b1.trans (b15.mono (by omega))⟩
  match i, hx with
  | 0, hx =>
    simp at hx; subst hx
    refine ⟨[.slice (some ⟨w.heap.size, 0, none⟩) 2 2, .slice (some ⟨w.heap.size + 1, 0, none⟩) 1 1], ⟨[_], [_], rfl, ⟨_, 2, rfl, by simp, by simp [maxLen], ints_lit (l := [0, 1]) k1 (by simp; decide) (by omega)⟩, ⟨_, 1, rfl, by simp, by simp [maxLen], bytes_lit (l := [3]) k2 (by omega)⟩⟩, fun j u hu => ?_⟩
    rw [cell_of_row _ _ _ _ _ _ k5]
    match j, hu with
    | 0, hu => simp at hu; subst hu; rfl
    | 1, hu => simp at hu; subst hu; rfl
    | j + 2, hu => simp at hu
  | 1, hx =>
    simp at hx; subst hx
    refine ⟨[.slice (some ⟨w.heap.size + 1 + 1, 0, none⟩) 1 1, .slice (some ⟨w.heap.size + 1 + 1 + 1, 0, none⟩) 1 1], ⟨[_], [_], rfl, ⟨_, 1, rfl, by simp, by simp [maxLen], ints_lit (l := [0]) k3 (by simp; decide) (by omega)⟩, ⟨_, 1, rfl, by simp, by simp [maxLen], bytes_lit (l := [1]) k4 (by omega)⟩⟩, fun j u hu => ?_⟩
    rw [cell_of_row _ _ _ _ _ _ k5]
    match j, hu with
    | 0, hu => simp at hu; subst hu; rfl
    | 1, hu => simp at hu; subst hu; rfl
    | j + 2, hu => simp at hu
  | i + 2, hx => simp at hx
theorem row_ints {T : Nat → Prop} {w : World} {e : TypeId} {A : Option Addr} {n c : Nat} {l : List Int} (h : Row w e (.slice A n c) (l.map encI)) (hw : ∀ x ∈ l, (Lit.int .i64 x).wf = true) (hT : ∀ k, (Value.slice A n c).ownBlock = some k → T k) : RdL kInt T w A l := by
  intro hp
  obtain ⟨q, c', e', hcell, -⟩ := h.set (i := 0) (by simpa using hp) (.bool true)
  injection e' with e1
  subst e1
  refine ⟨q, 0, rfl, hT q rfl, fun i x hx => ⟨[encI x], ⟨_, rfl, rfl, hw x (List.mem_of_getElem? hx)⟩, fun j u hu => ?_⟩⟩
  cases j with
  | zero =>
    simp at hu; subst hu
    have hi : i < (l.map encI).length := by have := (List.getElem?_eq_some_iff.1 hx).1; simpa using this
    obtain ⟨q', c'', e'', hc', -⟩ := h.set (i := i) hi (.bool true)
    injection e'' with e2
    injection e2 with e2; injection e2 with e2
    subst e2
    obtain ⟨h1, h2⟩ := List.getElem?_eq_some_iff.1 hx
    rw [List.getElem_map, h2] at hc'
    rw [show (0 : Nat) + (i * kInt.sz + 0) = i by simp [kInt, Kd.int, Kd.one]]
    exact hc'
  | succ j => simp at hu
set_option maxHeartbeats 4000000 in
theorem bspeaks_calls (w : World) : Calls Try.prog 8 #[] w fun e w' => e = .returned (.bool true) ∧ Below w.heap.size w w' := by
  refine cps fun R hR => ?_
  obtain ⟨w5, hw5⟩ : ∃ w5, w5 = ((((w.alloc (.cells #[.int .i64 0, .int .i64 1] 3)).alloc (.cells #[.int .u8 3] 5)).alloc (.cells #[.int .i64 0] 3)).alloc (.cells #[.int .u8 1] 5)).alloc (.cells #[.slice (some ⟨w.heap.size, 0, none⟩) 2 2, .slice (some ⟨w.heap.size + 1, 0, none⟩) 1 1, .slice (some ⟨w.heap.size + 1 + 1, 0, none⟩) 1 1, .slice (some ⟨w.heap.size + 1 + 1 + 1, 0, none⟩) 1 1] 43) := ⟨_, rfl⟩
  obtain ⟨hm, hb5⟩ := speaks_mem w hw5
  have hso := hide (solve_calls 3 1 _ eqsS 2 _ w5 (by simp [maxLen]) (by simp) hm (fun k hk => hk) (by omega) (by omega) (by simp) (by simp))
  have Hb5 := hide hb5
  have Hw5 := hide hw5
  clear hm hb5 hw5
  go_enter Try.func8, Try.ntmps8
  go_wp2_with fail
  rw [← Hw5.out]
  refine hso.out.mono ?_
  rintro _ w6 ⟨vs, vk, gv, S, hfin, rfl, hrs⟩
  obtain ⟨hvs, hcf⟩ := fin_speaks hfin
  rw [show confB ((3 : Nat) : Int) ((1 : Nat) : Int) eqsS vs = false from hcf]
  subst hvs
  have hkn : knT [some [1], some [2], none] 3 = [0, 1] := by decide
  have hrow := hrs.row
  rw [hkn] at hrow
  obtain ⟨Ak, ck, rfl, hc1, hc2⟩ := hrow.shape
  obtain ⟨w7, hw7⟩ : ∃ w7, w7 = w6.alloc (.cells #[.slice Ak 2 ck, .slice (some ⟨gv, 0, none⟩) 3 3, .bool false] 33) := ⟨_, rfl⟩
  have hb7 : Below w6.heap.size w6 w7 := by rw [hw7]; exact balloc w6 _
  have hh7 : w7.heap[w6.heap.size]? = some (.cells #[.slice Ak 2 ck, .slice (some ⟨gv, 0, none⟩) 3 3, .bool false] 33 (0, 0)) := by rw [hw7]; exact heap_alloc_new w6 _
  have hz7 : w7.heap.size = w6.heap.size + 1 := by rw [hw7]; simp
  obtain ⟨w8, hw8⟩ : ∃ w8, w8 = w7.alloc (.cells #[.int .i64 0, .int .i64 1] 3) := ⟨_, rfl⟩
  have hb8 : Below w7.heap.size w7 w8 := by rw [hw8]; exact balloc w7 _
  have hh8 : w8.heap[w7.heap.size]? = some (.cells #[.int .i64 0, .int .i64 1] 3 (0, 0)) := by rw [hw8]; exact heap_alloc_new w7 _
  have hb68 : Below w6.heap.size w6 w8 := hb7.trans (hb8.mono (by omega))
  have hz8 : w8.heap.size = w6.heap.size + 1 + 1 := by rw [hw8]; simp [hz7]
  have hki := row_ints (hrow.keep (w' := w8) fun z hz => hb68.block z (hrow.lt hz)) (by simp; decide) (T := (· < w8.heap.size)) (fun z hz => by have := hrow.lt hz; omega)
  have hsa := hide (same_calls Ak [0, 1] ck (some ⟨w7.heap.size, 0, none⟩) [0, 1] 2 (· < w8.heap.size) w8 hc2 hc1 hki (by simp [maxLen]) (by simp) (ints_lit (l := [0, 1]) hh8 (by simp; decide) (by omega)) (fun k hk => hk))
  rw [sameN_yes] at hsa
  have hvr := hrs.vr.rd
  obtain ⟨bb1, oo1, u1, e1, -, hu1, hc1'⟩ := hvr.at1 rfl (i := 1) (by simp)
  obtain ⟨bb2, oo2, u2, e2, -, hu2, hc2'⟩ := hvr.at1 rfl (i := 2) (by simp)
  injection e1 with e1; injection e1 with e1a e1b; subst e1a; subst e1b
  injection e2 with e2; injection e2 with e2a e2b; subst e2a; subst e2b
  obtain ⟨a, c, hu1', f1, f2, f3⟩ := hu1
  injection hu1' with hu1' hu1''; subst hu1'
  have hu2' : [u2] = [.slice none 0 0] := hu2
  injection hu2' with hu2' hu2''; subst hu2'
  have Hf3 := hide f3
  have Hrs := hide hrs
  have Hb68 := hide hb68
  have Hbb := hide (Hb5.out.trans (hrs.bel.mono Hb5.out.size))
  have Hw8 := hide hw8
  have Hw7 := hide hw7
  have Hh7 := hide hh7
  have Hb8 := hide hb8
  have hq7 := hide (show w6.heap.size < w7.heap.size by omega)
  clear hki hvr f3 hrs hb68 hw8 hw7 hh7 hh8 hb7 hb8 hrow hkn hfin hcf hz7 hz8 hu1'' hu2'' hso hc1 hu2
  go_upto_region 2 with fail
  rw [← Hw7.out]
  have k0 : w7.cell? ⟨w6.heap.size, 0, none⟩ = some (.slice Ak 2 ck) := by rw [cell_of_row _ _ 0 _ _ _ Hh7.out]; rfl
  have k1 : w7.cell? ⟨w6.heap.size, 1, none⟩ = some (.slice (some ⟨gv, 0, none⟩) 3 3) := by rw [cell_of_row _ _ 1 _ _ _ Hh7.out]; rfl
  have k2 : w7.cell? ⟨w6.heap.size, 2, none⟩ = some (.bool false) := by rw [cell_of_row _ _ 2 _ _ _ Hh7.out]; rfl
  go_wp2_with fail
  rw [← Hw8.out]
  refine hsa.out.mono ?_
  rintro _ w9 ⟨rfl, hb9⟩
  have hb69 : Below w6.heap.size w6 w9 := Hb68.out.trans (hb9.mono Hb68.out.size)
  have hb79 : Below w7.heap.size w7 w9 := Hb8.out.trans (hb9.mono Hb8.out.size)
  have g0 : w9.cell? ⟨w6.heap.size, 1, none⟩ = some (.slice (some ⟨gv, 0, none⟩) 3 3) := (hb79.cell hq7.out).trans k1
  have g2 : w9.cell? ⟨w6.heap.size, 2, none⟩ = some (.bool false) := (hb79.cell hq7.out).trans k2
  have g3 : w9.cell? ⟨gv, 1, none⟩ = some (.slice (some a) 1 c) := (hb69.cell (World.block_lt_of_cell? _ _ hc1')).trans hc1'
  have g4 : w9.cell? ⟨gv, 2, none⟩ = some (.slice none 0 0) := (hb69.cell (World.block_lt_of_cell? _ _ hc2')).trans hc2'
  have g5 : (convert 38 9 (.slice (some a) 1 c)).run Try.prog w9 = .ok (.string (bstr [2])) w9 := run_str (P := Try.prog) (w := w9) Try.underlying38 Try.underlying5 Try.underlying9 (Hf3.out.keep (w' := w9) fun z hz => hb69.block z (by
    rcases hz with hz | rfl
    · exact (Hrs.out.sb z hz).2
    · exact Hrs.out.vr.lt)).srcB c
  have g6 : (bstr [2]).toList = [2] := by rw [ByteArray.toList_eq]
  have Hend := hide (Hbb.out.trans (hb69.mono Hbb.out.size))
  clear hb69 hb79 hb9 k0 k1 k2 hc1' hc2'
  generalize bstr [2] = s2 at g5 g6
  go_wp2_with fail
  exact hR.out _ _ ⟨rfl, Hend.out⟩
end Go.Proofs.Ytdppjhfndolbjaa
