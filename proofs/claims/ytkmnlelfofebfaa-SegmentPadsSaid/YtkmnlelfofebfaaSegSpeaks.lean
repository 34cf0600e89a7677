/- Three bytes, cut and joined: the laws' first question. -/
import Derived.Test.YtkmnlelfofebfaaSegJoin
set_option linter.unusedVariables false
set_option linter.unusedSimpArgs false
namespace Go.Proofs.Ytkmnlelfofebfaa
open Go.RowKit

/-- New bytes written out. -/
theorem litB (w : World) (xs : List UInt8) (t : TypeId) : RdL Kd.byte (· = w.heap.size) (w.alloc (.cells (xs.map encB).toArray t)) (some ⟨w.heap.size, 0, none⟩) xs :=
  RdL.block1 rfl (heap_alloc_new w _) rfl fun i x hx => ⟨encB x, by rw [List.getElem?_toArray, List.getElem?_map, hx]; rfl, _, rfl, rfl⟩
theorem splitS : splitL 2 2 [1, 2, 3] = [[1, 2], [3, 0]] := by decide
theorem joinS : joinL 3 [[1, 2], [3, 0]] = [1, 2, 3] := by decide
theorem str2 (x y : UInt8) : (bstr [x, y]).toList = [x, y] := by rw [ByteArray.toList_eq]
theorem str3 (x y z : UInt8) : (bstr [x, y, z]).toList = [x, y, z] := by rw [ByteArray.toList_eq]

theorem split3 (w : World) (t : TypeId) : Calls Try.prog 8 #[pV 2 2 1 1000 2, .slice (some ⟨w.heap.size, 0, none⟩) 3 3] (w.alloc (.cells #[.int .u8 1, .int .u8 2, .int .u8 3] t)) fun e w' =>
    ∃ g, e = .returned (.tuple #[.slice (some ⟨g, 0, none⟩) 2 2, .int .i64 0]) ∧ RdL (Kd.sl Kd.byte) (· < w'.heap.size) w' (some ⟨g, 0, none⟩) [[1, 2], [3, 0]] ∧ Below w.heap.size w w' := by
  have h := split_yes 2 2 1 1000 2 (some ⟨w.heap.size, 0, none⟩) [1, 2, 3] 3 (w.alloc (.cells #[.int .u8 1, .int .u8 2, .int .u8 3] t)) (by decide) (by decide) (by decide) (by decide) (by decide) (by decide) ((litB w [1, 2, 3] t).mono fun k hk => by subst hk; simp)
  rw [splitS] at h
  refine h.mono fun e w' ⟨g, h1, h2, h3, h4, h5⟩ => ⟨g, h1, h2.rdsl.mono fun k hk => ?_, (balloc w _).trans (h5.mono (by simp))⟩
  rcases hk with hk | hk
  · exact hk.2
  · simp [Value.ownBlock] at hk; omega
theorem join3 (A : Option Addr) (w : World) (h : RdL (Kd.sl Kd.byte) (· < w.heap.size) w A [[1, 2], [3, 0]]) : Calls Try.prog 12 #[pV 2 2 1 1000 2, .int .i64 3, .slice A 2 2] w fun e w' =>
    ∃ v, e = .returned (.tuple #[v, .int .i64 0]) ∧ Row w' 5 v ([1, 2, 3].map encB) ∧ Below w.heap.size w w' := by
  refine (join_calls 2 2 1 1000 2 3 A [[1, 2], [3, 0]] 2 w (by decide) (by decide) (by decide) (by decide) h).mono fun e w' ⟨h1, h2⟩ => ?_
  rcases h1 with ⟨v, h3, _, h4, _⟩ | ⟨_, h3⟩
  · exact ⟨v, h3, by rw [← joinS]; exact h4, h2⟩
  · exact absurd (by decide) h3
set_option maxHeartbeats 1000000 in
theorem speaks_calls (w : World) : Calls Try.prog 7 #[] w fun e w' => e = .returned (.bool true) ∧ Below w.heap.size w w' := by
  refine cps fun R hR => ?_
  obtain ⟨W, hW, hb, hs, ⟨c0, c1, c2, c3, c4⟩⟩ := box5 w 2 2 1 1000 2 23
  have es : W.heap.size = w.heap.size + 1 := by rw [hW]; simp
  have hsp := split3 W 5
  rw [es] at hsp
  have Hsp := hide hsp
  have Es := hide es
  have HW := hide hW
  clear hsp es hW
  go_enter Try.func7, Try.ntmps7
  go_wp2_with fail
  rw [← HW.out]
  refine Hsp.out.mono ?_
  rintro e w1 ⟨g, rfl, hr, hb1⟩
  have hb1' := hb.trans (hb1.mono (by omega))
  replace c0 := (hb1.cell (by simp)).trans c0
  replace c1 := (hb1.cell (by simp)).trans c1
  replace c2 := (hb1.cell (by simp)).trans c2
  replace c3 := (hb1.cell (by simp)).trans c3
  replace c4 := (hb1.cell (by simp)).trans c4
  obtain ⟨b, o, u, hA, hsb, hu, hcl⟩ := hr.at1 rfl (show 1 < 2 by omega)
  injection hA with hA
  injection hA with e1 e2 _
  subst e1; subst e2
  obtain ⟨A1, cc1, rfl, hc1, hm1, hr1⟩ := Kd.sl_cell hu
  have r1 := run_str (P := Try.prog) (w := w1) Try.underlying24 Try.underlying5 Try.underlying9 hr1.srcB cc1
  have hj := hide (join3 _ w1 hr)
  have q1 : ((bstr [3, 0]).toList == [3, 0]) = true := by rw [str2]; rfl
  have q2 : ((bstr [3, 0]).toList != [3, 0]) = false := by rw [str2]; rfl
  have r1' : (convert 24 9 (.slice A1 2 cc1)).run Try.prog w1 = .ok (.string (bstr [3, 0])) w1 := r1
  have hcl' : w1.cell? ⟨g, 1, none⟩ = some (.slice A1 2 cc1) := by simpa using hcl
  generalize bstr [3, 0] = s30 at r1' q1 q2
  clear hr hu hr1 hsb hb1 r1 hcl
  go_wp2_with fail
  refine hj.out.mono ?_
  rintro e w2 ⟨v, rfl, hrow, hb2⟩
  have hb2' := hb1'.trans (hb2.mono hb1'.size)
  obtain ⟨Av, cv, rfl, hcv, hmv⟩ := hrow.shape
  have r2 := run_str (P := Try.prog) (w := w2) Try.underlying24 Try.underlying5 Try.underlying9 hrow.src cv
  have r2' : (convert 24 9 (.slice Av 3 cv)).run Try.prog w2 = .ok (.string (bstr [1, 2, 3])) w2 := r2
  have q3 : ((bstr [1, 2, 3]).toList == [1, 2, 3]) = true := by rw [str3]; rfl
  generalize bstr [1, 2, 3] = s123 at r2' q3
  clear r2 hrow hb2
  go_wp2_with fail
  exact hR.out _ _ ⟨rfl, hb2'⟩
end Go.Proofs.Ytkmnlelfofebfaa
