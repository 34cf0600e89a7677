/- An object cut into blocks: the walk. -/
import Derived.Test.YtfkofhdgokhodaaOws
import Derived.Test.YtfkofhdgokhodaaPar0
set_option linter.unusedVariables false
set_option linter.unusedSimpArgs false
namespace Go.Proofs.Ytfkofhdgokhodaa
open Go.RowKit

/-- B bytes of o from place p on, noughts behind its end. -/
def cutL (o : List UInt8) (p B : Nat) : List UInt8 := (o.drop p).take B ++ List.replicate (B - (o.length - p)) 0
theorem cutL_len (o : List UInt8) (p B : Nat) : (cutL o p B).length = B := by
  simp only [cutL, List.length_append, List.length_take, List.length_drop, List.length_replicate]; omega
def splitL (N B : Nat) (o : List UInt8) : List (List UInt8) := (List.range N).map fun i => cutL o (i * B) B
theorem splitL_len (N B : Nat) (o : List UInt8) : (splitL N B o).length = N := by simp [splitL]
theorem splitL_get? (N B : Nat) (o : List UInt8) (i : Nat) : (splitL N B o)[i]? = if i < N then some (cutL o (i * B) B) else none := by
  by_cases h : i < N
  · simp [splitL, h, List.getElem?_range h]
  · simp [splitL, h]
/-- k blocks are there. -/
def splitK (N B : Nat) (o : List UInt8) (k : Nat) : List (List UInt8) := (splitL N B o).take k ++ List.replicate (N - k) []
theorem splitK_len (N B : Nat) (o : List UInt8) (k : Nat) (hk : k ≤ N) : (splitK N B o k).length = N := by simp [splitK, splitL_len]; omega
theorem splitK_zero (N B : Nat) (o : List UInt8) : splitK N B o 0 = List.replicate N [] := by simp [splitK]
theorem splitK_all (N B : Nat) (o : List UInt8) : splitK N B o N = splitL N B o := by
  simp [splitK, List.take_of_length_le (Nat.le_of_eq (splitL_len N B o))]
theorem splitK_succ (N B : Nat) (o : List UInt8) (k : Nat) (hk : k < N) : splitK N B o (k + 1) = (splitK N B o k).set k (cutL o (k * B) B) := by
  have hl : ((splitL N B o).take k).length = k := by rw [List.length_take, splitL_len]; omega
  have hg : (splitL N B o)[k]'(by rw [splitL_len]; exact hk) = cutL o (k * B) B := by
    have h1 := splitL_get? N B o k
    rw [if_pos hk, List.getElem?_eq_getElem (by rw [splitL_len]; exact hk)] at h1
    injection h1
  unfold splitK
  rw [List.set_append_right _ _ (by omega), hl, Nat.sub_self, List.take_succ_eq_append_getElem (by rw [splitL_len]; exact hk), hg]
  obtain ⟨m, hm⟩ : ∃ m, N - k = m + 1 := ⟨N - k - 1, by omega⟩
  rw [hm, show N - (k + 1) = m by omega, List.replicate_succ, List.set_cons_zero, List.append_assoc]
  rfl

theorem split_bad (N B Q E F : Int) (A : Option Addr) (n c : Nat) (w : World) (h : mayB N B Q E F = false) :
    Calls Try.prog 18 #[pV N B Q E F, .slice A n c] w fun e w' => e = .returned (.tuple #[.slice none 0 0, .int .i64 1]) ∧ Below w.heap.size w w' := by
  refine cps fun R hR => ?_
  have hc := fun w => check_calls N B Q E F w
  rw [h] at hc
  have Hc := hide hc
  clear hc h
  go_enter Try.func18, Try.ntmps18
  go_wp2_with fail
  refine (Hc.out _).mono ?_
  rintro e w1 ⟨rfl, hb1⟩
  have hb := (balloc w (.cells #[.int .i64 N, .int .i64 B, .int .i64 Q, .int .i64 E, .int .i64 F] 23)).trans (hb1.mono (by simp))
  go_wp2_with fail
  exact hR.out _ _ ⟨rfl, hb⟩

theorem split_long (N B Q E F : Int) (A : Option Addr) (n c : Nat) (w : World) (h : mayB N B Q E F = true) (hl : N * B < (n : Int)) (hn : n ≤ maxLen) :
    Calls Try.prog 18 #[pV N B Q E F, .slice A n c] w fun e w' => e = .returned (.tuple #[.slice none 0 0, .int .i64 10]) ∧ Below w.heap.size w w' := by
  refine cps fun R hR => ?_
  obtain ⟨hN1, hN2, hB1, hB2, -⟩ := may_bd h
  have hc := fun w => check_calls N B Q E F w
  rw [h] at hc
  have Hc := hide hc
  have Hm := hide (fun w => most_calls0 N B Q E F w (by omega) hN2 (by omega) hB2)
  clear hc h
  generalize hM : N * B = M at *
  have HM := hide hM
  clear hM
  go_enter Try.func18, Try.ntmps18
  go_wp2_with fail
  refine (Hc.out _).mono ?_
  rintro e w1 ⟨rfl, hb1⟩
  obtain ⟨W, hW, hb, hs, ⟨c0, c1, c2, c3, c4⟩⟩ := box5 w N B Q E F 23
  rw [← hW] at hb1
  replace c0 := (hb1.cell (by simpa using hs)).trans c0
  replace c1 := (hb1.cell (by simpa using hs)).trans c1
  replace c2 := (hb1.cell (by simpa using hs)).trans c2
  replace c3 := (hb1.cell (by simpa using hs)).trans c3
  replace c4 := (hb1.cell (by simpa using hs)).trans c4
  have hb1' := hb.trans (hb1.mono hb.size)
  clear hW hb hb1
  go_wp2_with fail
  refine (Hm.out _).mono ?_
  rintro e w2 ⟨rfl, hb2⟩
  have hb2' := hb1'.trans (hb2.mono hb1'.size)
  clear hb2
  go_wp2_with fail
  exact hR.out _ _ ⟨rfl, hb2'⟩

theorem cut_splice (o : List UInt8) (p B : Nat) (hp : p < o.length) : splice ((List.replicate B (0 : UInt8)).map encB) 0 (((o.drop p).take B).map encB) = (cutL o p B).map encB := by
  unfold splice cutL
  rw [List.take_zero, List.nil_append, List.map_append]
  congr 1
  simp only [List.length_map, List.length_take, List.length_drop, Nat.zero_add, List.map_replicate, List.drop_replicate]
  congr 1
  omega
theorem cut_none (o : List UInt8) (p B : Nat) (hp : o.length ≤ p) : cutL o p B = List.replicate B 0 := by
  unfold cutL
  rw [List.drop_eq_nil_of_le hp, show B - (o.length - p) = B by omega]; simp

theorem addr_add (b off p : Nat) : (⟨b, off, none⟩ : Addr).add p = ⟨b, off + p, none⟩ := by unfold Addr.add; split <;> simp_all
theorem rest_src {S : Nat → Prop} {w : World} {b off c p B : Nat} {o : List UInt8} (h : RdL Kd.byte S w (some ⟨b, off, none⟩) o) (hp : p ≤ o.length) (hc : o.length ≤ c) (hcp : ¬ c = p) : Src w (some ⟨b, off + p, none⟩) (((o.drop p).take B).map encB) := by
  have h1 := ((h.drop p c hp hc).take B).srcB
  rw [if_neg hcp] at h1
  simp only [Option.map_some, show p * Kd.byte.sz = p from Nat.mul_one p, addr_add] at h1
  exact h1
theorem ow_made {S : Nat → Prop} {w : World} {g B : Nat} {xs : List UInt8} {t : TypeId} (hl : xs.length = B) (hB : B ≤ maxLen) (hh : w.heap[g]? = some (.cells (xs.map encB).toArray t (0, 0))) (hs : S g) : Kd.ow.R S w xs [.slice (some ⟨g, 0, none⟩) B B] := by
  subst hl
  exact ⟨_, _, rfl, Nat.le_refl _, hB, fun _ => ⟨g, [], t, rfl, hs, by rw [List.append_nil]; exact hh⟩⟩
/-- One block more: what stood behind the walk's steps. -/
theorem split_step {w2 wr X w' : World} {N B k p : Nat} {o : List UInt8} {t : TypeId} (hk : k < N) (hsr : w2.heap.size < wr.heap.size) (hB : B ≤ 100)
    (hrow : ORow Kd.ow (fun q => w2.heap.size < q ∧ q < wr.heap.size) wr t (.slice (some ⟨w2.heap.size, 0, none⟩) N N) (splitK N B o k))
    (hk1 : splitK N B o (k + 1) = (splitK N B o k).set k (cutL o p B)) (X1 : X.heap.size = wr.heap.size + 1) (X4 : ∀ b, b < wr.heap.size → b ≠ w2.heap.size → X.heap[b]? = wr.heap[b]?)
    (X5 : X.heap[w2.heap.size]? = (wr.setCell ⟨w2.heap.size, k, none⟩ (.slice (some ⟨wr.heap.size, 0, none⟩) B B)).heap[w2.heap.size]?) (X6 : Ch (· = w2.heap.size) wr X) (hbr : Below w2.heap.size w2 wr)
    (hw : Below wr.heap.size X w') (hh : w'.heap[wr.heap.size]? = some (.cells ((cutL o p B).map encB).toArray 5 (0, 0))) :
    ORow Kd.ow (fun q => w2.heap.size < q ∧ q < w'.heap.size) w' t (.slice (some ⟨w2.heap.size, 0, none⟩) N N) (splitK N B o (k + 1)) ∧ Below w2.heap.size w2 w' ∧ w2.heap.size < w'.heap.size := by
  have hsz := hw.size
  refine ⟨?_, hbr.trans ((X6.toBelow (B := w2.heap.size) (Nat.le_of_lt hsr) fun b hb => by omega).trans (hw.mono (Nat.le_of_lt hsr))), by omega⟩
  rw [hk1]
  refine hrow.put rfl (by rw [splitK_len _ _ _ _ (Nat.le_of_lt hk)]; exact hk) (fun q hq => (hw.block q hq.2).trans (X4 q hq.2 (by omega))) ((hw.block _ hsr).trans X5) (ow_made (cutL_len _ _ _) (by unfold maxLen; omega) hh ⟨by omega, by omega⟩) fun q hq => ⟨hq.1, by omega⟩

set_option maxHeartbeats 2000000 in
set_option maxRecDepth 100000 in
theorem split_yes (N B : Nat) (Q E F : Int) (A : Option Addr) (o : List UInt8) (c : Nat) (w : World) (h : mayB N B Q E F = true) (hN : N ≤ 100) (hB : B ≤ 100) (hl : o.length ≤ N * B) (hm : c ≤ maxLen) (hc : o.length ≤ c)
    (ho : RdL Kd.byte (· < w.heap.size) w A o) :
    Calls Try.prog 18 #[pV N B Q E F, .slice A o.length c] w fun e w' => ∃ g, e = .returned (.tuple #[.slice (some ⟨g, 0, none⟩) N N, .int .i64 0]) ∧
      ORow Kd.ow (fun k => g < k ∧ k < w'.heap.size) w' 39 (.slice (some ⟨g, 0, none⟩) N N) (splitL N B o) ∧ w.heap.size ≤ g ∧ g < w'.heap.size ∧ Below w.heap.size w w' := by
  refine cps fun R hR => ?_
  have hc0 := fun w => check_calls N B Q E F w
  rw [h] at hc0
  have Hc := hide hc0
  have Hm := hide (fun w => most_calls0 N B Q E F w (by omega) (by omega) (by omega) (by omega))
  clear hc0 h
  have hNB : N * B ≤ 100 * 100 := Nat.mul_le_mul hN hB
  obtain ⟨M, hM⟩ : ∃ M, M = N * B := ⟨_, rfl⟩
  have eM : (N : Int) * (B : Int) = (M : Int) := by rw [hM]; simp
  rw [eM] at Hm
  rw [← hM] at hNB hl
  have HM := hide hM
  clear hM eM
  have Ho := hide ho
  clear ho
  unfold maxLen at hm
  have hmk := make_rows N (by omega)
  have hmb := make_bytes B (by omega)
  have hMb : decide (M < o.length) = false := by simpa using hl
  go_enter Try.func18, Try.ntmps18
  go_wp2_with fail
  refine (Hc.out _).mono ?_
  rintro e w1 ⟨rfl, hb1⟩
  obtain ⟨W, hW, hb, hs, ⟨c0, c1, c2, c3, c4⟩⟩ := box5 w N B Q E F 23
  rw [← hW] at hb1
  replace c0 := (hb1.cell (by simpa using hs)).trans c0
  replace c1 := (hb1.cell (by simpa using hs)).trans c1
  replace c2 := (hb1.cell (by simpa using hs)).trans c2
  replace c3 := (hb1.cell (by simpa using hs)).trans c3
  replace c4 := (hb1.cell (by simpa using hs)).trans c4
  have hb1' := hb.trans (hb1.mono hb.size)
  have hs1 := Nat.lt_of_lt_of_le hs hb1.size
  clear hW hb hb1 hs
  go_wp2_with fail
  refine (Hm.out _).mono ?_
  rintro e w2 ⟨rfl, hb2⟩
  have hb2' := hide (hb1'.trans (hb2.mono hb1'.size))
  replace c0 := (hb2.cell (by simpa using hs1)).trans c0
  replace c1 := (hb2.cell (by simpa using hs1)).trans c1
  have hs2 := Nat.lt_of_lt_of_le hs1 hb2.size
  clear hb2 hb1' c2 c3 c4 hs1
  go_wp2_with fail
  have hmade := hide (ORow.made (S := fun k => w2.heap.size < k ∧ k < (w2.alloc (.cells (madeCells #[.slice none 0 0] N) 39)).heap.size) w2 39 N (by simp [maxLen]; omega))
  go_loopw [25] (fun i wr => ∃ k : Nat, k ≤ N ∧ i = .int .i64 (k : Int) ∧ ORow Kd.ow (fun q => w2.heap.size < q ∧ q < wr.heap.size) wr 39 (.slice (some ⟨w2.heap.size, 0, none⟩) N N) (splitK N B o k) ∧ Below w2.heap.size w2 wr ∧ w2.heap.size < wr.heap.size) (fun i _ => N - (intOf i).toNat)
  case atStart => exact ⟨0, Nat.zero_le _, rfl, by rw [splitK_zero]; exact hmade.out, balloc _ _, by simp⟩
  case round =>
    obtain ⟨k, hk, rfl, hrow, hbr, hsr⟩ := hrel
    by_cases hlt : k < N
    · have c1r := (hbr.cell hs2).trans c1
      have Hk := hide (splitK_succ N B o k hlt)
      have hkl := splitK_len N B o k hk
      have Hrow := hide hrow
      have Hbr := hide hbr
      have hor := hide ((Ho.out.below hb2'.out).mono fun q hq => Nat.lt_of_lt_of_le hq hb2'.out.size)
      obtain ⟨p, hp⟩ : ∃ p, p = k * B := ⟨_, rfl⟩
      have ep : (k : Int) * (B : Int) = (p : Int) := by rw [hp]; simp
      have hpb : p ≤ 100 * 100 := by rw [hp]; exact Nat.mul_le_mul (by omega) hB
      rw [← hp] at Hk
      have e1 : IntKind.i64.wrap ((k : Int) * (B : Int)) = (p : Int) := by rw [ep, IntKind.wrap_i64]; omega
      obtain ⟨u0, hcl0, hfz0, -⟩ := hrow.cell1 rfl (by rw [hkl]; exact hlt)
      clear hp ep hkl
      obtain ⟨X, hX⟩ : ∃ X, X = (wr.setCell ⟨w2.heap.size, k, none⟩ (.slice (some ⟨wr.heap.size, 0, none⟩) B B)).alloc (.cells (madeCells #[.int .u8 0] B) 5) := ⟨_, rfl⟩
      obtain ⟨x1, x2, x3, x4, x5, x6⟩ := set_alloc hX hsr hcl0
      have y1 : X.cell? ⟨w.heap.size, 1, none⟩ = some (.int .i64 (B : Int)) := x6.cell c1r (by simp; omega)
      have hc1X := y1
      rw [hX] at y1
      have X1 := hide x1
      have X3 := hide x3
      have X4 := hide x4
      have X5 := hide x5
      have X6 := hide x6
      have HX := hide hX
      clear x1 x3 x4 x5 x6 hX hrow hbr
      by_cases hpo : p < o.length
      · obtain ⟨b, off, rfl, hsb, hcell⟩ := hor.out (by omega)
        have hcp : ¬ c = p := by omega
        have hpc : p ≤ c := by omega
        have Hcell := hide hcell
        clear hcell
        have Hcl0 := hide hcl0
        go_wp2_with fail
        rw [← HX.out]
        clear y1 hcl0 hfz0 c1r c0 c1
        have z1 : (k : Int) < (N : Int) := by omega
        have z2 : (p : Int) ≤ (o.length : Int) := by omega
        have z3 : (o.length : Int) ≤ (c : Int) := by omega
        go_still_tail 7, (by kernel_rfl)
        have hsrc := hide (rest_src (B := B) ((hor.out.below Hbr.out).keep (w' := X) fun q hq => X4.out q (by omega) (by omega)) (Nat.le_of_lt hpo) hc hcp)
        have hcs := hide (cut_splice o p B hpo)
        have hcl : (((o.drop p).take B).map encB).length = Nat.min (o.length - p) B := by simp [Nat.min_def]; split <;> split <;> omega
        have hcl' := hide (show (((o.drop p).take B).map encB).length ≤ B by rw [hcl]; exact Nat.min_le_right _ _)
        have Hcl := hide hcl
        have h1c := hide (encB_one ((o.drop p).take B))
        generalize hcss : ((o.drop p).take B).map encB = cs at hsrc hcs Hcl h1c hcl'
        clear hcl
        go_wp2_with (refine wpList_copy_splice rfl (.tmp 45) (.tmp 48) 39 39 rfl 5 Try.underlying39 (by kernel_rfl) (some ⟨wr.heap.size, 0, none⟩) (some ⟨b, off + p, none⟩) B B (o.length - p) (c - p) rfl ?_ wr.heap.size 0 ((List.replicate B (0 : UInt8)).map encB) 5 ?_ cs ?_ ?_ ?_ ?_ wr.heap.size X ?_ (Nat.le_refl _) ?_)
        case refine_1 => rfl
        case refine_2 => rw [show (Obj.cells (Array.replicate B (encB 0)) 5) = .cells (madeCells #[.int .u8 0] B) 5 by rw [made_cells]; simp]; exact X3.out
        case refine_3 => exact Hcl.out
        case refine_4 => intro hp; exact fun j v hv => by
                           obtain ⟨ad, e, hc'⟩ := hsrc.out hp
                           injection e with e
                           subst e
                           have := hc' j v hv
                           rwa [addr_add] at this
        case refine_5 => have := hcl'.out; simp; omega
        case refine_6 => exact h1c.out
        case refine_7 => exact ⟨rfl, rfl, rfl, Nat.le_refl _, fun _ _ => rfl⟩
        case refine_8 =>
        intro w' hg' hb'
        have hfin := hide (split_step hlt hsr hB Hrow.out Hk.out X1.out X4.out X5.out X6.out Hbr.out hb' (by rw [← hcs.out]; simpa using hg'.out))
        clear hb'
        go_wp2_with fail
        go_roundw
        case rel => exact ⟨k + 1, by omega, by go_num, hfin.out.1, hfin.out.2⟩
        case measure => simp [intOf]; omega
      · have hfin := hide (split_step hlt hsr hB Hrow.out Hk.out X1.out X4.out X5.out X6.out Hbr.out (Below.refl _ _) (by rw [cut_none o p B (by omega), ← made_cells]; exact X3.out))
        go_wp2_with fail
        rw [← HX.out]
        go_roundw
        case rel => exact ⟨k + 1, by omega, by go_num, hfin.out.1, hfin.out.2⟩
        case measure => simp [intOf]; omega
    · obtain rfl : k = N := by omega
      rw [splitK_all] at hrow
      have Hrow := hide hrow
      have hbe := hide (hb2'.out.trans (hbr.mono hb2'.out.size))
      have hs3 := hb2'.out.size
      clear hrow c0 c1 hmk hmb
      go_wp2_with fail
      exact hR.out _ _ ⟨_, rfl, Hrow.out, hs3, hsr, hbe.out⟩
end Go.Proofs.Ytfkofhdgokhodaa
