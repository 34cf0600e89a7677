/- The document's Put, walked. -/
import Derived.Test.YtoiojkjmldlhcaaWireBack
import Derived.Laws.MakeOwn
set_option linter.unusedVariables false
set_option linter.unusedSimpArgs false
namespace Go.Proofs.Ytoiojkjmldlhcaa
open Go.RowKit

/-- make([]byte, n). -/
theorem make_bytes (n : Nat) (hn : n ≤ 281474976710656) (w : World) : (Instr.makeSlice 24 (.int .i64 (n : Int)) (.int .i64 (n : Int))).run Try.prog w = .ok (.slice (some ⟨w.heap.size, 0, none⟩) n n) (w.alloc (.cells (madeCells #[.int .u8 0] n) 5)) :=
  run_make_row' 24 5 (.int .u8 0) 1 Try.underlying24 infoB rfl .i64 .i64 n (by omega) (by omega) w
theorem made_cells (n : Nat) : madeCells #[.int .u8 0] n = ((List.replicate n (0 : UInt8)).map encB).toArray := by
  rw [List.map_replicate, ← Array.toList_inj, toList_madeCells_one]; rfl
theorem Wr.made (w : World) (n : Nat) : Wr (w.alloc (.cells (madeCells #[.int .u8 0] n) 5)) (some ⟨w.heap.size, 0, none⟩) w.heap.size [] [] 5 (List.replicate n 0) := fun hp => by
  refine ⟨rfl, ?_⟩
  rw [made_cells, heap_alloc_new]
  simp
/-- Two appends onto an empty literal. -/
theorem Fresh.two {w wr w2 w3 : World} {v2 v3 : Value} {xs ys : List UInt8} {o : Obj} (hb : Below w.heap.size w wr) (g2 : (wr.alloc o).grownBy w2 (Value.slice (some ⟨wr.heap.size, 0, none⟩) 0 0).ownBlock)
    (a2 : v2.ownBlock = (Value.slice (some ⟨wr.heap.size, 0, none⟩) 0 0).ownBlock ∨ v2.ownBlock = some (wr.alloc o).heap.size) (h3 : Row w3 5 v3 ([] ++ xs.map encB ++ ys.map encB)) (g3 : w2.grownBy w3 v2.ownBlock) (a3 : v3.ownBlock = v2.ownBlock ∨ v3.ownBlock = some w2.heap.size) :
    Fresh w w3 v3 (xs ++ ys) ∧ Below wr.heap.size wr w3 := by
  have s0 : (wr.alloc o).heap.size = wr.heap.size + 1 := by simp
  have s2 := hb.size
  have s3 := g2.size
  have b1 : Below wr.heap.size wr w2 := (balloc wr o).grown g2 (by omega) (fun q hq => by simp [Value.ownBlock] at hq; omega)
  have o2 : ∀ q, v2.ownBlock = some q → wr.heap.size ≤ q := fun q hq => by
    rcases a2 with a2 | a2 <;> rw [a2] at hq <;> simp [Value.ownBlock] at hq <;> omega
  have b2 := b1.grown g3 (by omega) o2
  refine ⟨⟨by rw [List.map_append]; simpa using h3, hb.trans (b2.mono s2), fun q hq => ?_⟩, b2⟩
  rcases a3 with a3 | a3
  · exact Nat.le_trans s2 (o2 q (a3 ▸ hq))
  · rw [a3] at hq; injection hq with hq; omega
/-- j bytes are still to be put. -/
def putK (n m j : Nat) : List UInt8 := List.replicate j 0 ++ putL n (m - j)
theorem putK_len (n m j : Nat) (h : j ≤ m) : (putK n m j).length = m := by
  unfold putK; rw [List.length_append, List.length_replicate, putL_len]; omega
theorem putK_step (n m j : Nat) (h : j + 1 ≤ m) : (putK n m (j + 1)).set j (UInt8.ofNat (n / 256 ^ (m - (j + 1)) % 256)) = putK n m j := by
  unfold putK
  rw [List.replicate_succ', List.append_assoc, List.set_append_right _ _ (by simp), List.length_replicate, Nat.sub_self, List.singleton_append, List.set_cons_zero]
  congr 1
  rw [show m - j = (m - (j + 1)) + 1 by omega, putL]
  congr 1
  apply UInt8.toNat_inj.1
  rw [UInt8.toNat_ofNat', UInt8.toNat_ofNat']
  omega
theorem put_mod (y : Nat) : IntKind.u8.wrap (((y : Int)) % 256) = ((UInt8.ofNat (y % 256)).toNat : Int) := by
  rw [UInt8.toNat_ofNat']
  simp [IntKind.wrap, IntKind.bits, IntKind.signed]

theorem refput_calls (v : Value) (bs : List UInt8) (n m : Nat) (w : World) (hn : n < 18446744073709551616) (hm : m ≤ 8) (hl : bs.length ≤ 100000) (hr : Row w 5 v (bs.map encB)) :
    Calls Try.prog 22 #[v, .int .u64 (n : Int), .int .i64 (m : Int)] w fun e w' => ∃ v', e = .returned v' ∧ Fresh w w' v' (bs ++ putL n m) := by
  refine cps fun R hR => ?_
  obtain ⟨A, c, rfl, hc1, hc2⟩ := hr.shape
  have Hr := hide hr
  have Hn := hide hn
  have hmk := make_bytes m (by omega)
  have hml := hide (show ((bs.map encB).length) = bs.length by simp)
  rw [hml.out] at hc1 ⊢
  have hmk' := hmk w
  clear hr hn hmk
  go_enter Try.func22, Try.ntmps22
  go_wp2_with fail
  go_loopw [1, 8] (fun x i wr => ∃ (q : Int) (j : Nat), i = .int .i64 q ∧ q = (j : Int) - 1 ∧ j ≤ m ∧ x = .int .u64 ((n / 256 ^ (m - j) : Nat) : Int) ∧ Wr wr (some ⟨w.heap.size, 0, none⟩) w.heap.size [] [] 5 (putK n m j) ∧ Below w.heap.size w wr ∧ w.heap.size < wr.heap.size) (fun _ i _ => (intOf i + 1).toNat)
  case atStart => exact ⟨_, m, rfl, rfl, Nat.le_refl _, by simp, by have := Wr.made w m; simpa [putK, putL] using this, (Below.refl _ _).alloc (Nat.le_refl _) _, by simp⟩
  case round =>
    obtain ⟨q, j, rfl, hq, hj, rfl, hwr, hbr, hlt⟩ := hrel
    rcases Nat.eq_zero_or_pos j with h0 | h0
    · obtain rfl : q = -1 := by omega
      subst h0
      clear hq
      rw [show putK n m 0 = putL n m by simp [putK]] at hwr
      have Hwr := hide hwr
      have hrr := hide (Hr.out.keep (w' := wr) fun k hk => hbr.block k (Hr.out.lt hk))
      clear hwr hmk'
      go_wp2_with (at_builtin; with_reducible refine wp_app 27 rfl rfl (.tmp 25) (.tmp 26) 24 rfl Try.underlying24 infoB ?_ (v := .slice (some ⟨wr.heap.size, 0, none⟩) 0 0) (us := []) ?_ (Row.lit [] (by simp)) (A := A) (c := c) (news := bs.map encB) ?_ ?_ (encB_one _) ?_ ?_ ?_)
      case refine_1 => rfl
      case refine_2 => rfl
      case refine_3 => rw [hml.out]; rfl
      case refine_4 => exact (hrr.out.keep fun k hk => (balloc wr _).block k (hrr.out.lt hk)).src
      case refine_5 => rw [hml.out]; simp; omega
      case refine_6 => rw [hml.out]; simp [maxLen]; omega
      case refine_7 =>
        intro v2 w2 h2 g2 a2
        have hwr2 := Hwr.out.keep (w' := w2) ((g2.block _ (by simp; omega) (by simp [Value.ownBlock]; omega)).trans ((balloc wr _).block _ hlt))
        have h2' := hide h2
        have g2' := hide g2
        have a2' := hide a2
        clear h2 g2 a2
        have hpl := hide (show ((putL n m).map encB).length = m by rw [List.length_map, putL_len])
        go_wp2_with (at_builtin; with_reducible refine wp_app 29 rfl rfl (.tmp 27) (.tmp 28) 24 rfl Try.underlying24 infoB ?_ (v := v2) (us := [] ++ bs.map encB) ?_ h2'.out (A := some ⟨w.heap.size, 0, none⟩) (c := m) (news := (putL n m).map encB) ?_ hwr2.src (encB_one _) ?_ ?_ ?_)
        case refine_1 => rfl
        case refine_2 => rfl
        case refine_3 => rw [hpl.out]; rfl
        case refine_4 => rw [hpl.out, List.nil_append, hml.out]; omega
        case refine_5 => rw [hpl.out, List.nil_append, hml.out]; unfold maxLen; omega
        case refine_6 =>
          intro v3 w3 h3 g3 a3
          have hfin := (Fresh.two hbr g2'.out a2'.out h3 g3 a3).1
          clear h3 g3 a3 hwr2
          go_wp2_with fail
          exact hR.out _ _ ⟨_, rfl, hfin⟩
    · obtain ⟨k, rfl⟩ : ∃ k, j = k + 1 := ⟨j - 1, by omega⟩
      obtain rfl : q = (k : Int) := by omega
      clear hq
      have hkl : k < (putK n m (k + 1)).length := by rw [putK_len n m (k + 1) hj]; omega
      obtain ⟨-, hc1', hf1⟩ := hwr.cell hkl
      simp only [List.length_nil, Nat.zero_add] at hc1' hf1
      have hset := hwr.set hkl (UInt8.ofNat (n / 256 ^ (m - (k + 1)) % 256))
      rw [putK_step n m k hj] at hset
      simp only [List.length_nil, Nat.zero_add] at hset
      have hy := hide (fits_rec n (m - (k + 1)))
      have hy64 := hide (Nat.lt_of_le_of_lt (Nat.div_le_self n (256 ^ (m - (k + 1)))) Hn.out)
      have Hset := hide hset
      clear hset hwr
      generalize (putK n m (k + 1))[k] = old at hc1'
      generalize n / 256 ^ (m - (k + 1)) = y at Hset hy hy64 ⊢
      have hm8 := put_mod y
      generalize UInt8.ofNat (y % 256) = x at Hset hm8
      go_wp2_with fail
      go_roundw
      case rel => 
        refine ⟨_, k, rfl, by omega, by omega, by rw [wrap_div hy64.out, hy.out, show m - (k + 1) + 1 = m - k by omega], Hset.out, hbr.trans ((Ch.set wr _ _).toBelow (Nat.le_of_lt hlt) (fun b hb => Nat.le_of_eq (show w.heap.size = b from Eq.symm hb))), by simpa [World.setCell] using hlt⟩
      case measure => simp [intOf]
end Go.Proofs.Ytoiojkjmldlhcaa
