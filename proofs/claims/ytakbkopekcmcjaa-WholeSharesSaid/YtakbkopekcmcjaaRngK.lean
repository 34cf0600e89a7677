/- A rng's numbers, walked: New and Next. -/
import Derived.Test.YtakbkopekcmcjaaU
set_option linter.unusedVariables false
set_option linter.unusedSimpArgs false
namespace Go.Proofs.Ytakbkopekcmcjaa
open Go.RowKit

/-- A number, well mixed. -/
def mix64 (z : UInt64) : UInt64 :=
  let a := (z ^^^ z >>> 30) * 13787848793156543929
  let b := (a ^^^ a >>> 27) * 10723151780598845931
  b ^^^ b >>> 31
theorem mix_raw (z : UInt64) : bits BinOp.xor IntKind.u64
    (IntKind.u64.wrap (bits BinOp.xor IntKind.u64 (IntKind.u64.wrap (bits BinOp.xor IntKind.u64 (z.toNat : Int) ((z.toNat : Int) / 1073741824) * 13787848793156543929)) (IntKind.u64.wrap (bits BinOp.xor IntKind.u64 (z.toNat : Int) ((z.toNat : Int) / 1073741824) * 13787848793156543929) / 134217728) * 10723151780598845931))
    (IntKind.u64.wrap (bits BinOp.xor IntKind.u64 (IntKind.u64.wrap (bits BinOp.xor IntKind.u64 (z.toNat : Int) ((z.toNat : Int) / 1073741824) * 13787848793156543929)) (IntKind.u64.wrap (bits BinOp.xor IntKind.u64 (z.toNat : Int) ((z.toNat : Int) / 1073741824) * 13787848793156543929) / 134217728) * 10723151780598845931) / 2147483648) = ((mix64 z).toNat : Int) := by
  have e1 : ∀ a : UInt64, (a.toNat : Int) / (1073741824 : Int) = ((a >>> 30).toNat : Int) := fun a => by have := shr64 a 30 (by omega); simpa using this
  have e2 : ∀ a : UInt64, (a.toNat : Int) / (134217728 : Int) = ((a >>> 27).toNat : Int) := fun a => by have := shr64 a 27 (by omega); simpa using this
  have e3 : ∀ a : UInt64, (a.toNat : Int) / (2147483648 : Int) = ((a >>> 31).toNat : Int) := fun a => by have := shr64 a 31 (by omega); simpa using this
  have m1 : ∀ a : UInt64, IntKind.u64.wrap ((a.toNat : Int) * 13787848793156543929) = ((a * 13787848793156543929).toNat : Int) := fun a => mul64n a 13787848793156543929 (by omega)
  have m2 : ∀ a : UInt64, IntKind.u64.wrap ((a.toNat : Int) * 10723151780598845931) = ((a * 10723151780598845931).toNat : Int) := fun a => mul64n a 10723151780598845931 (by omega)
  rw [e1, xor64, m1, e2, xor64, m2, e3, xor64]
  rfl
theorem mix_calls (z : UInt64) (w : World) : Calls Try.prog 24 #[.int .u64 (z.toNat : Int)] w fun e w' => e = .returned (.int .u64 ((mix64 z).toNat : Int)) ∧ w = w' := by
  refine cps fun R hR => ?_
  go_enter Try.func24, Try.ntmps24
  go_wp2
  refine hR.out _ _ ⟨?_, rfl⟩
  simp [mix_raw z]
theorem div_raw (a : UInt64) (k : Nat) (hk : k < 64) : IntKind.u64.wrap ((a.toNat : Int).tdiv ((2 ^ k : Nat) : Int)) = ((a >>> UInt64.ofNat k).toNat : Int) := by
  rw [Int.tdiv_eq_ediv_of_nonneg (by omega), shr64 a k hk, wrap_u64']
  have := (a >>> UInt64.ofNat k).toNat_lt
  omega

def stepC : UInt64 := 11400714819323198485
theorem step_raw (s : UInt64) : IntKind.u64.wrap ((s.toNat : Int) + 11400714819323198485) = ((s + stepC).toNat : Int) := add64n s 11400714819323198485 (by omega)
def seedF (l : List UInt64) : UInt64 := l.foldl (fun s x => mix64 ((s + stepC) ^^^ x)) 0
theorem seedF_snoc (l : List UInt64) (x : UInt64) : seedF (l ++ [x]) = mix64 ((seedF l + stepC) ^^^ x) := by simp [seedF, List.foldl_append]

/-- A Rand at block g with the state s. -/
def RandAt (w : World) (g : Nat) (s : UInt64) : Prop := w.heap[g]? = some (.cells #[.int .u64 (s.toNat : Int)] 61 (0, 0))
theorem RandAt.cell {w : World} {g : Nat} {s : UInt64} (h : RandAt w g s) : w.cell? ⟨g, 0, none⟩ = some (.int .u64 (s.toNat : Int)) := cell_of_row w g 0 _ _ _ h
theorem RandAt.frozen {w : World} {g : Nat} {s : UInt64} (h : RandAt w g s) : w.frozen? ⟨g, 0, none⟩ = false := by
  unfold RandAt at h
  simp [World.frozen?, h]
theorem RandAt.set {w : World} {g : Nat} {s : UInt64} (h : RandAt w g s) (t : UInt64) : RandAt (w.setCell ⟨g, 0, none⟩ (.int .u64 (t.toNat : Int))) g t := by
  unfold RandAt at h ⊢
  simp [World.setCell, Array.getElem?_modify, h]
theorem RandAt.lt {w : World} {g : Nat} {s : UInt64} (h : RandAt w g s) : g < w.heap.size := by
  rcases Nat.lt_or_ge g w.heap.size with hlt | hge
  · exact hlt
  · unfold RandAt at h; rw [Array.getElem?_eq_none hge] at h; cases h

theorem next_calls (g : Nat) (s : UInt64) (w : World) (h : RandAt w g s) : Calls Try.prog 18 #[.pointer (some ⟨g, 0, none⟩)] w fun e w' =>
    e = .returned (.int .u64 ((mix64 (s + stepC)).toNat : Int)) ∧ w.setCell ⟨g, 0, none⟩ (.int .u64 ((s + stepC).toNat : Int)) = w' := by
  refine cps fun R hR => ?_
  have hc := h.cell
  have hf := h.frozen
  have hs := step_raw s
  generalize s + stepC = t at hs hR ⊢
  have hc' := (h.set t).cell
  have Hs := hide hs
  clear hs
  go_enter Try.func18, Try.ntmps18
  go_wp2_with fail
  rw [Hs.out]
  refine (mix_calls _ _).mono ?_
  rintro e w1 ⟨rfl, rfl⟩
  generalize mix64 t = m at hR ⊢
  go_wp2_with fail
  exact hR.out _ _ ⟨rfl, rfl⟩

theorem rngnew_calls (A : Option Addr) (c : Nat) (xs : List UInt64) (S : Nat → Prop) (w : World) (hm : c ≤ maxLen) (hc : xs.length ≤ c) (hS : ∀ k, S k → k < w.heap.size) (h : RdL Kd.u64 S w A xs) :
    Calls Try.prog 17 #[.slice A xs.length c] w fun e w' => e = .returned (.pointer (some ⟨w.heap.size, 0, none⟩)) ∧ RandAt w' w.heap.size (seedF xs) ∧ Below w.heap.size w w' := by
  refine cps fun R hR => ?_
  unfold maxLen at hm
  have hsnoc : ∀ k (hk : k < xs.length), xs.take (k + 1) = xs.take k ++ [xs[k]] := fun k hk => by rw [List.take_succ_eq_append_getElem hk]
  have Hsnoc := hide hsnoc
  clear hsnoc
  go_enter Try.func17, Try.ntmps17
  go_wp2_with fail
  go_loopw [10] (fun i wr => ∃ k : Nat, k ≤ xs.length ∧ i = .int .i64 (k : Int) ∧ RandAt wr w.heap.size (seedF (xs.take k)) ∧ Below w.heap.size w wr) (fun i _ => xs.length - (intOf i).toNat)
  case atStart => exact ⟨0, Nat.zero_le _, rfl, heap_alloc_new w _, (Below.refl _ _).alloc (Nat.le_refl _) _⟩
  case round =>
    obtain ⟨k, hk, rfl, hst, hb⟩ := hrel
    by_cases hlt : k < xs.length
    · obtain ⟨b, off, u, rfl, hsb, hu, hcell⟩ := (h.keep fun j hj => hb.block j (hS j hj)).at1 rfl hlt
      obtain rfl := Kd.u64_cell hu
      have hnext := seedF_snoc (xs.take k) xs[k]
      rw [← Hsnoc.out k hlt] at hnext
      have Hnext := hide hnext
      clear hnext
      generalize hs : seedF (xs.take k) = s at hst Hnext
      clear hs
      have hst' := fun t => RandAt.set hst t
      have Hst := hide hst'
      clear hst'
      have c0 := hst.cell
      have f0 := hst.frozen
      have hraw := xor64 (s + stepC) xs[k]
      rw [← step_raw] at hraw
      have Hraw := hide hraw
      clear hraw
      generalize xs[k] = x at hcell Hnext Hraw ⊢
      generalize (s + stepC) ^^^ x = y at Hnext Hraw ⊢
      generalize hm' : mix64 y = m at Hnext ⊢
      have Hm := hide hm'
      clear hm'
      go_wp2_with fail
      rw [Hraw.out]
      refine (mix_calls _ _).mono ?_
      rintro e w1 ⟨rfl, rfl⟩
      rw [Hm.out]
      go_wp2_with fail
      go_roundw
      case rel => exact ⟨k + 1, by omega, by go_num, by rw [Hnext.out]; exact Hst.out m, hb.setCell (Nat.le_refl _) _⟩
      case measure => simp [intOf]; omega
    · obtain rfl : k = xs.length := by omega
      rw [List.take_length] at hst
      go_wp2_with fail
      exact hR.out _ _ ⟨rfl, hst, hb⟩


end Go.Proofs.Ytakbkopekcmcjaa
