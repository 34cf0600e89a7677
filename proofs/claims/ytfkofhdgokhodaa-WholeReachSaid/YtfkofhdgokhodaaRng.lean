/- What the rng functions and the reference's own draw, walked. -/
import Derived.Test.YtfkofhdgokhodaaU
set_option linter.unusedVariables false
set_option linter.unusedSimpArgs false
namespace Go.Proofs.Ytfkofhdgokhodaa
open Go.RowKit

/-- A number, well mixed. -/
def mix64 (z : UInt64) : UInt64 :=
  let a := (z ^^^ z >>> 30) * 13787848793156543929
  let b := (a ^^^ a >>> 27) * 10723151780598845931
  b ^^^ b >>> 31
theorem mix_raw (z : UInt64) : bits BinOp.xor IntKind.u64
    (IntKind.u64.wrap (bits BinOp.xor IntKind.u64 (IntKind.u64.wrap (bits BinOp.xor IntKind.u64 (z.toNat : Int) ((z.toNat : Int) / 1073741824) * 13787848793156543929)) (IntKind.u64.wrap (bits BinOp.xor IntKind.u64 (z.toNat : Int) ((z.toNat : Int) / 1073741824) * 13787848793156543929) / 134217728) * 10723151780598845931))
    (IntKind.u64.wrap (bits BinOp.xor IntKind.u64 (IntKind.u64.wrap (bits BinOp.xor IntKind.u64 (z.toNat : Int) ((z.toNat : Int) / 1073741824) * 13787848793156543929)) (IntKind.u64.wrap (bits BinOp.xor IntKind.u64 (z.toNat : Int) ((z.toNat : Int) / 1073741824) * 13787848793156543929) / 134217728) * 10723151780598845931) / 2147483648) = ((mix64 z).toNat : Int) := by
  have e1 : ∀ a : UInt64, (a.toNat : Int) / (1073741824 : Int) = ((a >>> 30).toNat : Int) := fun a => by have := shr64 a 30 (by omega); simpa using this
  have e2 : ∀ a : UInt64, (a.toNat : Int) / (134217728 : Int) = ((a >>> 27).toNat : Int) := fun a => by have := shr64 a 27 (by omega); simpa using this
  have e3 : ∀ a : UInt64, (a.toNat : Int) / (2147483648 : Int) = ((a >>> 31).toNat : Int) := fun a => by have := shr64 a 31 (by omega); simpa using this
  have m1 : ∀ a : UInt64, IntKind.u64.wrap ((a.toNat : Int) * 13787848793156543929) = ((a * 13787848793156543929).toNat : Int) := fun a => mul64n a 13787848793156543929 (by omega)
  have m2 : ∀ a : UInt64, IntKind.u64.wrap ((a.toNat : Int) * 10723151780598845931) = ((a * 10723151780598845931).toNat : Int) := fun a => mul64n a 10723151780598845931 (by omega)
  rw [e1, xor64, m1, e2, xor64, m2, e3, xor64]
  rfl
theorem mix_calls (z : UInt64) (w : World) : Calls Try.prog 39 #[.int .u64 (z.toNat : Int)] w fun e w' => e = .returned (.int .u64 ((mix64 z).toNat : Int)) ∧ w = w' := by
  refine cps fun R hR => ?_
  go_enter Try.func39, Try.ntmps39
  go_wp2
  refine hR.out _ _ ⟨?_, rfl⟩
  simp [mix_raw z]
theorem div_raw (a : UInt64) (k : Nat) (hk : k < 64) : IntKind.u64.wrap ((a.toNat : Int).tdiv ((2 ^ k : Nat) : Int)) = ((a >>> UInt64.ofNat k).toNat : Int) := by
  rw [Int.tdiv_eq_ediv_of_nonneg (by omega), shr64 a k hk, wrap_u64']
  have := (a >>> UInt64.ofNat k).toNat_lt
  omega
theorem refmix_calls (z : UInt64) (w : World) : Calls Try.prog 101 #[.int .u64 (z.toNat : Int)] w fun e w' => e = .returned (.int .u64 ((mix64 z).toNat : Int)) ∧ w = w' := by
  refine cps fun R hR => ?_
  have e1 : ∀ a : UInt64, IntKind.u64.wrap ((a.toNat : Int) / (1073741824 : Int)) = ((a >>> 30).toNat : Int) := fun a => by have := div_raw a 30 (by omega); rw [Int.tdiv_eq_ediv_of_nonneg (by omega)] at this; simpa using this
  have e2 : ∀ a : UInt64, IntKind.u64.wrap ((a.toNat : Int).tdiv (134217728 : Int)) = ((a >>> 27).toNat : Int) := fun a => by have := div_raw a 27 (by omega); simpa using this
  have e3 : ∀ a : UInt64, IntKind.u64.wrap ((a.toNat : Int).tdiv (2147483648 : Int)) = ((a >>> 31).toNat : Int) := fun a => by have := div_raw a 31 (by omega); simpa using this
  have m1 : ∀ a : UInt64, IntKind.u64.wrap ((a.toNat : Int) * 13787848793156543929) = ((a * 13787848793156543929).toNat : Int) := fun a => mul64n a 13787848793156543929 (by omega)
  have m2 : ∀ a : UInt64, IntKind.u64.wrap ((a.toNat : Int) * 10723151780598845931) = ((a * 10723151780598845931).toNat : Int) := fun a => mul64n a 10723151780598845931 (by omega)
  have E1 := hide e1
  have E2 := hide e2
  have E3 := hide e3
  have M1 := hide m1
  have M2 := hide m2
  clear e1 e2 e3 m1 m2
  go_enter Try.func101, Try.ntmps101
  go_wp2
  refine hR.out _ _ ⟨?_, rfl⟩
  simp
  rw [E1.out, xor64, M1.out, E2.out, xor64, M2.out, E3.out, xor64]
  rfl

def stepC : UInt64 := 11400714819323198485
theorem step_raw (s : UInt64) : IntKind.u64.wrap ((s.toNat : Int) + 11400714819323198485) = ((s + stepC).toNat : Int) := add64n s 11400714819323198485 (by omega)
def seedF (l : List UInt64) : UInt64 := l.foldl (fun s x => mix64 ((s + stepC) ^^^ x)) 0
theorem seedF_snoc (l : List UInt64) (x : UInt64) : seedF (l ++ [x]) = mix64 ((seedF l + stepC) ^^^ x) := by simp [seedF, List.foldl_append]

/-- A Rand at block g with the state s. -/
def RandAt (w : World) (g : Nat) (s : UInt64) : Prop := w.heap[g]? = some (.cells #[.int .u64 (s.toNat : Int)] 89 (0, 0))
theorem RandAt.cell {w : World} {g : Nat} {s : UInt64} (h : RandAt w g s) : w.cell? ⟨g, 0, none⟩ = some (.int .u64 (s.toNat : Int)) := cell_of_row w g 0 _ _ _ h
theorem RandAt.frozen {w : World} {g : Nat} {s : UInt64} (h : RandAt w g s) : w.frozen? ⟨g, 0, none⟩ = false := by
  unfold RandAt at h
  simp [World.frozen?, h]
theorem RandAt.set {w : World} {g : Nat} {s : UInt64} (h : RandAt w g s) (t : UInt64) : RandAt (w.setCell ⟨g, 0, none⟩ (.int .u64 (t.toNat : Int))) g t := by
  unfold RandAt at h ⊢
  simp [World.setCell, Array.getElem?_modify, h]
theorem RandAt.lt {w : World} {g : Nat} {s : UInt64} (h : RandAt w g s) : g < w.heap.size := by
  rcases Nat.lt_or_ge g w.heap.size with hlt | hge
  · exact hlt
  · unfold RandAt at h; rw [Array.getElem?_eq_none hge] at h; cases h

theorem next_calls (g : Nat) (s : UInt64) (w : World) (h : RandAt w g s) : Calls Try.prog 44 #[.pointer (some ⟨g, 0, none⟩)] w fun e w' =>
    e = .returned (.int .u64 ((mix64 (s + stepC)).toNat : Int)) ∧ w.setCell ⟨g, 0, none⟩ (.int .u64 ((s + stepC).toNat : Int)) = w' := by
  refine cps fun R hR => ?_
  have hc := h.cell
  have hf := h.frozen
  have hs := step_raw s
  generalize s + stepC = t at hs hR ⊢
  have hc' := (h.set t).cell
  have Hs := hide hs
  clear hs
  go_enter Try.func44, Try.ntmps44
  go_wp2_with fail
  rw [Hs.out]
  refine (mix_calls _ _).mono ?_
  rintro e w1 ⟨rfl, rfl⟩
  generalize mix64 t = m at hR ⊢
  go_wp2_with fail
  exact hR.out _ _ ⟨rfl, rfl⟩

/-- Drawn on till it is fair, k times more at most. -/
def contF (few : Nat) : Nat → UInt64 → UInt64 → UInt64 × UInt64
  | 0, s, x => (s, x)
  | k + 1, s, x => if x.toNat < few then contF few k (s + stepC) (mix64 (s + stepC)) else (s, x)
def drawF (few : Nat) (s : UInt64) : UInt64 × UInt64 := contF few 15 (s + stepC) (mix64 (s + stepC))
def fewF (m : Nat) : Nat := 18446744073709551616 % m
/-- The state behind a number below n, and that number. -/
def belowF (s : UInt64) (n : Int) : UInt64 × Int :=
  if n < 1 then (s, 0) else ((drawF (fewF n.toNat) s).1, (((drawF (fewF n.toNat) s).2.toNat % n.toNat : Nat) : Int))

theorem new_calls (A : Option Addr) (c : Nat) (xs : List UInt64) (S : Nat → Prop) (w : World) (hm : c ≤ maxLen) (hc : xs.length ≤ c) (hS : ∀ k, S k → k < w.heap.size) (h : RdL Kd.u64 S w A xs) :
    Calls Try.prog 11 #[.slice A xs.length c] w fun e w' => e = .returned (.pointer (some ⟨w.heap.size, 0, none⟩)) ∧ RandAt w' w.heap.size (seedF xs) ∧ Below w.heap.size w w' := by
  refine cps fun R hR => ?_
  unfold maxLen at hm
  have hsnoc : ∀ k (hk : k < xs.length), xs.take (k + 1) = xs.take k ++ [xs[k]] := fun k hk => by rw [List.take_succ_eq_append_getElem hk]
  have Hsnoc := hide hsnoc
  clear hsnoc
  go_enter Try.func11, Try.ntmps11
  go_wp2_with fail
  go_loopw [10] (fun i wr => ∃ k : Nat, k ≤ xs.length ∧ i = .int .i64 (k : Int) ∧ RandAt wr w.heap.size (seedF (xs.take k)) ∧ Below w.heap.size w wr) (fun i _ => xs.length - (intOf i).toNat)
  case atStart => exact ⟨0, Nat.zero_le _, rfl, heap_alloc_new w _, (Below.refl _ _).alloc (Nat.le_refl _) _⟩
  case round =>
    obtain ⟨k, hk, rfl, hst, hb⟩ := hrel
    by_cases hlt : k < xs.length
    · obtain ⟨b, off, u, rfl, hsb, hu, hcell⟩ := (h.keep fun j hj => hb.block j (hS j hj)).at1 rfl hlt
      obtain rfl := Kd.u64_cell hu
      have hnext := seedF_snoc (xs.take k) xs[k]
      rw [← Hsnoc.out k hlt] at hnext
      have Hnext := hide hnext
      clear hnext
      generalize hs : seedF (xs.take k) = s at hst Hnext
      clear hs
      have hst' := fun t => RandAt.set hst t
      have Hst := hide hst'
      clear hst'
      have c0 := hst.cell
      have f0 := hst.frozen
      have hraw := xor64 (s + stepC) xs[k]
      rw [← step_raw] at hraw
      have Hraw := hide hraw
      clear hraw
      generalize xs[k] = x at hcell Hnext Hraw ⊢
      generalize (s + stepC) ^^^ x = y at Hnext Hraw ⊢
      generalize hm' : mix64 y = m at Hnext ⊢
      have Hm := hide hm'
      clear hm'
      go_wp2_with fail
      rw [Hraw.out]
      refine (mix_calls _ _).mono ?_
      rintro e w1 ⟨rfl, rfl⟩
      rw [Hm.out]
      go_wp2_with fail
      go_roundw
      case rel => exact ⟨k + 1, by omega, by go_num, by rw [Hnext.out]; exact Hst.out m, hb.setCell (Nat.le_refl _) _⟩
      case measure => simp [intOf]; omega
    · obtain rfl : k = xs.length := by omega
      rw [List.take_length] at hst
      go_wp2_with fail
      exact hR.out _ _ ⟨rfl, hst, hb⟩

theorem few_raw (m : Nat) (h1 : 1 ≤ m) (h2 : m ≤ 9223372036854775807) : (IntKind.u64.wrap (-(m : Int))).tmod (m : Int) = (fewF m : Int) := by
  have e : IntKind.u64.wrap (-(m : Int)) = ((18446744073709551616 - m : Nat) : Int) := by
    rw [wrap_u64']
    omega
  rw [e, Int.tmod_eq_emod_of_nonneg (by omega), ← Int.natCast_emod]
  unfold fewF
  have : 18446744073709551616 = (18446744073709551616 - m) + m := by omega
  conv => rhs; rw [this, Nat.add_mod_right]

theorem grown_set {w w' : World} {g : Nat} (h : w.grownBy w' (some g)) (u : Value) : w.grownBy (w'.setCell ⟨g, 0, none⟩ u) (some g) :=
  ⟨h.os, h.tape, h.output, by simpa [World.setCell] using h.size, fun i hi hne => (Below.heap_setCell w' _ u i (by rintro rfl; exact hne rfl)).trans (h.block i hi hne)⟩

theorem belowF_pos (s : UInt64) (m : Nat) (hm1 : 1 ≤ m) : belowF s m = ((drawF (fewF m) s).1, (((drawF (fewF m) s).2.toNat % m : Nat) : Int)) := by
  unfold belowF
  rw [if_neg (by omega), Int.toNat_natCast]
theorem drawF_eq (few : Nat) (s : UInt64) : contF few 15 (s + stepC) (mix64 (s + stepC)) = drawF few s := by unfold drawF; rfl
theorem contF_zero (few j : Nat) (s x : UInt64) (hj : ¬ j < 16) : contF few (16 - j) s x = (s, x) := by rw [show 16 - j = 0 by omega, contF]
theorem contF_on (few j : Nat) (s x : UInt64) (hj : j < 16) (hx : x.toNat < few) : contF few (16 - j) s x = contF few (16 - (j + 1)) (s + stepC) (mix64 (s + stepC)) := by
  rw [show 16 - j = (16 - (j + 1)) + 1 by omega, contF, if_pos hx]
theorem contF_end (few j : Nat) (s x : UInt64) (hj : j < 16) (hx : ¬ x.toNat < few) : contF few (16 - j) s x = (s, x) := by
  rw [show 16 - j = (16 - (j + 1)) + 1 by omega, contF, if_neg hx]

theorem below_fin {g m : Nat} {s : UInt64} {w : World} {R : Ending → World → Prop} (hm1 : 1 ≤ m)
    (hR : Hid (∀ e w', e = Ending.returned (.int .i64 ((belowF s m).2)) ∧ RandAt w' g (belowF s m).1 ∧ w.grownBy w' (some g) → R e w')) (st xx : UInt64) (W : World)
    (h1 : drawF (fewF m) s = (st, xx)) (h2 : RandAt W g st) (h3 : w.grownBy W (some g)) : R (.returned (.int .i64 ((xx.toNat : Int) % (m : Int)))) W := by
  refine hR.out _ _ ⟨?_, ?_, h3⟩
  · rw [belowF_pos s m hm1, h1, Int.natCast_emod]
  · rw [belowF_pos s m hm1, h1]; exact h2

theorem below_calls (g m : Nat) (s : UInt64) (w : World) (h : RandAt w g s) (hm1 : 1 ≤ m) (hm2 : m ≤ 9223372036854775807) : Calls Try.prog 37 #[.pointer (some ⟨g, 0, none⟩), .int .i64 (m : Int)] w fun e w' =>
    e = .returned (.int .i64 ((belowF s m).2)) ∧ RandAt w' g (belowF s m).1 ∧ w.grownBy w' (some g) := by
  refine cps fun R hR => ?_
  have Hfin := hide (below_fin (g := g) (w := w) hm1 hR)
  clear hR
  have h1 : ((m : Int) < 1) = False := by simp; omega
  have hcall := next_calls g s w h
  have hst := h.set (s + stepC)
  have hF := drawF_eq (fewF m) s
  generalize mix64 (s + stepC) = x0 at hcall hF
  generalize s + stepC = t at hcall hst hF
  generalize drawF (fewF m) s = F at hF Hfin
  have hg0 : w.grownBy (w.setCell ⟨g, 0, none⟩ (.int .u64 (t.toNat : Int))) (some g) := grown_set (World.grownBy.refl w _) _
  have Hcall := hide hcall
  have HF := hide hF
  have Hfew := hide (few_raw m hm1 hm2)
  clear hcall hF
  go_enter Try.func37, Try.ntmps37
  go_wp2_with fail
  rw [Hfew.out]
  refine Hcall.out.mono ?_
  rintro e w1 ⟨rfl, rfl⟩
  generalize hfew : fewF m = few at HF ⊢
  clear hfew
  go_wp2_with fail
  go_loopw [6, 7] (fun x i wr => ∃ (j : Nat) (st xx : UInt64), 1 ≤ j ∧ j ≤ 16 ∧ i = .int .i64 (j : Int) ∧ x = .int .u64 (xx.toNat : Int) ∧ RandAt wr g st ∧ w.grownBy wr (some g) ∧ contF few (16 - j) st xx = F) (fun _ i _ => 16 - (intOf i).toNat)
  case atStart => exact ⟨1, t, x0, by omega, by omega, rfl, rfl, hst, hg0, HF.out⟩
  case round =>
    obtain ⟨j, st, xx, hj1, hj2, rfl, rfl, hat, hgr, hcont⟩ := hrel
    by_cases hj : j < 16
    · by_cases hx : xx.toNat < few
      · have hcall := next_calls g st wr hat
        have hst2 := hat.set (st + stepC)
        have hc2 := (contF_on few j st xx hj hx).symm.trans hcont
        generalize mix64 (st + stepC) = x1 at hcall hc2
        generalize st + stepC = t1 at hcall hst2 hc2
        have hg1 := grown_set hgr (.int .u64 (t1.toNat : Int))
        have Hc2 := hide hc2
        have Hcall2 := hide hcall
        clear hc2 hcall hcont
        go_wp2_with fail
        refine Hcall2.out.mono ?_
        rintro e w1 ⟨rfl, rfl⟩
        go_wp2_with fail
        go_roundw
        case rel => exact ⟨j + 1, t1, x1, by omega, by omega, by go_num, rfl, hst2, hg1, Hc2.out⟩
        case measure => simp [intOf]; omega
      · have HFx := hide (hcont.symm.trans (contF_end few j st xx hj hx))
        clear hcont
        have hlt : xx.toNat % m < m := Nat.mod_lt _ (by omega)
        go_wp2_with fail
        exact Hfin.out st xx _ HFx.out hat hgr
    · have HFx := hide (hcont.symm.trans (contF_zero few j st xx hj))
      clear hcont
      have hlt : xx.toNat % m < m := Nat.mod_lt _ (by omega)
      go_wp2_with fail
      exact Hfin.out st xx _ HFx.out hat hgr

theorem below_none (g : Nat) (n : Int) (s : UInt64) (w : World) (hn : n < 1) : Calls Try.prog 37 #[.pointer (some ⟨g, 0, none⟩), .int .i64 n] w fun e w' =>
    e = .returned (.int .i64 0) ∧ w = w' := by
  refine cps fun R hR => ?_
  go_enter Try.func37, Try.ntmps37
  go_wp2_with fail
  exact hR.out _ _ ⟨rfl, rfl⟩
/-- Whatever n. -/
theorem below_any (g : Nat) (n : Int) (s : UInt64) (w : World) (h : RandAt w g s) (hn : n ≤ 9223372036854775807) : Calls Try.prog 37 #[.pointer (some ⟨g, 0, none⟩), .int .i64 n] w fun e w' =>
    e = .returned (.int .i64 (belowF s n).2) ∧ RandAt w' g (belowF s n).1 ∧ w.grownBy w' (some g) := by
  by_cases h1 : n < 1
  · refine (below_none g n s w h1).mono ?_
    rintro e w' ⟨rfl, rfl⟩
    have e : belowF s n = (s, 0) := by unfold belowF; rw [if_pos h1]
    rw [e]
    exact ⟨rfl, h, World.grownBy.refl w _⟩
  · obtain ⟨m, rfl⟩ := Int.eq_ofNat_of_zero_le (show 0 ≤ n by omega)
    exact below_calls g m s w h (by omega) (by omega)

/-! ### The reference's own -/
theorem refnext_calls (s : UInt64) (w : World) : Calls Try.prog 77 #[.int .u64 (s.toNat : Int)] w fun e w' =>
    e = .returned (.tuple #[.int .u64 ((s + stepC).toNat : Int), .int .u64 ((mix64 (s + stepC)).toNat : Int)]) ∧ w = w' := by
  refine cps fun R hR => ?_
  have hs := step_raw s
  generalize s + stepC = t at hs hR ⊢
  have hmix := refmix_calls t w
  generalize mix64 t = m at hmix hR ⊢
  have Hs := hide hs
  have Hmix := hide hmix
  clear hs hmix
  go_enter Try.func77, Try.ntmps77
  go_wp2_with fail
  rw [Hs.out]
  refine Hmix.out.mono ?_
  rintro e w1 ⟨rfl, rfl⟩
  go_wp2_with fail
  exact hR.out _ _ ⟨rfl, rfl⟩

theorem refseed_calls (A : Option Addr) (c : Nat) (xs : List UInt64) (S : Nat → Prop) (w : World) (hm : c ≤ maxLen) (hc : xs.length ≤ c) (h : RdL Kd.u64 S w A xs) :
    Calls Try.prog 78 #[.slice A xs.length c] w fun e w' => e = .returned (.int .u64 ((seedF xs).toNat : Int)) ∧ w = w' := by
  refine cps fun R hR => ?_
  unfold maxLen at hm
  have hsnoc : ∀ k (hk : k < xs.length), xs.take (k + 1) = xs.take k ++ [xs[k]] := fun k hk => by rw [List.take_succ_eq_append_getElem hk]
  have Hsnoc := hide hsnoc
  clear hsnoc
  go_enter Try.func78, Try.ntmps78
  go_wp2_with fail
  go_loop [3, 4] (fun s i => ∃ k : Nat, k ≤ xs.length ∧ i = .int .i64 (k : Int) ∧ s = .int .u64 ((seedF (xs.take k)).toNat : Int)) (fun _ i => xs.length - (intOf i).toNat)
  case atStart => exact ⟨0, Nat.zero_le _, rfl, rfl⟩
  case round =>
    obtain ⟨k, hk, rfl, rfl⟩ := hrel
    by_cases hlt : k < xs.length
    · obtain ⟨b, off, u, rfl, hsb, hu, hcell⟩ := h.at1 rfl hlt
      obtain rfl := Kd.u64_cell hu
      have hnext := seedF_snoc (xs.take k) xs[k]
      rw [← Hsnoc.out k hlt] at hnext
      have Hnext := hide hnext
      clear hnext
      generalize hs : seedF (xs.take k) = s at Hnext ⊢
      clear hs
      have hraw := xor64 (s + stepC) xs[k]
      rw [← step_raw] at hraw
      have Hraw := hide hraw
      clear hraw
      generalize xs[k] = x at hcell Hnext Hraw ⊢
      generalize (s + stepC) ^^^ x = y at Hnext Hraw ⊢
      have hmix := refmix_calls y w
      generalize mix64 y = m at hmix Hnext ⊢
      have Hmix := hide hmix
      clear hmix
      go_wp2_with fail
      rw [Hraw.out]
      refine Hmix.out.mono ?_
      rintro e w1 ⟨rfl, rfl⟩
      go_wp2_with fail
      go_round
      case rel => exact ⟨k + 1, by omega, by go_num, by rw [Hnext.out]⟩
      case measure => simp [intOf]; omega
    · obtain rfl : k = xs.length := by omega
      rw [List.take_length]
      generalize seedF xs = s at hR ⊢
      go_wp2_with fail
      exact hR.out _ _ ⟨rfl, rfl⟩
end Go.Proofs.Ytfkofhdgokhodaa
