/- VerdictCounts, walked. -/
import Derived.Test.YtehkdionodnhjaaVerdictNames
import Derived.Test.YtehkdionodnhjaaTallyMore
set_option linter.unusedVariables false
set_option linter.unusedSimpArgs false
namespace Go.Proofs.Ytehkdionodnhjaa
open Go.RowKit

theorem addT_add (f : Nat → Nat) (xs ys : List Int) : addT (addT f xs) ys = addT f (xs ++ ys) := by
  funext i; unfold addT; rw [List.count_append]; split <;> omega
theorem addT_snoc (f : Nat → Nat) (xs : List Int) (k : Nat) (hk : k < xs.length) : addT (addT f (xs.take k)) [xs[k]] = addT f (xs.take (k + 1)) := by
  rw [addT_add, List.take_succ_eq_append_getElem hk]
theorem addT_bd {xs : List Int} {m i : Nat} (hm : xs.length ≤ m) : addT (fun _ => 0) xs i ≤ m := by
  have := addT_le (f := fun _ => 0) (xs := xs) (k := xs.length) (i := i)
  rw [List.take_length] at this; omega
theorem sumTo_zero {f : Nat → Nat} (k : Nat) (h : sumTo f k = 0) : ∀ j, j < k → f j = 0 := by
  induction k with
  | zero => intro j hj; omega
  | succ k ih =>
    rw [sumTo] at h
    intro j hj
    by_cases e : j = k
    · subst e; omega
    · exact ih (by omega) j (by omega)
theorem zero_sumTo {f : Nat → Nat} (k : Nat) (h : ∀ j, j < k → f j = 0) : sumTo f k = 0 := by
  induction k with
  | zero => rfl
  | succ k ih => rw [sumTo, ih (fun j hj => h j (by omega)), h k (by omega)]
theorem half_eq (f : Nat → Nat) : ([(f 0 : Int), f 1, f 2, f 3, f 4, f 5, f 6, f 7, f 8] == [(0 : Int), 0, 0, 0, 0, 0, 0, 0, 0]) = ((sumTo f 9 : Int) == 0) := by
  rw [Bool.eq_iff_iff, beq_iff_eq, beq_iff_eq]
  constructor
  · intro h
    have : sumTo f 9 = 0 := zero_sumTo 9 fun j hj => by
      simp at h
      match j, hj with
      | 0, _ => omega
      | 1, _ => omega
      | 2, _ => omega
      | 3, _ => omega
      | 4, _ => omega
      | 5, _ => omega
      | 6, _ => omega
      | 7, _ => omega
      | 8, _ => omega
    omega
  · intro h
    have z := sumTo_zero 9 (f := f) (by omega)
    rw [z 0 (by omega), z 1 (by omega), z 2 (by omega), z 3 (by omega), z 4 (by omega), z 5 (by omega), z 6 (by omega), z 7 (by omega), z 8 (by omega)]
    rfl
theorem addT_rev (xs ys : List Int) : addT (addT (fun _ => 0) ys.reverse) xs = addT (fun _ => 0) (xs ++ ys) := by
  rw [addT_add]; funext i; unfold addT; rw [List.count_append, List.count_append, List.count_reverse]; split <;> omega
theorem lit1i (w : World) (a : Int) (t : TypeId) (ha : (Lit.int .i64 a).wf = true) : RdL (Kd.int .i64) (· = w.heap.size) (w.alloc (.cells #[.int .i64 a] t)) (some ⟨w.heap.size, 0, none⟩) [a] :=
  RdL.block1 rfl (heap_alloc_new w _) rfl fun i x hx => by
    match i, hx with
    | 0, hx => exact ⟨_, rfl, _, rfl, by injection hx with hx; subst hx; exact ⟨rfl, ha⟩⟩
    | n + 1, hx => simp at hx
/-- One verdict more. -/
theorem add1_calls (g : Nat) (f : Nat → Nat) (x : Int) (w : World) (wf : (Lit.int .i64 x).wf = true) (hg : g < w.heap.size) (ht : Tl w g f) (hb : ∀ i, f i + 1 ≤ 1000000) :
    Calls Try.prog 22 #[.pointer (some ⟨g, 0, none⟩), .slice (some ⟨w.heap.size, 0, none⟩) 1 1] (w.alloc (.cells #[.int .i64 x] 40)) fun e w' =>
      e = .returned (.tuple #[]) ∧ Tl w' g (addT f [x]) ∧ Ch (· = g) w w' :=
  (add_calls g f _ [x] 1 _ _ (by decide) (by simp) (lit1i w x _ wf) (fun k hk => by subst hk; simp; omega) (ht.below (balloc _ _)) hb).mono fun e w' ⟨h1, h2, h3⟩ =>
    ⟨h1, h2, (Ch.of_below (S := (· = g)) (balloc w _)).trans h3 fun b hb => .inl hb⟩
theorem RdL.srcI {S : Nat → Prop} {w : World} {A : Option Addr} {xs : List Int} (h : RdL (Kd.int .i64) S w A xs) : Src w A (xs.map encI) := h.src rfl fun _ _ hr => (Kd.int_cell hr).1
theorem infoV : (Try.prog.info? 40).map (fun i => (i.zero, i.size, i.bytes)) = some (some (.int .i64 0), 1, 8) := by kernel_rfl
theorem infoI : (Try.prog.info? 3).map (fun i => (i.zero, i.size, i.bytes)) = some (some (.int .i64 0), 1, 8) := by kernel_rfl
theorem RdL.wf {S : Nat → Prop} {w : World} {A : Option Addr} {xs : List Int} (h : RdL (Kd.int .i64) S w A xs) : ∀ x ∈ xs, (Lit.int .i64 x).wf = true := fun x hx => by
  obtain ⟨i, hi, rfl⟩ := List.mem_iff_getElem.1 hx
  obtain ⟨_, _, u, _, _, hu, _⟩ := h.at1 rfl hi
  exact (Kd.int_cell hu).2
theorem Row.rdI {w : World} {e : TypeId} {A : Option Addr} {n c : Nat} {xs : List Int} (h : Row w e (.slice A n c) (xs.map encI)) (hw : ∀ x ∈ xs, (Lit.int .i64 x).wf = true) : RdL (Kd.int .i64) (fun k => (Value.slice A n c).ownBlock = some k) w A xs := fun hp => by
  rcases h.2 with ⟨he, hn⟩ | ⟨g, cap, cur, hv, _, hh, _, _, _, htake⟩
  · simp at hn; subst hn; simp at hp
  · injection hv with h1' h2 h3
    have hc := World.ownsRow.cells h (g := g) (by rw [h1']; rfl)
    refine ⟨g, 0, h1', by rw [h1']; rfl, fun i x hx => ⟨[encI x], ⟨_, rfl, rfl, hw x (List.mem_of_getElem? hx)⟩, fun j u hu => ?_⟩⟩
    cases j with
    | zero =>
      simp at hu; subst hu
      have := hc i (encI x) (by rw [List.getElem?_map, hx]; rfl)
      rw [show (Kd.int .i64).sz = 1 from rfl, Nat.mul_one, Nat.zero_add, Nat.add_zero]
      unfold Addr.add at this
      split at this
      · rename_i h0; subst h0; exact this
      · simpa using this
    | succ j => simp at hu
/-- What the first loops know: two tallies, and the row of verdicts. -/
structure VC (w : World) (g : Nat) (wr : World) (f1 f2 : Nat → Nat) (v : Value) (xs : List Int) : Prop where
  t1 : Tl wr g f1
  t2 : Tl wr (g + 1) f2
  row : Row wr 40 v (xs.map encI)
  own : ∀ k, v.ownBlock = some k → g + 2 ≤ k
  bel : Below w.heap.size w wr
  le : w.heap.size ≤ g

theorem VC.add {w wr w' : World} {g : Nat} {f1 f2 f : Nat → Nat} {v : Value} {xs : List Int} (h : VC w g wr f1 f2 v xs) (ht : Tl w' g f) (hc : Ch (· = g) wr w') : VC w g w' f f2 v xs :=
  ⟨ht, h.t2.ch hc (by omega), h.row.keep fun k hk => hc.block k (h.row.lt hk) (by have := h.own k hk; omega), h.own, hc.below h.bel h.bel.size (fun b hb => by subst hb; exact h.le), h.le⟩
theorem VC.add2 {w wr w' : World} {g : Nat} {f1 f2 f : Nat → Nat} {v : Value} {xs : List Int} (h : VC w g wr f1 f2 v xs) (ht : Tl w' (g + 1) f) (hc : Ch (· = g + 1) wr w') : VC w g w' f1 f v xs :=
  ⟨h.t1.ch hc (by omega), ht, h.row.keep fun k hk => hc.block k (h.row.lt hk) (by have := h.own k hk; omega), h.own, hc.below h.bel h.bel.size (fun b hb => by subst hb; have := h.le; omega), h.le⟩
theorem VC.push {w wr w' : World} {g : Nat} {f1 f2 : Nat → Nat} {v v' : Value} {xs ys : List Int} (h : VC w g wr f1 f2 v xs) (hr : Row w' 40 v' (ys.map encI)) (hg : wr.grownBy w' v.ownBlock)
    (ha : v'.ownBlock = v.ownBlock ∨ v'.ownBlock = some wr.heap.size) : VC w g w' f1 f2 v' ys :=
  ⟨h.t1.keep (hg.block g h.t1.lt fun e => by have := h.own g e.symm; omega), h.t2.keep (hg.block (g + 1) h.t2.lt fun e => by have := h.own (g + 1) e.symm; omega), hr,
    fun k hk => by
      rcases ha with ha | ha
      · exact h.own k (ha ▸ hk)
      · rw [ha] at hk; injection hk with hk; have := h.t2.lt; omega,
    (Ch.of_grown hg).below h.bel h.bel.size (fun b hb => by have := h.own b hb; have := h.le; omega), h.le⟩
theorem VC.below {w wr w' : World} {g : Nat} {f1 f2 : Nat → Nat} {v : Value} {xs : List Int} (h : VC w g wr f1 f2 v xs) (hb : Below wr.heap.size wr w') : VC w g w' f1 f2 v xs :=
  ⟨h.t1.below hb, h.t2.below hb, h.row.keep fun k hk => hb.block k (h.row.lt hk), h.own, h.bel.trans (hb.mono h.bel.size), h.le⟩

set_option maxHeartbeats 2000000 in
set_option maxRecDepth 100000 in
theorem VerdictCounts_calls (A : Option Addr) (ls : List Int) (c : Nat) (B : Option Addr) (ms : List Int) (d : Nat) (v : Int) (w : World) (hcm : c ≤ maxLen) (hcl : ls.length ≤ c) (hA : RdL (Kd.int .i64) (· < w.heap.size) w A ls)
    (hdm : d ≤ maxLen) (hdl : ms.length ≤ d) (hB : RdL (Kd.int .i64) (· < w.heap.size) w B ms) :
    Calls Try.prog 6 #[.slice A ls.length c, .slice B ms.length d, .int .i64 v] w fun e w' => e = .returned (.bool true) ∧ Below w.heap.size w w' := by
  refine cps fun R hR => ?_
  have HA := hide hA
  have HB := hide hB
  clear hA hB
  unfold maxLen at hcm hdm
  by_cases h1 : 100 < ls.length
  · go_enter Try.func6, Try.ntmps6
    go_wp2_with fail
    refine (speaks_calls w).mono ?_
    rintro e w1 ⟨rfl, hb1⟩
    go_wp2_with fail
    exact hR.out _ _ ⟨rfl, hb1⟩
  by_cases h2 : 100 < ms.length
  · have h1' : decide (100 < ls.length) = false := by simpa using h1
    go_enter Try.func6, Try.ntmps6
    go_wp2_with fail
    refine (speaks_calls w).mono ?_
    rintro e w1 ⟨rfl, hb1⟩
    go_wp2_with fail
    exact hR.out _ _ ⟨rfl, hb1⟩
  have h1' : ls.length ≤ 100 := by omega
  have h2' : ms.length ≤ 100 := by omega
  have h1b : decide (100 < ls.length) = false := by simpa using h1
  have h2b : decide (100 < ms.length) = false := by simpa using h2
  go_enter Try.func6, Try.ntmps6
  go_wp2_with fail
  refine (speaks_calls w).mono ?_
  rintro e w1 ⟨rfl, hb1⟩
  go_wp2_with fail
  clear h1b h2b h1 h2
  have hz9 : Tl ((w1.alloc (.cells #[.int .i64 0, .int .i64 0, .int .i64 0, .int .i64 0, .int .i64 0, .int .i64 0, .int .i64 0, .int .i64 0, .int .i64 0] 49)).alloc (.cells #[.int .i64 0, .int .i64 0, .int .i64 0, .int .i64 0, .int .i64 0, .int .i64 0, .int .i64 0, .int .i64 0, .int .i64 0] 49)) (w1.heap.size + 1) (fun _ => 0) := by
    have := Tl.new (w1.alloc (.cells #[.int .i64 0, .int .i64 0, .int .i64 0, .int .i64 0, .int .i64 0, .int .i64 0, .int .i64 0, .int .i64 0, .int .i64 0] 49))
    simpa using this
  have hvc : VC w w1.heap.size ((w1.alloc (.cells #[.int .i64 0, .int .i64 0, .int .i64 0, .int .i64 0, .int .i64 0, .int .i64 0, .int .i64 0, .int .i64 0, .int .i64 0] 49)).alloc (.cells #[.int .i64 0, .int .i64 0, .int .i64 0, .int .i64 0, .int .i64 0, .int .i64 0, .int .i64 0, .int .i64 0, .int .i64 0] 49)) (fun _ => 0) (fun _ => 0) (.slice none 0 0) [] :=
    ⟨(Tl.new w1).below (balloc _ _), hz9, Row.nil, fun k hk => by simp [Value.ownBlock] at hk, hb1.trans (((balloc w1 _).trans ((balloc _ _).mono (by simp))).mono hb1.size), hb1.size⟩
  clear hz9 hb1
  generalize hw2 : (w1.alloc (.cells #[.int .i64 0, .int .i64 0, .int .i64 0, .int .i64 0, .int .i64 0, .int .i64 0, .int .i64 0, .int .i64 0, .int .i64 0] 49)).alloc (.cells #[.int .i64 0, .int .i64 0, .int .i64 0, .int .i64 0, .int .i64 0, .int .i64 0, .int .i64 0, .int .i64 0, .int .i64 0] 49) = w2 at hvc ⊢
  clear hw2
  generalize w1.heap.size = g at hvc ⊢
  have Hvc := hide hvc
  clear hvc
  go_loopw [9, 33] (fun b i wr => ∃ k : Nat, k ≤ ls.length ∧ i = .int .i64 (k : Int) ∧ VC w g wr (addT (fun _ => 0) (ls.take k)) (fun _ => 0) b (ls.take k)) (fun _ i _ => ls.length - (intOf i).toNat)
  case atStart => exact ⟨0, Nat.zero_le _, rfl, by rw [List.take_zero, addT_nil]; exact Hvc.out⟩
  case round =>
    clear Hvc
    obtain ⟨k, hk, rfl, hvc⟩ := hrel
    by_cases hlt : k < ls.length
    · obtain ⟨b, off, u, rfl, hsb, hu, hcell⟩ := HA.out.at1 rfl hlt
      obtain ⟨rfl, wf⟩ := Kd.int_cell hu
      replace hcell := (hvc.bel.cell hsb).trans hcell
      have e := hide (addT_snoc (fun _ => 0) ls k hlt)
      have e2 := hide (List.take_succ_eq_append_getElem hlt)
      have hlt1 := hvc.t1.lt
      have hb0 : ∀ i, addT (fun _ => 0) (ls.take k) i + 1 ≤ 1000000 := fun i => by
        have := addT_bd (xs := ls.take k) (m := 100) (i := i) (by rw [List.length_take]; omega)
        omega
      have hadd := hide (add1_calls g _ ls[k] wr wf hvc.t1.lt hvc.t1 hb0)
      have Hvc := hide hvc
      clear hvc hu hb0 hlt1 hsb
      generalize ls[k] = x at hcell hadd e wf e2
      have wf' := hide wf
      clear wf
      go_wp2_with fail
      refine hadd.out.mono ?_
      rintro e1 w3 ⟨rfl, ht3, hc3⟩
      rw [e.out] at ht3
      have hvc3 := Hvc.out.add ht3 hc3
      have Hvc3 := hide (hvc3.below (balloc w3 (.cells #[.int .i64 x] 40)))
      have hsrc := hide (Src.lit1 w3 (.int .i64 x) 40)
      clear ht3 hc3 hadd hvc3
      go_wp2_with (at_builtin; with_reducible refine wp_app 43 rfl rfl (.tmp 40) (.tmp 42) 50 rfl Try.underlying50 infoV ?_ (us := (ls.take k).map encI) ?_ Hvc3.out.row (A := some ⟨w3.heap.size, 0, none⟩) (c := 1) (news := [.int .i64 x]) ?_ hsrc.out ?_ ?_ ?_ ?_)
      case refine_1 => rfl
      case refine_2 => rfl
      case refine_3 => rfl
      case refine_4 => intro u hu; simp at hu; subst hu; rfl
      case refine_5 => simp; omega
      case refine_6 => simp [maxLen]; omega
      intro v' w4 hrow hgr hat
      have hv4 := hide (Hvc3.out.push (ys := ls.take (k + 1)) (by rw [e2.out, List.map_append]; exact hrow) hgr hat)
      clear hrow hgr hat
      go_wp2_with fail
      go_roundw
      case rel => exact ⟨k + 1, by omega, by go_num, hv4.out⟩
      case measure => simp [intOf]; omega
    · obtain rfl : k = ls.length := by omega
      rw [List.take_length] at hvc
      have Hvc := hide hvc
      clear hvc hlt
      go_wp2_with fail
      obtain ⟨wa, rfl⟩ : ∃ wo : World, wo = wr := ⟨_, rfl⟩
      go_loopw [47] (fun i wr => ∃ k : Nat, k ≤ ms.length ∧ i = .int .i64 (k : Int) ∧ VC w g wr (addT (fun _ => 0) (ls ++ ms.take k)) (fun _ => 0) u9 ls) (fun i _ => ms.length - (intOf i).toNat)
      case atStart => exact ⟨0, Nat.zero_le _, rfl, by rw [List.take_zero, List.append_nil]; exact Hvc.out⟩
      case round =>
        clear Hvc
        obtain ⟨k, hk, rfl, hvc⟩ := hrel
        by_cases hlt : k < ms.length
        · obtain ⟨b, off, u, rfl, hsb, hu, hcell⟩ := HB.out.at1 rfl hlt
          obtain ⟨rfl, wf⟩ := Kd.int_cell hu
          replace hcell := (hvc.bel.cell hsb).trans hcell
          have e := hide (show addT (addT (fun _ => 0) (ls ++ ms.take k)) [ms[k]] = addT (fun _ => 0) (ls ++ ms.take (k + 1)) by rw [addT_add, List.append_assoc, ← List.take_succ_eq_append_getElem hlt])
          have hlt1 := hvc.t1.lt
          have hb0 : ∀ i, addT (fun _ => 0) (ls ++ ms.take k) i + 1 ≤ 1000000 := fun i => by
            have := addT_bd (xs := ls ++ ms.take k) (m := 200) (i := i) (by rw [List.length_append, List.length_take]; omega)
            omega
          have hadd := hide (add1_calls g _ ms[k] wr wf hvc.t1.lt hvc.t1 hb0)
          have Hvc := hide hvc
          clear hvc hu hb0 hlt1 hsb wf
          generalize ms[k] = x at hcell hadd e
          go_wp2_with fail
          refine hadd.out.mono ?_
          rintro e1 w3 ⟨rfl, ht3, hc3⟩
          rw [e.out] at ht3
          have Hvc3 := hide (Hvc.out.add ht3 hc3)
          clear ht3 hc3 hadd
          go_wp2_with fail
          go_roundw
          case rel => exact ⟨k + 1, by omega, by go_num, Hvc3.out⟩
          case measure => simp [intOf]; omega
        · obtain rfl : k = ms.length := by omega
          rw [List.take_length] at hvc
          have hz := hvc.t2
          have z0 := hz.cell (show 0 < 9 by omega)
          have z1 := hz.cell (show 1 < 9 by omega)
          have z2 := hz.cell (show 2 < 9 by omega)
          have z3 := hz.cell (show 3 < 9 by omega)
          have z4 := hz.cell (show 4 < 9 by omega)
          have z5 := hz.cell (show 5 < 9 by omega)
          have z6 := hz.cell (show 6 < 9 by omega)
          have z7 := hz.cell (show 7 < 9 by omega)
          have z8 := hz.cell (show 8 < 9 by omega)
          have Hvc := hide hvc
          clear hvc hlt hz
          have Z3 := hide (Tl.new wr)
          have hgh := hide (show g + 1 < wr.heap.size from Hvc.out.t2.lt)
          have Hvb := hide (Hvc.out.below (balloc wr (.cells #[.int .i64 0, .int .i64 0, .int .i64 0, .int .i64 0, .int .i64 0, .int .i64 0, .int .i64 0, .int .i64 0, .int .i64 0] 49)))
          clear Hvc
          go_wp2_with fail
          clear z0 z1 z2 z3 z4 z5 z6 z7 z8
          generalize wr.alloc (.cells #[.int .i64 0, .int .i64 0, .int .i64 0, .int .i64 0, .int .i64 0, .int .i64 0, .int .i64 0, .int .i64 0, .int .i64 0] 49) = wb at Z3 Hvb ⊢
          generalize wr.heap.size = h at Z3 hgh ⊢
          go_loopw [15] (fun i wr => ∃ k : Nat, k ≤ ms.length ∧ i = .int .i64 ((ms.length : Int) - 1 - (k : Int)) ∧ VC w g wr (addT (fun _ => 0) (ls ++ ms)) (addT (fun _ => 0) (ms.reverse.take k)) u9 ls ∧ Tl wr h (fun _ => 0)) (fun i _ => (intOf i + 1).toNat)
          case atStart => exact ⟨0, Nat.zero_le _, by simp, by rw [List.take_zero, addT_nil]; exact Hvb.out, Z3.out⟩
          case round =>
            clear Hvb Z3
            obtain ⟨k, hk, rfl, hvc, htz⟩ := hrel
            by_cases hlt : k < ms.length
            · obtain ⟨j, hj⟩ : ∃ j : Nat, j = ms.length - 1 - k := ⟨_, rfl⟩
              have ej : (ms.length : Int) - 1 - (k : Int) = (j : Int) := by omega
              have hjl : j < ms.length := by omega
              have ejk := hide (show (j : Int) - 1 = (ms.length : Int) - 1 - ((k + 1 : Nat) : Int) by omega)
              have hnn : (0 : Int) ≤ (ms.length : Int) - 1 - (k : Int) := by omega
              rw [ej] at hnn ⊢
              obtain ⟨b, off, u, rfl, hsb, hu, hcell⟩ := HB.out.at1 rfl hjl
              obtain ⟨rfl, wf⟩ := Kd.int_cell hu
              replace hcell := (hvc.bel.cell hsb).trans hcell
              have hkr : k < ms.reverse.length := by simpa using hlt
              have hrg : ms.reverse[k] = ms[j] := by rw [List.getElem_reverse]; congr 1; omega
              have e := hide (show addT (addT (fun _ => 0) (ms.reverse.take k)) [ms[j]] = addT (fun _ => 0) (ms.reverse.take (k + 1)) by rw [← hrg]; exact addT_snoc _ _ _ hkr)
              have hb0 : ∀ i, addT (fun _ => 0) (ms.reverse.take k) i + 1 ≤ 1000000 := fun i => by
                have := addT_bd (xs := ms.reverse.take k) (m := 100) (i := i) (by rw [List.length_take]; omega)
                omega
              have hadd := hide (add1_calls (g + 1) _ ms[j] wr wf hvc.t2.lt hvc.t2 hb0)
              have Hvc := hide hvc
              have Htz := hide htz
              clear hvc hu hb0 hsb wf hrg hkr htz hj ej
              generalize ms[j] = x at hcell hadd e
              go_wp2_with fail
              refine hadd.out.mono ?_
              rintro e1 w3 ⟨rfl, ht3, hc3⟩
              rw [e.out] at ht3
              have Hvc3 := hide (Hvc.out.add2 ht3 hc3)
              have Htz3 := hide (Htz.out.ch hc3 (by have := hgh.out; omega))
              clear ht3 hc3 hadd
              go_wp2_with fail
              go_roundw
              case rel => exact ⟨k + 1, by omega, congrArg (Value.int .i64) ejk.out, Hvc3.out, Htz3.out⟩
              case measure => simp [intOf]
            · obtain rfl : k = ms.length := by omega
              rw [List.take_of_length_le (by simp)] at hvc
              have e1 : (ms.length : Int) - 1 - (ms.length : Int) = -1 := by omega
              rw [e1]
              obtain ⟨A', c', rfl, hlc, hcm'⟩ := hvc.row.shape
              rw [List.length_map] at hlc
              have hadd := hide (add_calls (g + 1) _ A' ls c' _ wr hcm' hlc (Row.rdI hvc.row HA.out.wf) (fun k hk => ⟨by have := hvc.own k hk; omega, hvc.row.lt hk⟩) hvc.t2 (fun i => by
                have := addT_bd (xs := ms.reverse) (m := 100) (i := i) (by simpa using h2')
                omega))
              rw [List.length_map]
              have Hvc := hide hvc
              have Htz := hide htz
              unfold maxLen at hcm'
              clear hvc htz e1
              go_wp2_with fail
              refine hadd.out.mono ?_
              rintro e1 w3 ⟨rfl, ht3, hc3⟩
              rw [addT_rev] at ht3
              have hvc3 := hide (Hvc.out.add2 ht3 hc3)
              have htz3 := hide (Htz.out.ch hc3 (by have := hgh.out; omega))
              have hr0 := hide (Row.lit (w := w3) (e := 3) [] (by simp))
              have hsA := hide (HA.out.srcI)
              have hsB := hide (HB.out.srcI)
              have hoA := hide (encI_one ls)
              have hoB := hide (encI_one ms)
              have hbl := hide hvc3.out.bel
              clear ht3 hc3 hadd Hvc Htz
              go_wp2_with (at_builtin; with_reducible refine wp_app 73 rfl rfl (.tmp 71) (.tmp 72) 24 rfl Try.underlying24 infoI ?_ (us := []) ?_ hr0.out (A := A) (c := c) (news := ls.map encI) ?_ ?_ hoA.out ?_ ?_ ?_)
              case refine_1 => rfl
              case refine_2 => rfl
              case refine_3 => rw [List.length_map]; rfl
              case refine_4 => exact hsA.out.below (hbl.out.trans ((balloc w3 _).mono hbl.out.size))
              case refine_5 => simp; omega
              case refine_6 => simp [maxLen]; omega
              intro v' w4 hrow hgr hat
              have hch4 := hide ((Ch.alloc (S := fun _ => False) w3 (.cells #[] 3)).trans (Ch.of_grown hgr) fun b hb => .inr (by simp [Value.ownBlock] at hb; omega))
              have hb4 := hide (hch4.out.below hbl.out hbl.out.size fun b hb => hb.elim)
              have Hr4 := hide hrow
              have ho4 := hide (show ∀ k, v'.ownBlock = some k → w3.heap.size ≤ k from fun k hk => by
                rcases hat with hat | hat
                · rw [hat] at hk; simp [Value.ownBlock] at hk; omega
                · rw [hat] at hk; simp at hk; omega)
              clear hrow hgr hat
              go_wp2_with (at_builtin; with_reducible refine wp_app 75 rfl rfl (.tmp 73) (.tmp 74) 24 rfl Try.underlying24 infoI ?_ (us := [] ++ ls.map encI) ?_ Hr4.out (A := B) (c := d) (news := ms.map encI) ?_ ?_ hoB.out ?_ ?_ ?_)
              case refine_1 => rfl
              case refine_2 => rfl
              case refine_3 => rw [List.length_map]; rfl
              case refine_4 => exact hsB.out.below hb4.out
              case refine_5 => simp; omega
              case refine_6 => simp [maxLen]; omega
              intro v' w5 hrow hgr hat
              have hch5 := hch4.out.trans (Ch.of_grown hgr) fun b hb => .inr (ho4.out b hb)
              have hb5 := hide (hch5.below hbl.out hbl.out.size fun b hb => hb.elim)
              have T1 := hvc3.out.t1.ch hch5 fun h => h
              have T2 := hvc3.out.t2.ch hch5 fun h => h
              have T3 := htz3.out.ch hch5 fun h => h
              rw [List.nil_append, ← List.map_append] at hrow
              obtain ⟨A5, c5, rfl, hlc5, hcm5⟩ := hrow.shape
              rw [List.length_map] at hlc5
              have hrd := hide (Row.rdI hrow (fun x hx => (List.mem_append.1 hx).elim (HA.out.wf x) (HB.out.wf x)))
              have HLt := hide (fun k (hk : (Value.slice A5 ((ls ++ ms).map encI).length c5).ownBlock = some k) => hrow.lt hk)
              have hlall : (ls ++ ms).length ≤ 200 := by rw [List.length_append]; omega
              have hF := hide (show ∀ q : Nat, 1 ≤ q → q ≤ 8 → addT (fun _ => 0) (ls ++ ms) q = (ls ++ ms).count (q : Int) from fun q h1 h8 => by unfold addT; rw [if_pos ⟨h1, h8⟩]; exact Nat.zero_add _)
              have hF0 := hide (show addT (fun _ => 0) (ls ++ ms) 0 = 0 from rfl)
              have hFb := hide (show ∀ i, addT (fun _ => 0) (ls ++ ms) i ≤ 1000000 from fun i => by
                have := addT_bd (m := 200) (i := i) hlall
                omega)
              generalize addT (fun _ => 0) (ls ++ ms) = F at T1 T2 hF hF0 hFb
              have hlall' : (ls ++ ms).length ≤ 1000000 := by omega
              rw [List.length_map]
              generalize ls ++ ms = al at hrd hlall hlc5 hF hlall' HLt ⊢
              have HT := hide (And.intro T1 (And.intro T2 T3))
              clear T1 T2 T3 hch5 hrow hgr hat Hr4 hvc3 htz3 hr0 hsA hsB hoA hoB hbl hch4 hb4 ho4 hgh
              go_wp2_with fail
              go_loopw [17, 18, 19] (fun n a i wr => ∃ q : Nat, 1 ≤ q ∧ q ≤ 9 ∧ i = .int .i64 (q : Int) ∧ n = .int .i64 (sumTo F q : Int) ∧ a = .int .i64 (admTo F q : Int) ∧ Below w5.heap.size w5 wr) (fun _ _ i _ => 9 - (intOf i).toNat)
              case atStart => exact ⟨1, by omega, by omega, rfl, by simp [sumTo, hF0.out], by simp [admTo], Below.refl _ _⟩
              case round =>
                obtain ⟨q, hq1, hq9, rfl, rfl, rfl, hbr⟩ := hrel
                by_cases hlt : q < 9
                · have hsum := sumTo_le F 1000000 hFb.out q
                  have hadm := admTo_le F 1000000 hFb.out q
                  have hqm : q * 1000000 ≤ 9000000 := by omega
                  have es := hide (show sumTo F (q + 1) = sumTo F q + F q from rfl)
                  have hcnt := hide (hF.out q hq1 (by omega))
                  have hFq := hFb.out q
                  have hcc := hide (refcount_calls A5 al c5 (q : Int) _ wr hlall' (hrd.out.keep fun k hk => hbr.block k (HLt.out k hk)))
                  have hof := hide (fun w' (hb : Below w5.heap.size w5 w') => tallyof_calls g F (q : Int) w' (HT.out.1.below hb))
                  have htg := hide (tget_in (f := F) hq1 (show q ≤ 8 by omega))
                  rw [← hcnt.out] at hcc
                  have Hbr := hide hbr
                  clear hbr hcnt
                  by_cases h5 : 5 ≤ q
                  · have ea := hide (show admTo F (q + 1) = admTo F q + F q by rw [admTo, if_pos h5])
                    generalize sumTo F q = sq at hsum es
                    generalize admTo F q = aq at hadm ea
                    generalize hx : F q = x at es hcc htg ea hFq
                    clear hx
                    go_wp2_with fail
                    refine hcc.out.mono ?_
                    rintro e w6 ⟨rfl, hw6⟩
                    subst hw6
                    go_wp2_with fail
                    refine (hof.out _ Hbr.out).mono ?_
                    rintro e w6 ⟨rfl, hb6⟩
                    rw [htg.out]
                    have Hb6 := hide (Hbr.out.trans (hb6.mono Hbr.out.size))
                    clear hb6
                    go_wp2_with fail
                    go_roundw
                    case rel => exact ⟨q + 1, by omega, by omega, by go_num, by rw [es.out]; go_num, by rw [ea.out]; go_num, Hb6.out⟩
                    case measure => simp [intOf]; omega
                  · have ea := hide (show admTo F (q + 1) = admTo F q by rw [admTo, if_neg h5]; rfl)
                    generalize sumTo F q = sq at hsum es
                    generalize admTo F q = aq at hadm ea
                    generalize hx : F q = x at es hcc htg hFq
                    clear hx
                    go_wp2_with fail
                    refine hcc.out.mono ?_
                    rintro e w6 ⟨rfl, hw6⟩
                    subst hw6
                    go_wp2_with fail
                    refine (hof.out _ Hbr.out).mono ?_
                    rintro e w6 ⟨rfl, hb6⟩
                    rw [htg.out]
                    have Hb6 := hide (Hbr.out.trans (hb6.mono Hbr.out.size))
                    clear hb6
                    go_wp2_with fail
                    go_roundw
                    case rel => exact ⟨q + 1, by omega, by omega, by go_num, by rw [es.out]; go_num, by rw [ea.out], Hb6.out⟩
                    case measure => simp [intOf]; omega
                · obtain rfl : q = 9 := by omega
                  have Hbr := hide hbr
                  have hof := hide (fun w' (hb : Below w5.heap.size w5 w') => tallyof_calls g F v w' (HT.out.1.below hb))
                  have hall := hide (fun w' (hb : Below w5.heap.size w5 w') => all_calls g F w' (HT.out.1.below hb) hFb.out)
                  have hadm := hide (fun w' (hb : Below w5.heap.size w5 w') => admitted_calls g F w' (HT.out.1.below hb) hFb.out)
                  have hcl := hide (fun w' (hb : Below w5.heap.size w5 w') i (hi : i < 9) => (HT.out.1.below hb).cell hi)
                  have hcl2 := hide (fun w' (hb : Below w5.heap.size w5 w') i (hi : i < 9) => (HT.out.2.1.below hb).cell hi)
                  have hcl3 := hide (fun w' (hb : Below w5.heap.size w5 w') i (hi : i < 9) => (HT.out.2.2.below hb).cell hi)
                  have hhalf := hide (half_eq F)
                  have hfin := hide (show ∀ w', Below w5.heap.size w5 w' → Below w.heap.size w w' from fun w' hb => hb5.out.trans (hb.mono hb5.out.size))
                  have hgo := hide (tget_out (f := F) (v := v))
                  clear hbr hrd hF hF0 HLt
                  rcases (by omega : v < 1 ∨ (1 ≤ v ∧ 8 < v) ∨ (1 ≤ v ∧ v ≤ 8)) with hv | ⟨hv1, hv⟩ | ⟨hv1, hv⟩
                  · have h0 := hide (hgo.out (.inl hv))
                    go_wp2_with fail
                    refine (hof.out _ Hbr.out).mono ?_
                    rintro e w6 ⟨rfl, hb6⟩
                    rw [h0.out]
                    have Hb6 := hide (Hbr.out.trans (hb6.mono Hbr.out.size))
                    clear hb6
                    go_wp2_with fail
                    refine (hall.out _ Hb6.out).mono ?_
                    rintro e w7 ⟨rfl, hw7⟩
                    subst hw7
                    have heq1 : ((sumTo F 9 : Int) == (sumTo F 9 : Int)) = true := by simp
                    go_wp2_with fail
                    refine (hadm.out _ Hb6.out).mono ?_
                    rintro e w8 ⟨rfl, hw8⟩
                    subst hw8
                    have heq2 : ((admTo F 9 : Int) == (admTo F 9 : Int)) = true := by simp
                    have x0 := hcl.out _ Hb6.out 0 (by omega)
                    have x1 := hcl.out _ Hb6.out 1 (by omega)
                    have x2 := hcl.out _ Hb6.out 2 (by omega)
                    have x3 := hcl.out _ Hb6.out 3 (by omega)
                    have x4 := hcl.out _ Hb6.out 4 (by omega)
                    have x5 := hcl.out _ Hb6.out 5 (by omega)
                    have x6 := hcl.out _ Hb6.out 6 (by omega)
                    have x7 := hcl.out _ Hb6.out 7 (by omega)
                    have x8 := hcl.out _ Hb6.out 8 (by omega)
                    have y0 := hcl2.out _ Hb6.out 0 (by omega)
                    have y1 := hcl2.out _ Hb6.out 1 (by omega)
                    have y2 := hcl2.out _ Hb6.out 2 (by omega)
                    have y3 := hcl2.out _ Hb6.out 3 (by omega)
                    have y4 := hcl2.out _ Hb6.out 4 (by omega)
                    have y5 := hcl2.out _ Hb6.out 5 (by omega)
                    have y6 := hcl2.out _ Hb6.out 6 (by omega)
                    have y7 := hcl2.out _ Hb6.out 7 (by omega)
                    have y8 := hcl2.out _ Hb6.out 8 (by omega)
                    go_wp2_with fail
                    clear x0 y0 x1 y1 x2 y2 x3 y3 x4 y4 x5 y5 x6 y6 x7 y7 x8 y8
                    refine (same_calls _ _ _ _ _ _ _ _ _ _ _ _ _ _ _ _ _ _ _).mono ?_
                    rintro e w9 ⟨rfl, hb9⟩
                    rw [show ([(F 0 : Int), F 1, F 2, F 3, F 4, F 5, F 6, F 7, F 8] == [(F 0 : Int), F 1, F 2, F 3, F 4, F 5, F 6, F 7, F 8]) = true from by simp]
                    have Hb9 := hide (Hb6.out.trans (hb9.mono Hb6.out.size))
                    clear hb9
                    have x0 := hcl.out _ Hb9.out 0 (by omega)
                    have x1 := hcl.out _ Hb9.out 1 (by omega)
                    have x2 := hcl.out _ Hb9.out 2 (by omega)
                    have x3 := hcl.out _ Hb9.out 3 (by omega)
                    have x4 := hcl.out _ Hb9.out 4 (by omega)
                    have x5 := hcl.out _ Hb9.out 5 (by omega)
                    have x6 := hcl.out _ Hb9.out 6 (by omega)
                    have x7 := hcl.out _ Hb9.out 7 (by omega)
                    have x8 := hcl.out _ Hb9.out 8 (by omega)
                    have y0 := hcl3.out _ Hb9.out 0 (by omega)
                    have y1 := hcl3.out _ Hb9.out 1 (by omega)
                    have y2 := hcl3.out _ Hb9.out 2 (by omega)
                    have y3 := hcl3.out _ Hb9.out 3 (by omega)
                    have y4 := hcl3.out _ Hb9.out 4 (by omega)
                    have y5 := hcl3.out _ Hb9.out 5 (by omega)
                    have y6 := hcl3.out _ Hb9.out 6 (by omega)
                    have y7 := hcl3.out _ Hb9.out 7 (by omega)
                    have y8 := hcl3.out _ Hb9.out 8 (by omega)
                    go_wp2_with fail
                    clear x0 y0 x1 y1 x2 y2 x3 y3 x4 y4 x5 y5 x6 y6 x7 y7 x8 y8
                    refine (same_calls _ _ _ _ _ _ _ _ _ _ _ _ _ _ _ _ _ _ _).mono ?_
                    rintro e w10 ⟨rfl, hb10⟩
                    rw [hhalf.out]
                    have Hb10 := hide (Hb9.out.trans (hb10.mono Hb9.out.size))
                    clear hb10
                    have hbz : (((sumTo F 9 : Int) == 0) == ((sumTo F 9 : Int) == 0)) = true := by simp
                    go_wp2_with fail
                    exact hR.out _ _ ⟨rfl, hfin.out _ Hb10.out⟩
                  · have h0 := hide (hgo.out (.inr hv))
                    go_wp2_with fail
                    refine (hof.out _ Hbr.out).mono ?_
                    rintro e w6 ⟨rfl, hb6⟩
                    rw [h0.out]
                    have Hb6 := hide (Hbr.out.trans (hb6.mono Hbr.out.size))
                    clear hb6
                    go_wp2_with fail
                    refine (hall.out _ Hb6.out).mono ?_
                    rintro e w7 ⟨rfl, hw7⟩
                    subst hw7
                    have heq1 : ((sumTo F 9 : Int) == (sumTo F 9 : Int)) = true := by simp
                    go_wp2_with fail
                    refine (hadm.out _ Hb6.out).mono ?_
                    rintro e w8 ⟨rfl, hw8⟩
                    subst hw8
                    have heq2 : ((admTo F 9 : Int) == (admTo F 9 : Int)) = true := by simp
                    have x0 := hcl.out _ Hb6.out 0 (by omega)
                    have x1 := hcl.out _ Hb6.out 1 (by omega)
                    have x2 := hcl.out _ Hb6.out 2 (by omega)
                    have x3 := hcl.out _ Hb6.out 3 (by omega)
                    have x4 := hcl.out _ Hb6.out 4 (by omega)
                    have x5 := hcl.out _ Hb6.out 5 (by omega)
                    have x6 := hcl.out _ Hb6.out 6 (by omega)
                    have x7 := hcl.out _ Hb6.out 7 (by omega)
                    have x8 := hcl.out _ Hb6.out 8 (by omega)
                    have y0 := hcl2.out _ Hb6.out 0 (by omega)
                    have y1 := hcl2.out _ Hb6.out 1 (by omega)
                    have y2 := hcl2.out _ Hb6.out 2 (by omega)
                    have y3 := hcl2.out _ Hb6.out 3 (by omega)
                    have y4 := hcl2.out _ Hb6.out 4 (by omega)
                    have y5 := hcl2.out _ Hb6.out 5 (by omega)
                    have y6 := hcl2.out _ Hb6.out 6 (by omega)
                    have y7 := hcl2.out _ Hb6.out 7 (by omega)
                    have y8 := hcl2.out _ Hb6.out 8 (by omega)
                    go_wp2_with fail
                    clear x0 y0 x1 y1 x2 y2 x3 y3 x4 y4 x5 y5 x6 y6 x7 y7 x8 y8
                    refine (same_calls _ _ _ _ _ _ _ _ _ _ _ _ _ _ _ _ _ _ _).mono ?_
                    rintro e w9 ⟨rfl, hb9⟩
                    rw [show ([(F 0 : Int), F 1, F 2, F 3, F 4, F 5, F 6, F 7, F 8] == [(F 0 : Int), F 1, F 2, F 3, F 4, F 5, F 6, F 7, F 8]) = true from by simp]
                    have Hb9 := hide (Hb6.out.trans (hb9.mono Hb6.out.size))
                    clear hb9
                    have x0 := hcl.out _ Hb9.out 0 (by omega)
                    have x1 := hcl.out _ Hb9.out 1 (by omega)
                    have x2 := hcl.out _ Hb9.out 2 (by omega)
                    have x3 := hcl.out _ Hb9.out 3 (by omega)
                    have x4 := hcl.out _ Hb9.out 4 (by omega)
                    have x5 := hcl.out _ Hb9.out 5 (by omega)
                    have x6 := hcl.out _ Hb9.out 6 (by omega)
                    have x7 := hcl.out _ Hb9.out 7 (by omega)
                    have x8 := hcl.out _ Hb9.out 8 (by omega)
                    have y0 := hcl3.out _ Hb9.out 0 (by omega)
                    have y1 := hcl3.out _ Hb9.out 1 (by omega)
                    have y2 := hcl3.out _ Hb9.out 2 (by omega)
                    have y3 := hcl3.out _ Hb9.out 3 (by omega)
                    have y4 := hcl3.out _ Hb9.out 4 (by omega)
                    have y5 := hcl3.out _ Hb9.out 5 (by omega)
                    have y6 := hcl3.out _ Hb9.out 6 (by omega)
                    have y7 := hcl3.out _ Hb9.out 7 (by omega)
                    have y8 := hcl3.out _ Hb9.out 8 (by omega)
                    go_wp2_with fail
                    clear x0 y0 x1 y1 x2 y2 x3 y3 x4 y4 x5 y5 x6 y6 x7 y7 x8 y8
                    refine (same_calls _ _ _ _ _ _ _ _ _ _ _ _ _ _ _ _ _ _ _).mono ?_
                    rintro e w10 ⟨rfl, hb10⟩
                    rw [hhalf.out]
                    have Hb10 := hide (Hb9.out.trans (hb10.mono Hb9.out.size))
                    clear hb10
                    have hbz : (((sumTo F 9 : Int) == 0) == ((sumTo F 9 : Int) == 0)) = true := by simp
                    go_wp2_with fail
                    exact hR.out _ _ ⟨rfl, hfin.out _ Hb10.out⟩
                  · go_wp2_with fail
                    refine (hall.out _ Hbr.out).mono ?_
                    rintro e w7 ⟨rfl, hw7⟩
                    subst hw7
                    have heq1 : ((sumTo F 9 : Int) == (sumTo F 9 : Int)) = true := by simp
                    go_wp2_with fail
                    refine (hadm.out _ Hbr.out).mono ?_
                    rintro e w8 ⟨rfl, hw8⟩
                    subst hw8
                    have heq2 : ((admTo F 9 : Int) == (admTo F 9 : Int)) = true := by simp
                    have x0 := hcl.out _ Hbr.out 0 (by omega)
                    have x1 := hcl.out _ Hbr.out 1 (by omega)
                    have x2 := hcl.out _ Hbr.out 2 (by omega)
                    have x3 := hcl.out _ Hbr.out 3 (by omega)
                    have x4 := hcl.out _ Hbr.out 4 (by omega)
                    have x5 := hcl.out _ Hbr.out 5 (by omega)
                    have x6 := hcl.out _ Hbr.out 6 (by omega)
                    have x7 := hcl.out _ Hbr.out 7 (by omega)
                    have x8 := hcl.out _ Hbr.out 8 (by omega)
                    have y0 := hcl2.out _ Hbr.out 0 (by omega)
                    have y1 := hcl2.out _ Hbr.out 1 (by omega)
                    have y2 := hcl2.out _ Hbr.out 2 (by omega)
                    have y3 := hcl2.out _ Hbr.out 3 (by omega)
                    have y4 := hcl2.out _ Hbr.out 4 (by omega)
                    have y5 := hcl2.out _ Hbr.out 5 (by omega)
                    have y6 := hcl2.out _ Hbr.out 6 (by omega)
                    have y7 := hcl2.out _ Hbr.out 7 (by omega)
                    have y8 := hcl2.out _ Hbr.out 8 (by omega)
                    go_wp2_with fail
                    clear x0 y0 x1 y1 x2 y2 x3 y3 x4 y4 x5 y5 x6 y6 x7 y7 x8 y8
                    refine (same_calls _ _ _ _ _ _ _ _ _ _ _ _ _ _ _ _ _ _ _).mono ?_
                    rintro e w9 ⟨rfl, hb9⟩
                    rw [show ([(F 0 : Int), F 1, F 2, F 3, F 4, F 5, F 6, F 7, F 8] == [(F 0 : Int), F 1, F 2, F 3, F 4, F 5, F 6, F 7, F 8]) = true from by simp]
                    have Hb9 := hide (Hbr.out.trans (hb9.mono Hbr.out.size))
                    clear hb9
                    have x0 := hcl.out _ Hb9.out 0 (by omega)
                    have x1 := hcl.out _ Hb9.out 1 (by omega)
                    have x2 := hcl.out _ Hb9.out 2 (by omega)
                    have x3 := hcl.out _ Hb9.out 3 (by omega)
                    have x4 := hcl.out _ Hb9.out 4 (by omega)
                    have x5 := hcl.out _ Hb9.out 5 (by omega)
                    have x6 := hcl.out _ Hb9.out 6 (by omega)
                    have x7 := hcl.out _ Hb9.out 7 (by omega)
                    have x8 := hcl.out _ Hb9.out 8 (by omega)
                    have y0 := hcl3.out _ Hb9.out 0 (by omega)
                    have y1 := hcl3.out _ Hb9.out 1 (by omega)
                    have y2 := hcl3.out _ Hb9.out 2 (by omega)
                    have y3 := hcl3.out _ Hb9.out 3 (by omega)
                    have y4 := hcl3.out _ Hb9.out 4 (by omega)
                    have y5 := hcl3.out _ Hb9.out 5 (by omega)
                    have y6 := hcl3.out _ Hb9.out 6 (by omega)
                    have y7 := hcl3.out _ Hb9.out 7 (by omega)
                    have y8 := hcl3.out _ Hb9.out 8 (by omega)
                    go_wp2_with fail
                    clear x0 y0 x1 y1 x2 y2 x3 y3 x4 y4 x5 y5 x6 y6 x7 y7 x8 y8
                    refine (same_calls _ _ _ _ _ _ _ _ _ _ _ _ _ _ _ _ _ _ _).mono ?_
                    rintro e w10 ⟨rfl, hb10⟩
                    rw [hhalf.out]
                    have Hb10 := hide (Hb9.out.trans (hb10.mono Hb9.out.size))
                    clear hb10
                    have hbz : (((sumTo F 9 : Int) == 0) == ((sumTo F 9 : Int) == 0)) = true := by simp
                    go_wp2_with fail
                    exact hR.out _ _ ⟨rfl, hfin.out _ Hb10.out⟩
end Go.Proofs.Ytehkdionodnhjaa
