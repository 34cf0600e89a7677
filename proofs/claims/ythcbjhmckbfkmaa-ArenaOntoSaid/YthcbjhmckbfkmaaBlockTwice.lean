/- BlockTwice, walked. -/
import Derived.Test.YthcbjhmckbfkmaaBlockLaws
import Derived.Test.YthcbjhmckbfkmaaBlockRef
import Derived.BigQuiet
set_option linter.unusedVariables false
set_option linter.unusedSimpArgs false
namespace Go.Proofs.Ythcbjhmckbfkmaa
open Go.RowKit

/-- Values that are rows of bytes. -/
def RowV (S : Nat → Prop) (w : World) : List (List UInt8) → List Value → Prop
  | [], vs => vs = []
  | x :: xs, vs => ∃ v r, vs = v :: r ∧ (Kd.sl Kd.byte).R S w x [v] ∧ RowV S w xs r
theorem RowV.get {S : Nat → Prop} {w : World} : ∀ {xss : List (List UInt8)} {vs : List Value}, RowV S w xss vs → ∀ (i : Nat) (x : List UInt8), xss[i]? = some x → ∃ u, vs[i]? = some u ∧ (Kd.sl Kd.byte).R S w x [u]
  | [], _, _, i, x, hx => by simp at hx
  | y :: ys, _, ⟨v, r, rfl, hv, hr⟩, 0, x, hx => by simp at hx; subst hx; exact ⟨v, rfl, hv⟩
  | y :: ys, _, ⟨v, r, rfl, hv, hr⟩, i + 1, x, hx => by
    simp at hx
    obtain ⟨u, h1, h2⟩ := RowV.get hr i x hx
    exact ⟨u, by simpa using h1, h2⟩
theorem RowV.keep {S S' : Nat → Prop} {w w' : World} (hk : ∀ k, S k → w'.heap[k]? = w.heap[k]?) (hs : ∀ k, S k → S' k) : ∀ {xss : List (List UInt8)} {vs : List Value}, RowV S w xss vs → RowV S' w' xss vs
  | [], _, h => h
  | y :: ys, _, ⟨v, r, e, hv, hr⟩ => ⟨v, r, e, (Kd.sl Kd.byte).mono hs ((Kd.sl Kd.byte).keep hk hv), RowV.keep hk hs hr⟩
theorem lit_rows {B : Nat} {w W : World} (hb : Below B w W) (hB : B ≤ W.heap.size) {xss : List (List UInt8)} {vs : List Value} (h : RowV (· < W.heap.size) W xss vs) {o : Obj} (ho : o = .cells vs.toArray 22) : ∃ W', W' = W.alloc o ∧
    RdL (Kd.sl Kd.byte) (· < W'.heap.size) W' (some ⟨W.heap.size, 0, none⟩) xss ∧ Below B w W' ∧ W'.heap.size = W.heap.size + 1 ∧ Below W.heap.size W W' := by
  subst ho
  have hk := (below_alloc W (.cells vs.toArray 22))
  have hsz : (W.alloc (.cells vs.toArray 22)).heap.size = W.heap.size + 1 := by simp
  refine ⟨_, rfl, ?_, hb.alloc hB _, hsz, hk⟩
  have h' : RowV (· < (W.alloc (.cells vs.toArray 22)).heap.size) (W.alloc (.cells vs.toArray 22)) xss vs := h.keep (fun k hk' => hk.block k hk') (fun k hk' => by rw [hsz]; omega)
  exact RdL.block1 rfl (heap_alloc_new W _) (by rw [hsz]; omega) (fun i x hx => by
    obtain ⟨u, h1, h2⟩ := h'.get i x hx
    exact ⟨u, by simpa using h1, h2⟩)

theorem x_get (ts bs : List UInt8) (hl : bs.length = ts.length) (i : Nat) : (xorL ts bs).getD i 0 = ts.getD i 0 ^^^ bs.getD i 0 := by
  by_cases hi : i < ts.length
  · exact xorL_getD ts bs hl i hi
  · have h1 : ts.length ≤ i := by omega
    have h2 : bs.length ≤ i := by omega
    have h3 : (xorL ts bs).length ≤ i := by rw [xorL_len ts bs hl]; exact h1
    simp only [List.getD_eq_getElem?_getD, List.getElem?_eq_none h1, List.getElem?_eq_none h2, List.getElem?_eq_none h3, Option.getD_none]
    rfl
/-- All bytes put upon each other, at one place. -/
def putD (i : Nat) (x : UInt8) (bss : List (List UInt8)) : UInt8 := bss.foldl (fun y b => y ^^^ b.getD i 0) x
theorem sum_get (i : Nat) : ∀ (bss : List (List UInt8)) (ts : List UInt8), (∀ b ∈ bss, b.length = ts.length) → (sumL ts bss).getD i 0 = putD i (ts.getD i 0) bss
  | [], ts, _ => rfl
  | b :: r, ts, h => by
    have hb := h b (by simp)
    show (sumL (xorL ts b) r).getD i 0 = putD i (ts.getD i 0 ^^^ b.getD i 0) r
    rw [sum_get i r (xorL ts b) (fun c hc => by rw [xorL_len ts b hb]; exact h c (by simp [hc])), x_get ts b hb i]
theorem ext_getD (xs ys : List UInt8) (hl : xs.length = ys.length) (h : ∀ i, xs.getD i 0 = ys.getD i 0) : xs = ys := by
  apply List.ext_getElem hl
  intro i h1 h2
  have := h i
  simpa [List.getD_eq_getElem?_getD, List.getElem?_eq_getElem h1, List.getElem?_eq_getElem h2] using this
theorem zs_get (n i : Nat) : (zs n).getD i 0 = 0 := by
  simp [zs, List.getD_eq_getElem?_getD, List.getElem?_replicate]
  split <;> rfl
theorem zero_x (a : UInt8) : 0 ^^^ a = a := by simp
theorem law_xy (n : Nat) (a b c : List UInt8) (ha : a.length = n) (hb : b.length = n) (hc : c.length = n) : sumL (zs n) [c, a, b] = sumL (zs n) [a, b, c] := by
  have hz : (zs n).length = n := by simp [zs]
  refine ext_getD _ _ (by rw [sumL_len n _ _ hz (by simp [ha, hb, hc]), sumL_len n _ _ hz (by simp [ha, hb, hc])]) (fun i => ?_)
  rw [sum_get i _ _ (by simp [ha, hb, hc, hz]), sum_get i _ _ (by simp [ha, hb, hc, hz])]
  simp only [putD, List.foldl_cons, List.foldl_nil, zs_get, zero_x]
  ac_rfl
theorem x_cancel (a b : UInt8) : a ^^^ b ^^^ a = b := by rw [UInt8.xor_comm a b, UInt8.xor_assoc, UInt8.xor_self, UInt8.xor_zero]
theorem law_z (n : Nat) (a b c : List UInt8) (ha : a.length = n) (hb : b.length = n) (hc : c.length = n) : sumL (zs n) [a, b, a, c, b] = c := by
  have hz : (zs n).length = n := by simp [zs]
  refine ext_getD _ _ (by rw [sumL_len n _ _ hz (by simp [ha, hb, hc]), hc]) (fun i => ?_)
  rw [sum_get i _ _ (by simp [ha, hb, hc, hz])]
  simp only [putD, List.foldl_cons, List.foldl_nil, zs_get, zero_x]
  rw [x_cancel, x_cancel]
theorem law_0 (n : Nat) (a b c : List UInt8) (ha : a.length = n) (hb : b.length = n) (hc : c.length = n) : sumL (zs n) [sumL (zs n) [a, b, c], a, b, c] = zs n := by
  have hz : (zs n).length = n := by simp [zs]
  have hx : (sumL (zs n) [a, b, c]).length = n := sumL_len n _ _ hz (by simp [ha, hb, hc])
  refine ext_getD _ _ (by rw [sumL_len n _ _ hz (by simp [ha, hb, hc, hx]), hz]) (fun i => ?_)
  rw [sum_get i _ _ (by simp [ha, hb, hc, hz, hx])]
  simp only [putD, List.foldl_cons, List.foldl_nil, zs_get, zero_x]
  rw [sum_get i _ _ (by simp [ha, hb, hc, hz])]
  simp only [putD, List.foldl_cons, List.foldl_nil, zs_get, zero_x]
  generalize a.getD i 0 = x; generalize b.getD i 0 = y; generalize c.getD i 0 = z
  have e : x ^^^ y ^^^ z ^^^ x ^^^ y ^^^ z = (x ^^^ x) ^^^ (y ^^^ y) ^^^ (z ^^^ z) := by ac_rfl
  rw [e]; simp
theorem zeroB_zs (n : Nat) : zeroB (zs n) = true := by simp [zeroB, zs]

/-- block2 of blocks that all are as long: new memory. -/
theorem block2_yes (n : Nat) (B : Option Addr) (bss : List (List UInt8)) (d : Nat) (S : Nat → Prop) (w : World)
    (hn : n ≤ 16777216) (hd : d ≤ maxLen) (hdl : bss.length ≤ d) (hl : ∀ b ∈ bss, b.length = n) (hb : RdL (Kd.sl Kd.byte) S w B bss) (hS : ∀ k, S k → k < w.heap.size) :
    Calls Try.prog 20 #[.int .i64 (n : Int), .slice B bss.length d] w fun e' w' => e' = .returned (.slice (some ⟨w.heap.size, 0, none⟩) n n) ∧
      Wr w' (some ⟨w.heap.size, 0, none⟩) w.heap.size [] [] 5 (sumL (zs n) bss) ∧ w.heap.size < w'.heap.size ∧ Below w.heap.size w w' := by
  refine cps fun R hR => ?_
  have hsum := sum_yes n B bss d S w hn hd hdl hl hb hS
  have Hsum := hide hsum
  clear hsum hl hb hS
  go_enter Try.func20, Try.ntmps20
  go_wp2_with fail
  refine Hsum.out.mono ?_
  rintro e w1 ⟨rfl, h1, h2, h3⟩
  go_wp2_with fail
  exact hR.out _ _ ⟨rfl, h1, h2, h3⟩

theorem upR {W w' : World} {x : List UInt8} {cs : List Value} (hb : Below W.heap.size W w') (h : (Kd.sl Kd.byte).R (· < W.heap.size) W x cs) : (Kd.sl Kd.byte).R (· < w'.heap.size) w' x cs :=
  (Kd.sl Kd.byte).mono (fun k hk => Nat.lt_of_lt_of_le hk hb.size) ((Kd.sl Kd.byte).keep (fun k hk => hb.block k hk) h)
theorem sum_lit (n : Nat) (W : World) (bss : List (List UInt8)) (vs : List Value) (k : Nat) (hn : n ≤ 16777216) (hk : k ≤ maxLen) (hkl : bss.length = k) (hl : ∀ b ∈ bss, b.length = n) (hv : RowV (· < W.heap.size) W bss vs) {o : Obj} (ho : o = .cells vs.toArray 22) :
    Calls Try.prog 18 #[.int .i64 (n : Int), .slice (some ⟨W.heap.size, 0, none⟩) k k] (W.alloc o) fun e' w' => e' = .returned (.tuple #[.slice (some ⟨W.heap.size + 1, 0, none⟩) n n, .bool true]) ∧
      Wr w' (some ⟨W.heap.size + 1, 0, none⟩) (W.heap.size + 1) [] [] 5 (sumL (zs n) bss) ∧ W.heap.size + 1 < w'.heap.size ∧ Below W.heap.size W w' := by
  obtain ⟨W', e, hr, hb, hs, -⟩ := lit_rows (Below.refl W.heap.size W) (Nat.le_refl _) hv ho
  rw [← e]
  have h := sum_yes n _ bss k _ W' hn hk (by omega) hl hr fun _ h => h
  rw [hkl, hs] at h
  refine h.mono ?_
  rintro e w' ⟨h1, h2, h3, h4⟩
  exact ⟨h1, h2, h3, hb.trans (h4.mono (by omega))⟩
theorem block2_lit (n : Nat) (W : World) (bss : List (List UInt8)) (vs : List Value) (k : Nat) (hn : n ≤ 16777216) (hk : k ≤ maxLen) (hkl : bss.length = k) (hl : ∀ b ∈ bss, b.length = n) (hv : RowV (· < W.heap.size) W bss vs) {o : Obj} (ho : o = .cells vs.toArray 22) :
    Calls Try.prog 20 #[.int .i64 (n : Int), .slice (some ⟨W.heap.size, 0, none⟩) k k] (W.alloc o) fun e' w' => e' = .returned (.slice (some ⟨W.heap.size + 1, 0, none⟩) n n) ∧
      Wr w' (some ⟨W.heap.size + 1, 0, none⟩) (W.heap.size + 1) [] [] 5 (sumL (zs n) bss) ∧ W.heap.size + 1 < w'.heap.size ∧ Below W.heap.size W w' := by
  obtain ⟨W', e, hr, hb, hs, -⟩ := lit_rows (Below.refl W.heap.size W) (Nat.le_refl _) hv ho
  rw [← e]
  have h := block2_yes n _ bss k _ W' hn hk (by omega) hl hr fun _ h => h
  rw [hkl, hs] at h
  refine h.mono ?_
  rintro e w' ⟨h1, h2, h3, h4⟩
  exact ⟨h1, h2, h3, hb.trans (h4.mono (by omega))⟩
/-- Bytes that were written are a row. -/
theorem Wr.kd {w : World} {g : Nat} {e : TypeId} {ts : List UInt8} {n : Nat} (h : Wr w (some ⟨g, 0, none⟩) g [] [] e ts) (hn : ts.length = n) (hm : n ≤ maxLen) (hg : g < w.heap.size) : (Kd.sl Kd.byte).R (· < w.heap.size) w ts [.slice (some ⟨g, 0, none⟩) n n] :=
  ⟨some ⟨g, 0, none⟩, n, by rw [hn], by omega, hm, h.rd.mono fun k hk => by rw [hk]; exact hg⟩

theorem run_min4 (P : Program) (w : World) (ts : Array TypeId) (t : TypeId) (a b c : Nat) : (Builtin.min_ ts t #[.int .i64 (a : Int), .int .i64 (b : Int), .int .i64 (c : Int), .int .i64 200]).run P w = .ok (.int .i64 ((min (min (min a b) c) 200 : Nat) : Int)) w := by
  have e : ((min (min (min a b) c) 200 : Nat) : Int) = if (200 : Int) < (if (c : Int) < (if (b : Int) < (a : Int) then (b : Int) else a) then (c : Int) else (if (b : Int) < (a : Int) then (b : Int) else a)) then 200 else (if (c : Int) < (if (b : Int) < (a : Int) then (b : Int) else a) then (c : Int) else (if (b : Int) < (a : Int) then (b : Int) else a)) := by
    repeat' split
    all_goals omega
  rw [e]
  simp [Builtin.min_, Builtin.min2]

theorem twice_calls (A B C : Option Addr) (a b c : List UInt8) (ca cb cc : Nat) (w : World)
    (ham : ca ≤ maxLen) (hal : a.length ≤ ca) (har : RdL Kd.byte (· < w.heap.size) w A a) (hbm : cb ≤ maxLen) (hbl : b.length ≤ cb) (hbr : RdL Kd.byte (· < w.heap.size) w B b) (hcm : cc ≤ maxLen) (hcl : c.length ≤ cc) (hcr : RdL Kd.byte (· < w.heap.size) w C c) :
    Calls Try.prog 6 #[.slice A a.length ca, .slice B b.length cb, .slice C c.length cc] w fun e w' => e = .returned (.bool true) ∧ Below w.heap.size w w' := by
  refine cps fun R hR => ?_
  have ham' := ham
  have hbm' := hbm
  have hcm' := hcm
  unfold maxLen at ham' hbm' hcm'
  go_enter Try.func6, Try.ntmps6
  go_wp2_with fail
  refine (speaks_calls w).mono ?_
  rintro e w1 ⟨rfl, hb1⟩
  replace har := (har.below hb1).mono fun k h => Nat.lt_of_lt_of_le h hb1.size
  replace hbr := (hbr.below hb1).mono fun k h => Nat.lt_of_lt_of_le h hb1.size
  replace hcr := (hcr.below hb1).mono fun k h => Nat.lt_of_lt_of_le h hb1.size
  have hmin := run_min4 Try.prog w1 #[3, 3, 3, 3] 3 a.length b.length c.length
  generalize hn : min (min (min a.length b.length) c.length) 200 = n at hmin
  have na : n ≤ a.length := by omega
  have nb : n ≤ b.length := by omega
  have nc : n ≤ c.length := by omega
  have n200 : n ≤ 200 := by omega
  clear hn
  go_wp2_with fail
  go_quiet (fail)
  obtain ⟨w2, hw2⟩ : ∃ w2, w2 = w1.drewN nq := ⟨_, rfl⟩
  have hb2 : Below w.heap.size w w2 := by rw [hw2]; exact ⟨hb1.os, hb1.tape, hb1.output, hb1.size, hb1.block⟩
  have h12 : Below w1.heap.size w1 w2 := by rw [hw2]; exact ⟨rfl, rfl, rfl, Nat.le_refl _, fun _ _ => rfl⟩
  have hxa : (Kd.sl Kd.byte).R (· < w2.heap.size) w2 (a.take n) [.slice A n n] := ⟨A, n, by rw [List.length_take, Nat.min_eq_left na], by rw [List.length_take]; omega, by unfold maxLen; omega, ((har.take n).below h12).mono fun k h => Nat.lt_of_lt_of_le h h12.size⟩
  have hxb : (Kd.sl Kd.byte).R (· < w2.heap.size) w2 (b.take n) [.slice B n n] := ⟨B, n, by rw [List.length_take, Nat.min_eq_left nb], by rw [List.length_take]; omega, by unfold maxLen; omega, ((hbr.take n).below h12).mono fun k h => Nat.lt_of_lt_of_le h h12.size⟩
  have hxc : (Kd.sl Kd.byte).R (· < w2.heap.size) w2 (c.take n) [.slice C n n] := ⟨C, n, by rw [List.length_take, Nat.min_eq_left nc], by rw [List.length_take]; omega, by unfold maxLen; omega, ((hcr.take n).below h12).mono fun k h => Nat.lt_of_lt_of_le h h12.size⟩
  have la : (a.take n).length = n := by rw [List.length_take]; omega
  have lb : (b.take n).length = n := by rw [List.length_take]; omega
  have lc : (c.take n).length = n := by rw [List.length_take]; omega
  rw [← hw2]
  clear hw2 hmin
  generalize a.take n = x at hxa la
  generalize b.take n = y at hxb lb
  generalize c.take n = z at hxc lc
  have Hxa := hide hxa
  have Hxb := hide hxb
  have Hxc := hide hxc
  have Ha := hide la
  have Hb := hide lb
  have Hc := hide lc
  clear hxa hxb hxc la lb lc har hbr hcr na nb nc ham hal hbm hbl hcm hcl ham' hbm' hcm' hb1 h12
  go_wp2_with fail
  have nm : n ≤ maxLen := by unfold maxLen; omega
  refine (sum_lit n w2 [x, y, z] [.slice A n n, .slice B n n, .slice C n n] 3 (by omega) (by unfold maxLen; omega) rfl (by simp [Ha.out, Hb.out, Hc.out]) ⟨_, _, rfl, Hxa.out, _, _, rfl, Hxb.out, _, _, rfl, Hxc.out, rfl⟩ rfl).mono ?_
  rintro e w3 ⟨rfl, hw3, hs3, hk3⟩
  have hb3 := hb2.trans (hk3.mono hb2.size)
  have ya := hide (upR hk3 Hxa.out)
  have yb := hide (upR hk3 Hxb.out)
  have yc := hide (upR hk3 Hxc.out)
  clear hk3 Hxa Hxb Hxc
  generalize w2.heap.size + 1 = g1 at hw3 hs3
  go_wp2_with fail
  refine (sum_lit n w3 [z, x, y] [.slice C n n, .slice A n n, .slice B n n] 3 (by omega) (by unfold maxLen; omega) rfl (by simp [Ha.out, Hb.out, Hc.out]) ⟨_, _, rfl, yc.out, _, _, rfl, ya.out, _, _, rfl, yb.out, rfl⟩ rfl).mono ?_
  rintro e w4 ⟨rfl, hw4, hs4, hk4⟩
  have hb4 := hb3.trans (hk4.mono hb3.size)
  have za := hide (upR hk4 ya.out)
  have zb := hide (upR hk4 yb.out)
  have zc := hide (upR hk4 yc.out)
  replace hw3 := hw3.keep (hk4.block _ hs3)
  have hs3' := Nat.lt_of_lt_of_le hs3 hk4.size
  clear hk4 ya yb yc hs3
  generalize w3.heap.size + 1 = g2 at hw4 hs4
  go_wp2_with fail
  refine (sum_lit n w4 [x, y, x, z, y] [.slice A n n, .slice B n n, .slice A n n, .slice C n n, .slice B n n] 5 (by omega) (by unfold maxLen; omega) rfl (by simp [Ha.out, Hb.out, Hc.out]) ⟨_, _, rfl, za.out, _, _, rfl, zb.out, _, _, rfl, za.out, _, _, rfl, zc.out, _, _, rfl, zb.out, rfl⟩ rfl).mono ?_
  rintro e w5 ⟨rfl, hw5, hs5, hk5⟩
  have hb5 := hb4.trans (hk5.mono hb4.size)
  have ua := hide (upR hk5 za.out)
  have ub := hide (upR hk5 zb.out)
  have uc := hide (upR hk5 zc.out)
  replace hw3 := hw3.keep (hk5.block _ hs3')
  replace hw4 := hw4.keep (hk5.block _ hs4)
  replace hs3' := Nat.lt_of_lt_of_le hs3' hk5.size
  replace hs4 := Nat.lt_of_lt_of_le hs4 hk5.size
  clear hk5 za zb zc
  generalize w4.heap.size + 1 = g3 at hw5 hs5
  rw [law_z n x y z Ha.out Hb.out Hc.out] at hw5
  rw [law_xy n x y z Ha.out Hb.out Hc.out] at hw4
  have hl0 := law_0 n x y z Ha.out Hb.out Hc.out
  have hlx : (sumL (zs n) [x, y, z]).length = n := sumL_len n _ _ (by simp [zs]) (by simp [Ha.out, Hb.out, Hc.out])
  generalize sumL (zs n) [x, y, z] = s at hw3 hw4 hl0 hlx
  have c1 := run_str (P := Try.prog) (w := w5) Try.underlying22 Try.underlying5 Try.underlying9 hw3.src n
  have c2 := run_str (P := Try.prog) (w := w5) Try.underlying22 Try.underlying5 Try.underlying9 hw4.src n
  have c3 := run_str (P := Try.prog) (w := w5) Try.underlying22 Try.underlying5 Try.underlying9 hw5.src n
  obtain ⟨C', cC, eC, -, -, rC⟩ := uc.out
  rw [Hc.out] at eC c3
  simp only [List.cons.injEq, Value.slice.injEq, and_true] at eC
  obtain ⟨rfl, -, rfl⟩ := eC
  have c4 := run_str (P := Try.prog) (w := w5) Try.underlying22 Try.underlying5 Try.underlying9 rC.srcB n
  rw [hlx] at c1 c2
  rw [Hc.out] at c4
  have hx := hide (hw3.kd hlx nm hs3')
  have Hl0 := hide hl0
  have Hlx := hide hlx
  clear hl0 hlx rC hw3 hw4 hw5
  generalize bstr s = s1 at c1 c2
  generalize bstr z = s2 at c3 c4
  go_wp2_with fail
  refine (block2_lit n w5 [s, x, y, z] [.slice (some ⟨g1, 0, none⟩) n n, .slice A n n, .slice B n n, .slice C n n] 4 (by omega) (by unfold maxLen; omega) rfl (by simp [Ha.out, Hb.out, Hc.out, Hlx.out]) ⟨_, _, rfl, hx.out, _, _, rfl, ua.out, _, _, rfl, ub.out, _, _, rfl, uc.out, rfl⟩ rfl).mono ?_
  rintro e w6 ⟨rfl, hw6, hs6, hk6⟩
  have hb6 := hb5.trans (hk6.mono hb5.size)
  rw [Hl0.out] at hw6
  have hz := zero_calls (some ⟨w5.heap.size + 1, 0, none⟩) (zs n) n _ w6 nm (by simp [zs]) hw6.rd
  rw [zeroB_zs, show (zs n).length = n by simp [zs]] at hz
  clear hw6 hk6
  have Hz := hide hz
  clear hz
  go_wp2_with fail
  refine Hz.out.mono ?_
  rintro e w7 ⟨rfl, rfl⟩
  go_wp2_with fail
  exact hR.out _ _ ⟨rfl, hb6⟩
end Go.Proofs.Ythcbjhmckbfkmaa
