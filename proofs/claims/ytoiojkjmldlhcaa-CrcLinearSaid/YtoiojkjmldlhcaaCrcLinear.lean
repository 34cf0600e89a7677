/- CrcLinear, walked. -/
import Derived.Test.YtoiojkjmldlhcaaCrcLaws
import Derived.Test.YtoiojkjmldlhcaaWirePut
import Derived.Test.YtoiojkjmldlhcaaInv
import Derived.Deep.RegionHeld
import Derived.Deep.Cut
import Derived.Deep.CutRange
import Derived.Deep.RegionHeldLaw
import Derived.StillTailTactics
set_option linter.unusedVariables false
set_option linter.unusedSimpArgs false
namespace Go.Proofs.Ytoiojkjmldlhcaa
open Go.RowKit

theorem run_min4 (P : Program) (w : World) (ts : Array TypeId) (t : TypeId) (a b c : Nat) : (Builtin.min_ ts t #[.int .i64 (a : Int), .int .i64 (b : Int), .int .i64 (c : Int), .int .i64 300]).run P w = .ok (.int .i64 ((min (min (min a b) c) 300 : Nat) : Int)) w := by
  simp [Builtin.min_, Builtin.min2]
  split <;> split <;> split <;> (try simp) <;> omega
theorem xor3_at {a b c : List UInt8} {n k : Nat} (ha : a.length = n) (hb : b.length = n) (hc : c.length = n) (hk : k < n) : (xor3 a b c).length = n ∧ (xor3 a b c)[k]? = some ((a[k] ^^^ b[k]) ^^^ c[k]) := by
  refine ⟨by simp [xor3, ha, hb, hc], ?_⟩
  simp [xor3, List.getElem?_zipWith, ha, hb, hc, hk]
/-- k bytes are there, noughts behind them. -/
def mixK (n k : Nat) (r : List UInt8) : List UInt8 := r.take k ++ List.replicate (n - k) 0
theorem mixK_set {n k : Nat} {r : List UInt8} {x : UInt8} (hr : r.length = n) (hk : k < n) (hx : r[k]? = some x) : (mixK n k r).set k x = mixK n (k + 1) r := by
  have hl : (r.take k).length = k := by rw [List.length_take]; omega
  obtain ⟨m, rfl⟩ : ∃ m, n = k + (m + 1) := ⟨n - k - 1, by omega⟩
  have hxe : r[k]'(by omega) = x := by rw [List.getElem?_eq_getElem (by omega)] at hx; injection hx
  unfold mixK
  rw [show k + (m + 1) - k = m + 1 by omega, show k + (m + 1) - (k + 1) = m by omega, List.replicate_succ, List.set_append_right _ _ (by omega), hl, Nat.sub_self, List.set_cons_zero, List.take_succ_eq_append_getElem (by omega), hxe, List.append_assoc]
  rfl
theorem mixK_len {n k : Nat} {r : List UInt8} (hr : r.length = n) (hk : k ≤ n) : (mixK n k r).length = n := by
  unfold mixK; rw [List.length_append, List.length_take, List.length_replicate]; omega
theorem op_move {P : Program} {o : Oper} {a : Act} {w : World} {K : Act → World → Prop} {Q : Exit → Act → World → Prop} {x : Operand} (ho : o.op = .move x) (h : K (a.put o.dst (a.eval x)) w) : Oper.wp P o a w K Q := by
  unfold Oper.wp execOp
  simp only [ho, Sem.run_pure, Oper.upon_value]
  exact h
theorem op_assign {P : Program} {o : Oper} {a : Act} {w : World} {K : Act → World → Prop} {Q : Exit → Act → World → Prop} {x : Operand} (ho : o.op = .assign x) (h : K (a.put o.dst (a.eval x)) w) : Oper.wp P o a w K Q := by
  unfold Oper.wp execOp
  simp only [ho, Sem.run_pure, Oper.upon_value]
  exact h
theorem ev_at {a : Act} {t : Nat} {v : Value} (h : a.eval (.tmp t) = v) (ht : t < a.tmps.size) : a.tmps[t] = v := by
  rw [← h]; simp [Act.eval, Array.getD, ht]
abbrev litP (x : Value) (v : Value) (w : World) : Prop := ∃ g, v = .slice (some ⟨g, 0, none⟩) 1 1 ∧ w.heap[g]? = some (.cells #[x] 24 (0, 0))
def VP (lits : List (Option Value)) (cs : List Value) (j : Nat) (v : Value) (w : World) : Prop := match lits.getD j none with
  | some x => litP x v w
  | none => v = cs.getD j undef
theorem VP.mono {lits : List (Option Value)} {cs : List Value} {w w' : World} (hb : Below w.heap.size w w') (j : Nat) (v : Value) (h : VP lits cs j v w) : VP lits cs j v w' := by
  unfold VP at h ⊢
  split at h
  · obtain ⟨g, h1, h2⟩ := h
    exact ⟨g, h1, (hb.block g (Array.getElem?_eq_some_iff.1 h2).1).trans h2⟩
  · exact h
set_option maxRecDepth 100000 in
set_option maxHeartbeats 4000000 in
theorem CrcLinear_calls (A : Option Addr) (a0 : List UInt8) (ca : Nat) (B : Option Addr) (b0 : List UInt8) (cb : Nat) (C : Option Addr) (c0 : List UInt8) (cc : Nat) (w : World)
    (ham : ca ≤ maxLen) (hal : a0.length ≤ ca) (har : RdL Kd.byte (· < w.heap.size) w A a0) (hbm : cb ≤ maxLen) (hbl : b0.length ≤ cb) (hbr : RdL Kd.byte (· < w.heap.size) w B b0) (hcm : cc ≤ maxLen) (hcl : c0.length ≤ cc) (hcr : RdL Kd.byte (· < w.heap.size) w C c0) :
    Calls Try.prog 10 #[.slice A a0.length ca, .slice B b0.length cb, .slice C c0.length cc] w fun e w' => e = .returned (.bool true) ∧ Below w.heap.size w w' := by
  refine cps fun R hR => ?_
  have hmn := fun (w : World) ts t => run_min4 Try.prog w ts t a0.length b0.length c0.length
  obtain ⟨n, hn⟩ : ∃ n : Nat, n = min (min (min a0.length b0.length) c0.length) 300 := ⟨_, rfl⟩
  rw [← hn] at hmn
  have hna : n ≤ a0.length := by omega
  have hnb : n ≤ b0.length := by omega
  have hnc : n ≤ c0.length := by omega
  have hn3 : n ≤ 300 := by omega
  have Ha := hide har
  have Hb := hide hbr
  have Hc := hide hcr
  clear har hbr hcr hn
  generalize hla : a0.length = na at *
  generalize hlb : b0.length = nb at *
  generalize hlc : c0.length = nc at *
  have Hla := hide hla
  have Hlb := hide hlb
  have Hlc := hide hlc
  clear hla hlb hlc
  have hmk := make_bytes n (by omega)
  obtain ⟨X, hX⟩ : ∃ X, X = xor3 (a0.take n) (b0.take n) (c0.take n) := ⟨_, rfl⟩
  have HX := hide hX
  clear hX
  have Hat := hide (fun k (hk : k < n) => (by
    have h1 := Hla.out
    have h2 := Hlb.out
    have h3 := Hlc.out
    have h := xor3_at (a := a0.take n) (b := b0.take n) (c := c0.take n) (n := n) (k := k) (by rw [List.length_take]; omega) (by rw [List.length_take]; omega) (by rw [List.length_take]; omega) hk
    rw [← HX.out] at h
    simpa using h : X.length = n ∧ X[k]? = some ((a0[k]'(by have := Hla.out; omega) ^^^ b0[k]'(by have := Hlb.out; omega)) ^^^ c0[k]'(by have := Hlc.out; omega))))
  have HXl := hide (show X.length = n by rw [HX.out]; simp [xor3]; have := Hla.out; have := Hlb.out; have := Hlc.out; omega)
  go_enter Try.func10, Try.ntmps10
  go_wp2_with fail
  refine (crcspeaks_calls w).mono ?_
  rintro e w1 ⟨rfl, hb1⟩
  replace hmn := hmn w1
  replace hmk := hmk w1
  have Hb1 := hide hb1
  have hm0 := hide (show mixK n 0 X = List.replicate n 0 by simp [mixK])
  have hwx := hide (Wr.made w1 n)
  clear hb1
  go_wp2_with fail
  go_loopw [24] (fun i wr => ∃ k : Nat, k ≤ n ∧ i = .int .i64 (k : Int) ∧ Wr wr (some ⟨w1.heap.size, 0, none⟩) w1.heap.size [] [] 5 (mixK n k X) ∧ Below w1.heap.size w1 wr ∧ w1.heap.size < wr.heap.size) (fun i _ => n - (intOf i).toNat)
  case atStart => exact ⟨0, Nat.zero_le _, rfl, by rw [hm0.out]; exact hwx.out, balloc w1 _, by simp⟩
  case round =>
    obtain ⟨k, hk, rfl, hw, hbw, hsw⟩ := hrel
    have Hbw := hide (Hb1.out.trans (hbw.mono Hb1.out.size))
    clear hwx hm0
    by_cases hlt : k < n
    · have hka : k < a0.length := by have := Hla.out; omega
      have hkb : k < b0.length := by have := Hlb.out; omega
      have hkc : k < c0.length := by have := Hlc.out; omega
      obtain ⟨b1, o1, u1, rfl, -, q1, c1⟩ := (Ha.out.below Hbw.out).at1 rfl hka
      obtain ⟨b2, o2, u2, rfl, -, q2, c2⟩ := (Hb.out.below Hbw.out).at1 rfl hkb
      obtain ⟨b3, o3, u3, rfl, -, q3, c3⟩ := (Hc.out.below Hbw.out).at1 rfl hkc
      obtain rfl := Kd.byte_cell q1
      obtain rfl := Kd.byte_cell q2
      obtain rfl := Kd.byte_cell q3
      obtain ⟨-, hx⟩ := Hat.out k hlt
      obtain ⟨x1, hx1⟩ : ∃ x, x = a0[k] := ⟨_, rfl⟩
      obtain ⟨x2, hx2⟩ : ∃ x, x = b0[k] := ⟨_, rfl⟩
      obtain ⟨x3, hx3⟩ : ∃ x, x = c0[k] := ⟨_, rfl⟩
      rw [← hx1] at c1 hx
      rw [← hx2] at c2 hx
      rw [← hx3] at c3 hx
      have e1 := xor8 x1 x2
      have e2 := xor8 (x1 ^^^ x2) x3
      obtain ⟨y, hy⟩ : ∃ y, y = x1 ^^^ x2 := ⟨_, rfl⟩
      rw [← hy] at e1 e2 hx
      obtain ⟨z, hz⟩ : ∃ z, z = y ^^^ x3 := ⟨_, rfl⟩
      rw [← hz] at e2 hx
      have hcur : k < (mixK n k X).length := by rw [mixK_len HXl.out hk]; exact hlt
      obtain ⟨-, hc1, hf1⟩ := hw.cell hcur
      simp only [List.length_nil, Nat.zero_add] at hc1 hf1
      have hnext := hw.set hcur z
      rw [mixK_set HXl.out hlt hx] at hnext
      simp only [List.length_nil, Nat.zero_add] at hnext
      have Hnext := hide hnext
      obtain ⟨m0, hm0⟩ : ∃ m0 : Int, ((mixK n k X)[k].toNat : Int) = m0 := ⟨_, rfl⟩
      rw [hm0] at hc1
      have Hbx := hide hbw
      clear hm0 hnext hx hz hy hx1 hx2 hx3 q1 q2 q3 hw hcur hbw
      have i1 : (k : Int) < (na : Int) := by omega
      have i2 : (k : Int) < (nb : Int) := by omega
      have i3 : (k : Int) < (nc : Int) := by omega
      have i4 : (k : Int) < (n : Int) := by omega
      have i5 : (0 : Int) ≤ (k : Int) := by omega
      go_wp2_with fail
      go_still_tail 17, (by kernel_rfl)
      go_wp2_with fail
      exact ⟨⟨k + 1, by omega, by rw [Int.natCast_succ], Hnext.out.keep rfl, (Hbx.out.setCell (Nat.le_refl _) _).drew, by simpa using hsw⟩, by simp only [intOf]; omega⟩
    · obtain rfl : k = n := by omega
      have hxx : mixK k k X = X := by simp [mixK]; rw [← HXl.out]; simp
      rw [hxx] at hw
      have Hw := hide hw
      clear hw hxx Hat
      go_wp2_with fail
      refine (new_calls wr).mono ?_
      rintro e w3 ⟨rfl, ht3, hb3, hlt3⟩
      have Ht3 := hide ht3
      have Hb3 := hide (Hbw.out.trans (hb3.mono Hbw.out.size))
      have Hw3 := hide (Hw.out.keep (hb3.block _ hsw))
      have hz3 := hb3.size
      obtain ⟨sx, hsx⟩ : ∃ s : UInt32, s = crcS X := ⟨_, rfl⟩
      obtain ⟨sa, hsa⟩ : ∃ s : UInt32, s = crcS (a0.take k) := ⟨_, rfl⟩
      obtain ⟨sb, hsb⟩ : ∃ s : UInt32, s = crcS (b0.take k) := ⟨_, rfl⟩
      obtain ⟨sc, hsc⟩ : ∃ s : UInt32, s = crcS (c0.take k) := ⟨_, rfl⟩
      have hsum : sx = sa ^^^ sb ^^^ sc := by
        rw [hsx, hsa, hsb, hsc, HX.out]
        exact crcS_xor3 _ _ _ (by rw [List.length_take, List.length_take, Hla.out, Hlb.out]; omega) (by rw [List.length_take, List.length_take, Hlb.out, Hlc.out]; omega)
      obtain ⟨sab, hsab⟩ : ∃ s : UInt32, s = sa ^^^ sb := ⟨_, rfl⟩
      have hx1 := xor32 sa sb
      have hx2 := xor32 sab sc
      rw [← hsab] at hx1 hsum
      rw [← hsum] at hx2
      have Hsx := hide hsx
      have Hsa := hide hsa
      have Hsb := hide hsb
      have Hsc := hide hsc
      clear hsx hsa hsb hsc hsab hsum
      go_upto_region 11 with fail
      refine wp_region_frame (VP [none, none, some (.slice (some ⟨w1.heap.size, 0, none⟩) k k), none, none, none, none, none, some (.slice A k ca), none, none, none, none, none, some (.slice B k cb), none, none, none, none, none, none, some (.slice C k cc)]
        [.pointer (some ⟨wr.heap.size, 0, none⟩), .slice (some ⟨w1.heap.size, 0, none⟩) k k, undef, .int .u32 (sx.toNat : Int), .pointer (some ⟨wr.heap.size, 0, none⟩), .slice A na ca, .int .i64 (k : Int), .slice A k ca, undef, .int .u32 (sa.toNat : Int), .pointer (some ⟨wr.heap.size, 0, none⟩), .slice B nb cb, .int .i64 (k : Int), .slice B k cb, undef, .int .u32 (sb.toNat : Int), .int .u32 (sab.toNat : Int), .pointer (some ⟨wr.heap.size, 0, none⟩), .slice C nc cc, .int .i64 (k : Int), .slice C k cc, undef, .int .u32 (sc.toNat : Int), .int .u32 (sx.toNat : Int), .bool true, .bool true])
        (fun y => Below w3.heap.size w3 y) (by kernel_rfl) 71 rfl (by kernel_rfl) ?_ ?_ (Below.refl _ _).drew
      · refine ⟨?_, ?_, ?_, ?_, ?_, ?_, ?_, ?_, ?_, ?_, ?_, ?_, ?_, ?_, ?_, ?_, ?_, ?_, ?_, ?_, ?_, ?_, ?_, ?_, ?_, ?_, trivial⟩
        · exact fun a w hs hwd hold hdep K' hK => op_move rfl (hK _ _ (hold 10 (by kernel_rfl)) hwd fun _ _ h => h)
        · exact fun a w hs hwd hold hdep K' hK => op_move rfl (hK _ _ (hold 8 (by kernel_rfl)) hwd fun _ _ h => h)
        · intro a w hs hwd hold hdep K' hK
          have h1 := ev_at (t := 47) (v := .slice (some ⟨w1.heap.size, 0, none⟩) k k) (hdep 1 (by kernel_rfl)) (by rw [hs]; omega)
          go_simp
          exact hK _ _ ⟨w.heap.size, rfl, heap_alloc_new w _⟩ (hwd.alloc hwd.size _) (VP.mono (balloc w _))
        · intro a w hs hwd hold hdep K' hK
          have h1 := ev_at (t := 46) (v := .pointer (some ⟨wr.heap.size, 0, none⟩)) (hdep 0 (by kernel_rfl)) (by rw [hs]; omega)
          obtain ⟨g, h2', hg⟩ : litP (.slice (some ⟨w1.heap.size, 0, none⟩) k k) (a.eval (.tmp 48)) w := hdep 2 (by kernel_rfl)
          have h2 := ev_at h2' (by rw [hs]; omega)
          clear h2'
          go_simp
          have hc := sum_at (W := w) (g := wr.heap.size) (A := (some ⟨w1.heap.size, 0, none⟩)) (xs := X) (n := k) (c := k) (Ht3.out.keep (hwd.block _ Ht3.out.lt)) hg HXl.out (by omega) (by unfold maxLen; omega) (Hw3.out.rdB.keep (w' := w) fun z hz => hwd.block z (by rw [hz]; exact Nat.lt_of_lt_of_le hsw hz3))
          rw [← Hsx.out] at hc
          refine hc.mono ?_
          rintro e w' ⟨rfl, rfl⟩
          exact hK _ _ rfl hwd fun _ _ h => h
        · exact fun a w hs hwd hold hdep K' hK => op_move rfl (hK _ _ (hold 10 (by kernel_rfl)) hwd fun _ _ h => h)
        · exact fun a w hs hwd hold hdep K' hK => op_move rfl (hK _ _ (hold 0 (by kernel_rfl)) hwd fun _ _ h => h)
        · exact fun a w hs hwd hold hdep K' hK => op_move rfl (hK _ _ (hold 7 (by kernel_rfl)) hwd fun _ _ h => h)
        · intro a w hs hwd hold hdep K' hK
          have h1 := ev_at (t := 51) (v := .slice A na ca) (hdep 5 (by kernel_rfl)) (by rw [hs]; omega)
          have h2 := ev_at (t := 52) (v := .int .i64 (k : Int)) (hdep 6 (by kernel_rfl)) (by rw [hs]; omega)
          have h3 : k ≤ ca := by omega
          go_simp
          exact hK _ _ rfl hwd fun _ _ h => h
        · intro a w hs hwd hold hdep K' hK
          have h1 := ev_at (t := 53) (v := .slice A k ca) (hdep 7 (by kernel_rfl)) (by rw [hs]; omega)
          go_simp
          exact hK _ _ ⟨w.heap.size, rfl, heap_alloc_new w _⟩ (hwd.alloc hwd.size _) (VP.mono (balloc w _))
        · intro a w hs hwd hold hdep K' hK
          have h1 := ev_at (t := 50) (v := .pointer (some ⟨wr.heap.size, 0, none⟩)) (hdep 4 (by kernel_rfl)) (by rw [hs]; omega)
          obtain ⟨g, h2', hg⟩ : litP (.slice A k ca) (a.eval (.tmp 54)) w := hdep 8 (by kernel_rfl)
          have h2 := ev_at h2' (by rw [hs]; omega)
          clear h2'
          go_simp
          have hc := sum_at (W := w) (g := wr.heap.size) (A := A) (xs := (a0.take k)) (n := k) (c := ca) (Ht3.out.keep (hwd.block _ Ht3.out.lt)) hg (by rw [List.length_take, Hla.out]; omega) (by omega) ham (((Ha.out.below (Hb3.out.trans (hwd.mono Hb3.out.size)))).take k)
          rw [← Hsa.out] at hc
          refine hc.mono ?_
          rintro e w' ⟨rfl, rfl⟩
          exact hK _ _ rfl hwd fun _ _ h => h
        · exact fun a w hs hwd hold hdep K' hK => op_move rfl (hK _ _ (hold 10 (by kernel_rfl)) hwd fun _ _ h => h)
        · exact fun a w hs hwd hold hdep K' hK => op_move rfl (hK _ _ (hold 1 (by kernel_rfl)) hwd fun _ _ h => h)
        · exact fun a w hs hwd hold hdep K' hK => op_move rfl (hK _ _ (hold 7 (by kernel_rfl)) hwd fun _ _ h => h)
        · intro a w hs hwd hold hdep K' hK
          have h1 := ev_at (t := 57) (v := .slice B nb cb) (hdep 11 (by kernel_rfl)) (by rw [hs]; omega)
          have h2 := ev_at (t := 58) (v := .int .i64 (k : Int)) (hdep 12 (by kernel_rfl)) (by rw [hs]; omega)
          have h3 : k ≤ cb := by omega
          go_simp
          exact hK _ _ rfl hwd fun _ _ h => h
        · intro a w hs hwd hold hdep K' hK
          have h1 := ev_at (t := 59) (v := .slice B k cb) (hdep 13 (by kernel_rfl)) (by rw [hs]; omega)
          go_simp
          exact hK _ _ ⟨w.heap.size, rfl, heap_alloc_new w _⟩ (hwd.alloc hwd.size _) (VP.mono (balloc w _))
        · intro a w hs hwd hold hdep K' hK
          have h1 := ev_at (t := 56) (v := .pointer (some ⟨wr.heap.size, 0, none⟩)) (hdep 10 (by kernel_rfl)) (by rw [hs]; omega)
          obtain ⟨g, h2', hg⟩ : litP (.slice B k cb) (a.eval (.tmp 60)) w := hdep 14 (by kernel_rfl)
          have h2 := ev_at h2' (by rw [hs]; omega)
          clear h2'
          go_simp
          have hc := sum_at (W := w) (g := wr.heap.size) (A := B) (xs := (b0.take k)) (n := k) (c := cb) (Ht3.out.keep (hwd.block _ Ht3.out.lt)) hg (by rw [List.length_take, Hlb.out]; omega) (by omega) hbm (((Hb.out.below (Hb3.out.trans (hwd.mono Hb3.out.size)))).take k)
          rw [← Hsb.out] at hc
          refine hc.mono ?_
          rintro e w' ⟨rfl, rfl⟩
          exact hK _ _ rfl hwd fun _ _ h => h
        · intro a w hs hwd hold hdep K' hK
          have h1 := ev_at (t := 55) (v := .int .u32 ((sa).toNat : Int)) (hdep 9 (by kernel_rfl)) (by rw [hs]; omega)
          have h2 := ev_at (t := 61) (v := .int .u32 ((sb).toNat : Int)) (hdep 15 (by kernel_rfl)) (by rw [hs]; omega)
          go_simp
          exact hK _ _ rfl hwd fun _ _ h => h
        · exact fun a w hs hwd hold hdep K' hK => op_move rfl (hK _ _ (hold 10 (by kernel_rfl)) hwd fun _ _ h => h)
        · exact fun a w hs hwd hold hdep K' hK => op_move rfl (hK _ _ (hold 2 (by kernel_rfl)) hwd fun _ _ h => h)
        · exact fun a w hs hwd hold hdep K' hK => op_move rfl (hK _ _ (hold 7 (by kernel_rfl)) hwd fun _ _ h => h)
        · intro a w hs hwd hold hdep K' hK
          have h1 := ev_at (t := 64) (v := .slice C nc cc) (hdep 18 (by kernel_rfl)) (by rw [hs]; omega)
          have h2 := ev_at (t := 65) (v := .int .i64 (k : Int)) (hdep 19 (by kernel_rfl)) (by rw [hs]; omega)
          have h3 : k ≤ cc := by omega
          go_simp
          exact hK _ _ rfl hwd fun _ _ h => h
        · intro a w hs hwd hold hdep K' hK
          have h1 := ev_at (t := 66) (v := .slice C k cc) (hdep 20 (by kernel_rfl)) (by rw [hs]; omega)
          go_simp
          exact hK _ _ ⟨w.heap.size, rfl, heap_alloc_new w _⟩ (hwd.alloc hwd.size _) (VP.mono (balloc w _))
        · intro a w hs hwd hold hdep K' hK
          have h1 := ev_at (t := 63) (v := .pointer (some ⟨wr.heap.size, 0, none⟩)) (hdep 17 (by kernel_rfl)) (by rw [hs]; omega)
          obtain ⟨g, h2', hg⟩ : litP (.slice C k cc) (a.eval (.tmp 67)) w := hdep 21 (by kernel_rfl)
          have h2 := ev_at h2' (by rw [hs]; omega)
          clear h2'
          go_simp
          have hc := sum_at (W := w) (g := wr.heap.size) (A := C) (xs := (c0.take k)) (n := k) (c := cc) (Ht3.out.keep (hwd.block _ Ht3.out.lt)) hg (by rw [List.length_take, Hlc.out]; omega) (by omega) hcm (((Hc.out.below (Hb3.out.trans (hwd.mono Hb3.out.size)))).take k)
          rw [← Hsc.out] at hc
          refine hc.mono ?_
          rintro e w' ⟨rfl, rfl⟩
          exact hK _ _ rfl hwd fun _ _ h => h
        · intro a w hs hwd hold hdep K' hK
          have h1 := ev_at (t := 62) (v := .int .u32 (sab.toNat : Int)) (hdep 16 (by kernel_rfl)) (by rw [hs]; omega)
          have h2 := ev_at (t := 68) (v := .int .u32 ((sc).toNat : Int)) (hdep 22 (by kernel_rfl)) (by rw [hs]; omega)
          go_simp
          exact hK _ _ rfl hwd fun _ _ h => h
        · intro a w hs hwd hold hdep K' hK
          have h1 := ev_at (t := 49) (v := .int .u32 ((sx).toNat : Int)) (hdep 3 (by kernel_rfl)) (by rw [hs]; omega)
          have h2 := ev_at (t := 69) (v := .int .u32 ((sx).toNat : Int)) (hdep 23 (by kernel_rfl)) (by rw [hs]; omega)
          go_simp
          exact hK _ _ rfl hwd fun _ _ h => h
        · exact fun a w hs hwd hold hdep K' hK => op_assign rfl (hK _ _ (hdep 24 (by kernel_rfl)) hwd fun _ _ h => h)
      · intro a w hs hd hwd hold hnew
        have h1 := ev_at (t := 6) (v := .bool true) (hnew 25 (by decide)) (by rw [hs]; omega)
        go_wp2_with fail
        refine bodyPost_ret (v := .bool true) ?_ hd (hR.out _ _ ⟨rfl, Hb3.out.trans (hwd.mono Hb3.out.size)⟩)
        simp [results, Try.results10, go_sem, h1, hs]
end Go.Proofs.Ytoiojkjmldlhcaa
