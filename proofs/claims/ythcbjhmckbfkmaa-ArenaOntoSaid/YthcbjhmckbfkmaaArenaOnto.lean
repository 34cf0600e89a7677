/- ArenaOnto, walked. -/
import Derived.Test.YthcbjhmckbfkmaaArenaOwn
import Derived.Test.YthcbjhmckbfkmaaBlockTwice
import Derived.Deep.Cut
import Derived.Deep.CutRange
set_option linter.unusedVariables false
set_option linter.unusedSimpArgs false
namespace Go.Proofs.Ythcbjhmckbfkmaa
open Go.RowKit

theorem run_min3h (P : Program) (w : World) (ts : Array TypeId) (t : TypeId) (a b : Nat) : (Builtin.min_ ts t #[.int .i64 (a : Int), .int .i64 (b : Int), .int .i64 100]).run P w = .ok (.int .i64 ((min (min a b) 100 : Nat) : Int)) w := by
  have e : ((min (min a b) 100 : Nat) : Int) = if (100 : Int) < (if (b : Int) < (a : Int) then (b : Int) else a) then 100 else (if (b : Int) < (a : Int) then (b : Int) else a) := by
    repeat' split
    all_goals omega
  rw [e]
  simp [Builtin.min_, Builtin.min2]
theorem xor_back (a b : List UInt8) (h : b.length = a.length) : xorL (xorL a b) b = a := by
  refine ext_getD _ _ (by rw [xorL_len _ _ (by rw [xorL_len a b h, h]), xorL_len a b h]) fun i => ?_
  rw [x_get _ _ (by rw [xorL_len a b h, h]), x_get a b h, UInt8.xor_assoc, UInt8.xor_self, UInt8.xor_zero]
theorem bel_next {w y z : World} (h : Below w.heap.size w y) (h' : Below y.heap.size y z) : Below w.heap.size w z := h.trans (h'.mono h.size)
section
variable {w0 w : World} {S : Nat → Prop} {g n room : Nat} {bl : List (List UInt8)} {us : List Bool} {fr : List Nat} {live peak : Nat}
theorem alh_alloc {o : Obj} (h : Hid (AL w0 w S g n room bl us fr live peak)) : Hid (AL w0 (w.alloc o) S g n room bl us fr live peak) := hide (h.out.below (balloc _ _))
theorem alh_drew (h : Hid (AL w0 w S g n room bl us fr live peak)) : Hid (AL w0 w.drew S g n room bl us fr live peak) := hide (h.out.below (Below.refl _ _).drew)
end
set_option maxRecDepth 100000 in
set_option maxHeartbeats 2000000 in
theorem ArenaOnto_calls (A : Option Addr) (xs : List UInt8) (c1 : Nat) (B : Option Addr) (ys : List UInt8) (c2 : Nat) (w : World) (ham : c1 ≤ maxLen) (hal : xs.length ≤ c1) (har : RdL Kd.byte (· < w.heap.size) w A xs) (hbm : c2 ≤ maxLen) (hbl : ys.length ≤ c2) (hbr : RdL Kd.byte (· < w.heap.size) w B ys) :
    Calls Try.prog 10 #[.slice A xs.length c1, .slice B ys.length c2] w fun e w' => e = .returned (.bool true) ∧ Below w.heap.size w w' := by
  refine cps fun R hR => ?_
  have ham' := ham
  have hbm' := hbm
  unfold maxLen at ham' hbm'
  obtain ⟨n, hn⟩ : ∃ n, n = min (min xs.length ys.length) 100 := ⟨_, rfl⟩
  have hmn := fun w ts t => run_min3h Try.prog w ts t xs.length ys.length
  rw [← hn] at hmn
  have hn1 : n ≤ xs.length := by omega
  have hn2 : n ≤ ys.length := by omega
  have hn100 : n ≤ 100 := by omega
  have Har := hide (har.take n)
  have Hbr := hide (hbr.take n)
  obtain ⟨a, ha⟩ : ∃ a, a = xs.take n := ⟨_, rfl⟩
  obtain ⟨b, hb⟩ : ∃ b, b = ys.take n := ⟨_, rfl⟩
  rw [← ha] at Har
  rw [← hb] at Hbr
  have la := hide (show a.length = n by rw [ha, List.length_take]; omega)
  have lb := hide (show b.length = n by rw [hb, List.length_take]; omega)
  have hc1 : n ≤ c1 := by omega
  have hc2 : n ≤ c2 := by omega
  clear har hbr ha hb hn
  generalize xs.length = mx at *
  generalize ys.length = my at *
  go_enter Try.func10, Try.ntmps10
  go_wp2_with fail
  refine (aspeaks w).mono ?_
  rintro e w1 ⟨rfl, hb1⟩
  have hz1 := hb1.size
  have Hb1 := hide hb1
  clear hb1
  go_wp2_with fail
  refine (al_new (n : Int) 2 w1).mono ?_
  rintro e w2 ⟨rfl, S2, h2⟩
  rw [Int.toNat_natCast, show (2 : Int).toNat = 2 from rfl] at h2
  clear hmn
  go_wp2_with fail
  have hA : Calls Try.prog 23 #[.pointer (some ⟨w1.heap.size, 0, none⟩)] w2 fun e w' => e = .returned (.tuple #[.int .i64 0, .bool true]) ∧ ∃ S', AL w1 w' S' w1.heap.size n 2 [zs n] [true] [] 1 1 ∧ Step S2 S' w2 w' :=
    al_fresh h2 rfl (by decide) (by omega) (by decide) (by decide) (by decide)
  refine hA.mono ?_
  clear hA h2
  rintro e w3 ⟨rfl, S3, h3, -⟩
  go_wp2_with fail
  have hA : Calls Try.prog 23 #[.pointer (some ⟨w1.heap.size, 0, none⟩)] w3 fun e w' => e = .returned (.tuple #[.int .i64 1, .bool true]) ∧ ∃ S', AL w1 w' S' w1.heap.size n 2 [zs n, zs n] [true, true] [] 2 2 ∧ Step S3 S' w3 w' :=
    al_fresh h3 rfl (by simp) (by omega) (by simp) (by decide) (by decide)
  refine hA.mono ?_
  clear hA h3
  rintro e w4 ⟨rfl, S, h4, -⟩
  have up := hide (fun (y : World) (hy : Below w1.heap.size w1 y) => Hb1.out.trans (hy.mono Hb1.out.size))
  have hP := hide (put_lit (n := n) h4 0 rfl (by omega) (xs := a) (c := c1) (by rw [la.out]; exact hc1) ham (Har.out.below (up.out _ h4.bel)) (fun k hk => ⟨Nat.lt_of_lt_of_le hk (up.out _ h4.bel).size, fun hs => by have := h4.ge k hs; omega⟩) la.out)
  rw [show got [zs n, zs n] [true, true] ((0 : Nat) : Int) = zs n from rfl, zero_xor' a n la.out, show [zs n, zs n].set 0 a = [a, zs n] from rfl] at hP
  clear h4
  go_wp2_with fail
  refine hP.out.mono ?_
  rintro e w5 ⟨rfl, h5, -⟩
  clear hP
  have hP := hide (put_lit (n := n) h5 1 rfl (by omega) (xs := b) (c := c2) (by rw [lb.out]; exact hc2) hbm (Hbr.out.below (up.out _ h5.bel)) (fun k hk => ⟨Nat.lt_of_lt_of_le hk (up.out _ h5.bel).size, fun hs => by have := h5.ge k hs; omega⟩) lb.out)
  rw [show got [a, zs n] [true, true] ((1 : Nat) : Int) = zs n from rfl, zero_xor' b n lb.out, show [a, zs n].set 1 b = [a, b] from rfl] at hP
  clear h5
  go_wp2_with fail
  refine hP.out.mono ?_
  rintro e w6 ⟨rfl, h6, -⟩
  clear hP
  obtain ⟨x, hx⟩ : ∃ x, x = xorL a b := ⟨_, rfl⟩
  have lx := hide (show x.length = n by rw [hx, xorL_len a b (by rw [la.out, lb.out]), la.out])
  have hxb := hide (show xorL x b = a by rw [hx]; exact xor_back a b (by rw [la.out, lb.out]))
  have Hx := hide hx
  have hO1 := hide (fun (y : World) (h : AL w1 y S w1.heap.size n 2 [a, b] [true, true] [] 2 2) => (show Calls Try.prog 33 #[.pointer (some ⟨w1.heap.size, 0, none⟩), .int .i64 0, .int .i64 1] y fun e w' => e = .returned (.bool true) ∧ AL w1 w' S w1.heap.size n 2 [x, b] [true, true] [] 2 2 from
    (al_onto 0 1 h (by omega)).mono fun e w' ⟨h1, h2, _⟩ => ⟨h1, by rw [Hx.out]; exact h2⟩))
  have hO2 := hide (fun (y : World) (h : AL w1 y S w1.heap.size n 2 [x, b] [true, true] [] 2 2) => (show Calls Try.prog 33 #[.pointer (some ⟨w1.heap.size, 0, none⟩), .int .i64 0, .int .i64 1] y fun e w' => e = .returned (.bool true) ∧ AL w1 w' S w1.heap.size n 2 [a, b] [true, true] [] 2 2 from
    (al_onto 0 1 h (by omega)).mono fun e w' ⟨h1, h2, _⟩ => ⟨h1, by have h2' : AL w1 w' S w1.heap.size n 2 [xorL x b, b] [true, true] [] 2 2 := h2; rwa [hxb.out] at h2'⟩))
  have hG := hide (fun (y : World) (u v : List UInt8) (lu : u.length = n) (h : AL w1 y S w1.heap.size n 2 [u, v] [true, true] [] 2 2) => (show Calls Try.prog 24 #[.pointer (some ⟨w1.heap.size, 0, none⟩), .int .i64 0] y fun e w' => ∃ A c, e = .returned (.slice A n c) ∧ Kd.ow.R (fun k => y.heap.size ≤ k ∧ k < w'.heap.size) w' u [.slice A n c] ∧ Below y.heap.size y w' from by
    have := as_get 0 h.ar (by omega)
    rw [show got [u, v] [true, true] 0 = u from rfl, lu] at this
    exact this))
  have hG1 := hide (fun (y : World) (u v : List UInt8) (lv : v.length = n) (h : AL w1 y S w1.heap.size n 2 [u, v] [true, true] [] 2 2) => (show Calls Try.prog 24 #[.pointer (some ⟨w1.heap.size, 0, none⟩), .int .i64 1] y fun e w' => ∃ A c, e = .returned (.slice A n c) ∧ Kd.ow.R (fun k => y.heap.size ≤ k ∧ k < w'.heap.size) w' v [.slice A n c] ∧ Below y.heap.size y w' from by
    have := as_get 1 h.ar (by omega)
    rw [show got [u, v] [true, true] 1 = v from rfl, lv] at this
    exact this))
  have hstr := hide (fun (y : World) (T : Nat → Prop) (A' : Option Addr) (c' : Nat) (u : List UInt8) (lu : u.length = n) (h : Kd.ow.R T y u [.slice A' n c']) => (show (convert 22 9 (.slice A' n c')).run Try.prog y = .ok (.string (bstr u)) y from by
    have := run_str (P := Try.prog) (w := y) Try.underlying22 Try.underlying5 Try.underlying9 ((Kd.ow_rd h).2.srcB) c'
    rwa [lu] at this))
  have hsum := hide (fun (z y : World) (hz : Below w1.heap.size w1 z) (hy : Below (z.alloc (.cells #[.slice A n c1, .slice B n c2] 22)).heap.size (z.alloc (.cells #[.slice A n c1, .slice B n c2] 22)) y) => (show Calls Try.prog 16 #[.int .i64 (n : Int), .slice (some ⟨z.heap.size, 0, none⟩) 2 2] y fun e w' => ∃ A c, e = .returned (.slice A n c) ∧ Kd.ow.R (fun k => y.heap.size ≤ k ∧ k < w'.heap.size) w' x [.slice A n c] ∧ Below y.heap.size y w' from by
    obtain ⟨W', e, hr, hb, hs, -⟩ := lit_rows (Below.refl z.heap.size z) (Nat.le_refl _) (xss := [a, b]) (vs := [.slice A n c1, .slice B n c2]) ⟨_, _, rfl, ⟨A, c1, by rw [la.out], by rw [la.out]; exact hc1, ham, (Har.out.below (up.out _ hz)).mono fun k hk => Nat.lt_of_lt_of_le hk (up.out _ hz).size⟩, _, _, rfl, ⟨B, c2, by rw [lb.out], by rw [lb.out]; exact hc2, hbm, (Hbr.out.below (up.out _ hz)).mono fun k hk => Nat.lt_of_lt_of_le hk (up.out _ hz).size⟩, rfl⟩ (o := .cells #[.slice A n c1, .slice B n c2] 22) rfl
    rw [← e] at hy
    refine (refsum_calls n _ [a, b] 2 _ y (by omega) (by unfold maxLen; omega) (by simp) (fun q hq => by simp at hq; rcases hq with rfl | rfl; exact la.out; exact lb.out) (hr.below hy) (fun k hk => Nat.lt_of_lt_of_le hk hy.size)).mono ?_
    rintro e' w' ⟨rfl, hw, hlt, hb'⟩
    have ex : sumL (zs n) [a, b] = x := by show xorL (xorL (zs n) a) b = x; rw [zero_xor' a n la.out, Hx.out]
    rw [ex] at hw
    refine ⟨_, _, rfl, ⟨_, _, by rw [lx.out], by rw [lx.out]; exact Nat.le_refl _, by unfold maxLen; omega, fun hp => ⟨_, [], _, rfl, ⟨Nat.le_refl _, hlt⟩, by simpa using (hw hp).2⟩⟩, hb'⟩))
  have H6 := hide h6
  have hb6 := hide (up.out _ h6.bel)
  clear h6 hx
  have hsum' := hide (fun (z y : World) (h : Below w1.heap.size w1 z ∧ Below (z.alloc (.cells #[.slice A n c1, .slice B n c2] 22)).heap.size (z.alloc (.cells #[.slice A n c1, .slice B n c2] 22)) y) => hsum.out z y h.1 h.2)
  clear hsum
  generalize hst : bstr x = str at *
  have Hst := hide hst
  clear hst
  go_upto_region 9 with fail
  go_cut [89] from 61 to 89 (fun s wx => s = .bool false ∧ AL w1 wx S w1.heap.size n 2 [a, b] [true, true] [] 2 2)
  case first =>
    go_region_held (fun _ => True) (trivial) (first
      | (go_at_call 33
         refine (hO2.out _ (Hid.out ?_)).mono ?_
         · with_reducible exact H10
         rintro e w11 ⟨rfl, h11⟩
         have H11 := hide h11
         clear h11)
      | (go_at_call 33
         refine (hO1.out _ (Hid.out ?_)).mono ?_
         · with_reducible exact alh_drew H6
         rintro e w7 ⟨rfl, h7⟩
         have H7 := hide h7
         clear h7)
      | (go_at_call 24
         refine (hG.out _ x b lx.out (Hid.out ?_)).mono ?_
         · with_reducible first | exact H7 | exact alh_alloc H7
         rintro e w9 ⟨A9, c9, rfl, k9, hb9⟩
         have H9 : Hid (AL w1 w9 S w1.heap.size n 2 [x, b] [true, true] [] 2 2) := hide (AL.below (Hid.out (by with_reducible first | exact H7 | exact alh_alloc H7)) hb9)
         have t9 := hstr.out w9 _ A9 c9 x lx.out k9
         have t9a := fun o => hstr.out (w9.alloc o) _ A9 c9 x lx.out (Kd.ow.keep (fun k hk => (balloc w9 o).block k hk.2) k9)
         rw [Hst.out] at t9
         simp only [Hst.out] at t9a
         have K9 := hide k9
         have Hb9 := hide hb9
         clear k9 hb9)
      | (go_at_call 16
         refine (hsum'.out _ _ (Hid.out ?_)).mono ?_
         · with_reducible first | exact hide ⟨H9.out.bel, Below.refl _ _⟩ | exact hide ⟨H7.out.bel, Hb9.out⟩
         rintro e w10 ⟨A10, c10, rfl, k10, hb10⟩
         have H10 : Hid (AL w1 w10 S w1.heap.size n 2 [x, b] [true, true] [] 2 2) := hide (AL.below (Hid.out (by with_reducible first | exact H9 | exact alh_alloc H9)) hb10)
         have hb910 : Below w9.heap.size w9 w10 := bel_next (Hid.out (by repeat (first | assumption | exact hide (Below.refl _ _) | refine held_alloc ?_ | refine held_drew ?_))) hb10
         have t10 := hstr.out w10 _ A10 c10 x lx.out k10
         have t109 := hstr.out w10 _ A9 c9 x lx.out (Kd.ow.keep (fun k hk => hb910.block k hk.2) K9.out)
         rw [Hst.out] at t10 t109
         clear k10 hb10 hb910))
    all_goals (go_wp2_with fail; go_meet)
    all_goals exact ⟨rfl, H11.out⟩
  case rest =>
  obtain ⟨rfl, h⟩ := hcut
  have H := hide h
  have hbe := hide (up.out _ h.bel)
  have hno : Hid (∀ (y : World) (k : Int), Hid (AL w1 y S w1.heap.size n 2 [a, b] [true, true] [] 2 2) → (k = 0 ∨ k = 2) → Calls Try.prog 33 #[.pointer (some ⟨w1.heap.size, 0, none⟩), .int .i64 0, .int .i64 k] y fun e w' => e = .returned (.bool false) ∧ y = w') := hide (fun y k hy hk => as_onto_no 0 k hy.out.ar (by
    rcases hk with rfl | rfl
    · exact .inl rfl
    · exact .inr rfl))
  have hcs : Hid (∀ y : World, Hid (AL w1 y S w1.heap.size n 2 [a, b] [true, true] [] 2 2) → Hid (AL w1 y S w1.heap.size n 2 [a, b] [true, true] [] 2 2) ∧ (convert 22 9 (.slice A n c1)).run Try.prog y = .ok (.string (bstr a)) y ∧ (convert 22 9 (.slice B n c2)).run Try.prog y = .ok (.string (bstr b)) y) := hide fun y hy => by
    have e1 := run_str (P := Try.prog) (w := y) Try.underlying22 Try.underlying5 Try.underlying9 ((Har.out.below (up.out _ hy.out.bel)).srcB) c1
    have e2 := run_str (P := Try.prog) (w := y) Try.underlying22 Try.underlying5 Try.underlying9 ((Hbr.out.below (up.out _ hy.out.bel)).srcB) c2
    rw [la.out] at e1
    rw [lb.out] at e2
    exact ⟨hy, e1, e2⟩
  clear h hO1 hO2 hsum' H6 hb6 Hst hxb Hx
  generalize hsa : bstr a = sa at *
  generalize hsb : bstr b = sb at *
  have Hsa := hide hsa
  have Hsb := hide hsb
  clear hsa hsb
  go_upto_region 11 with fail
  go_region_held (fun y => Hid (AL w1 y S w1.heap.size n 2 [a, b] [true, true] [] 2 2) ∧ (convert 22 9 (.slice A n c1)).run Try.prog y = .ok (.string sa) y ∧ (convert 22 9 (.slice B n c2)).run Try.prog y = .ok (.string sb) y)
    ((refine hcs.out _ ?_; with_reducible first | assumption | exact alh_drew H)) (first
    | (go_at_call 24
       (with_reducible refine (hG.out _ a b la.out (Hid.out ?_)).mono ?_)
       · with_reducible exact alh_drew H
       rintro e w9 ⟨A9, c9, rfl, k9, hb9⟩
       have H9 : Hid (AL w1 w9 S w1.heap.size n 2 [a, b] [true, true] [] 2 2) := hide (AL.below (Hid.out (by with_reducible exact alh_drew H)) hb9)
       have t9 := hstr.out w9 _ A9 c9 a la.out k9
       rw [Hsa.out] at t9
       clear k9 hb9)
    | (go_at_call 24
       (with_reducible refine (hG1.out _ a b lb.out (Hid.out ?_)).mono ?_)
       · with_reducible exact H9
       rintro e w10 ⟨A10, c10, rfl, k10, hb10⟩
       have H10 : Hid (AL w1 w10 S w1.heap.size n 2 [a, b] [true, true] [] 2 2) := hide (AL.below H9.out hb10)
       have t10 := hstr.out w10 _ A10 c10 b lb.out k10
       rw [Hsb.out] at t10
       clear k10 hb10)
    | (go_at_call 33
       refine (hno.out w10 _ H10 (by first | exact .inl rfl | exact .inr rfl)).mono ?_
       rintro e w11 ⟨rfl, rfl⟩))
  go_wp2_with fail
  exact hR.out _ _ ⟨rfl, up.out _ H10.out.bel⟩
end Go.Proofs.Ythcbjhmckbfkmaa
