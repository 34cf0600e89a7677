/- The laws of layer 1, walked: what they share. -/
import Derived.Test.YtoiojkjmldlhcaaCrc
import Derived.Lib.SlBytesConst
set_option linter.unusedVariables false
set_option linter.unusedSimpArgs false
namespace Go.Proofs.Ytoiojkjmldlhcaa
open Go.RowKit

theorem lit_rd (w : World) (xs : List UInt8) {o : Obj} {fr : Nat × Nat} (ho : o = .cells (xs.map encB).toArray 5 fr) : RdL Kd.byte (· = w.heap.size) (w.alloc o) (some ⟨w.heap.size, 0, none⟩) xs := by
  subst ho
  refine RdL.block1 rfl (heap_alloc_new w _) rfl (fun i x hx => ⟨encB x, ?_, _, rfl, rfl⟩)
  rw [List.getElem?_toArray, List.getElem?_map, hx]; rfl
theorem chk_1 : crcS [49, 50, 51, 52, 53, 54, 55, 56, 57] = 4236843288 := by decide +kernel
theorem chk_2 : crcS [] = 0 := by decide +kernel
theorem chk_3 : rightB (sealL [97, 98, 99]) = true := by decide +kernel
theorem chk_4 : rightB [97, 98, 99] = false := by decide +kernel

theorem lit_two {S1 S2 : Nat → Prop} {w : World} {A1 A2 : Option Addr} {xs ys : List UInt8} {c1 c2 : Nat} (h1 : xs.length ≤ c1) (m1 : c1 ≤ maxLen) (r1 : RdL Kd.byte S1 w A1 xs) (h2 : ys.length ≤ c2) (m2 : c2 ≤ maxLen) (r2 : RdL Kd.byte S2 w A2 ys) (hS1 : ∀ k, S1 k → k < w.heap.size) (hS2 : ∀ k, S2 k → k < w.heap.size)
    {o : Obj} {e : TypeId} (ho : o = .cells #[.slice A1 xs.length c1, .slice A2 ys.length c2] e) : RdL (Kd.sl Kd.byte) (fun k => S1 k ∨ S2 k ∨ k = w.heap.size) (w.alloc o) (some ⟨w.heap.size, 0, none⟩) [xs, ys] := by
  subst ho
  refine RdL.block1 rfl (heap_alloc_new w _) (.inr (.inr rfl)) (fun i x hx => ?_)
  match i, hx with
  | 0, hx => simp at hx; subst hx; exact ⟨_, rfl, A1, c1, rfl, h1, m1, (r1.keep fun k hk => (balloc w _).block k (hS1 k hk)).mono fun k hk => .inl hk⟩
  | 1, hx => simp at hx; subst hx; exact ⟨_, rfl, A2, c2, rfl, h2, m2, (r2.keep fun k hk => (balloc w _).block k (hS2 k hk)).mono fun k hk => .inr (.inl hk)⟩
  | n + 2, hx => simp at hx
theorem sum_two (w1 : World) (g : Nat) (ht : TabAt w1 g 256) {o1 o2 o3 : Obj} (h1 : o1 = .cells #[.int .u8 49, .int .u8 50, .int .u8 51, .int .u8 52, .int .u8 53] 5 (5, 6)) (h2 : o2 = .cells #[.int .u8 54, .int .u8 55, .int .u8 56, .int .u8 57] 5 (4, 5))
    (h3 : o3 = .cells #[.slice (some ⟨w1.heap.size, 0, none⟩) 5 5, .slice (some ⟨w1.heap.size + 1, 0, none⟩) 4 4] 24) :
    Calls Try.prog 29 #[.pointer (some ⟨g, 0, none⟩), .slice (some ⟨w1.heap.size + 1 + 1, 0, none⟩) 2 2] (((w1.alloc o1).alloc o2).alloc o3) fun e w' => e = .returned (.int .u32 4236843288) ∧ TabAt w' g 256 ∧ Below w1.heap.size w1 w' := by
  have b1 := balloc w1 o1
  have b2 := balloc (w1.alloc o1) o2
  have b3 := balloc ((w1.alloc o1).alloc o2) o3
  have s1 : (w1.alloc o1).heap.size = w1.heap.size + 1 := by simp
  have s2 : ((w1.alloc o1).alloc o2).heap.size = w1.heap.size + 1 + 1 := by simp
  have b12 := b1.trans (b2.mono b1.size)
  have b123 := b12.trans (b3.mono b12.size)
  have r1 := (lit_rd w1 [49, 50, 51, 52, 53] (o := o1) (fr := (5, 6)) (by rw [h1]; rfl)).keep (w' := (w1.alloc o1).alloc o2) (fun k hk => b2.block k (by rw [hk]; omega))
  have r2 := lit_rd (w1.alloc o1) [54, 55, 56, 57] (o := o2) (fr := (4, 5)) (by rw [h2]; rfl)
  have h := sum_calls g _ [[49, 50, 51, 52, 53], [54, 55, 56, 57]] 2 _ (((w1.alloc o1).alloc o2).alloc o3) (ht.keep (b123.block g ht.lt)) (by simp [maxLen]) (by simp)
    (lit_two (c1 := 5) (c2 := 4) (by simp) (by simp [maxLen]) r1 (by simp) (by simp [maxLen]) r2 (fun k hk => by rw [hk]; omega) (fun k hk => by rw [hk]; omega) (o := o3) (e := 24) (by rw [h3, s1]; rfl))
  rw [s2] at h
  refine h.mono ?_
  rintro e w' ⟨rfl, rfl⟩
  refine ⟨?_, ht.keep (b123.block g ht.lt), b123⟩
  show Ending.returned (Value.int .u32 ((crcS [49, 50, 51, 52, 53, 54, 55, 56, 57]).toNat : Int)) = _
  rw [chk_1]; rfl
theorem seal_lit (w3 : World) (g : Nat) (ht : TabAt w3 g 256) {o : Obj} (h : o = .cells #[.int .u8 97, .int .u8 98, .int .u8 99] 5 (3, 4)) :
    Calls Try.prog 28 #[.pointer (some ⟨g, 0, none⟩), .slice (some ⟨w3.heap.size, 0, none⟩) 3 3] (w3.alloc o) fun e w' => ∃ v', e = .returned v' ∧ Fresh (w3.alloc o) w' v' (sealL [97, 98, 99]) ∧ TabAt w' g 256 ∧ Below w3.heap.size w3 w' := by
  have b := balloc w3 o
  refine (seal_calls g _ [97, 98, 99] 3 _ (w3.alloc o) (ht.keep (b.block g ht.lt)) (by simp [maxLen]) (by simp) (by simp) (lit_rd w3 [97, 98, 99] (fr := (3, 4)) (by rw [h]; rfl)) (fun k hk => by rw [hk]; simp)).mono ?_
  rintro e w' ⟨v, rfl, hf⟩
  have b2 := b.trans (hf.2.1.mono b.size)
  exact ⟨v, rfl, hf, ht.keep (b2.block g ht.lt), b2⟩
theorem right_lit (w3 : World) (g : Nat) (ht : TabAt w3 g 256) {o : Obj} (h : o = .cells #[.int .u8 97, .int .u8 98, .int .u8 99] 5 (3, 4)) :
    Calls Try.prog 32 #[.pointer (some ⟨g, 0, none⟩), .slice (some ⟨w3.heap.size, 0, none⟩) 3 3] (w3.alloc o) fun e w' => e = .returned (.bool false) ∧ Below w3.heap.size w3 w' := by
  have b := balloc w3 o
  refine (right_calls g _ [97, 98, 99] 3 _ (w3.alloc o) (ht.keep (b.block g ht.lt)) (by simp [maxLen]) (by simp) (by simp) (lit_rd w3 [97, 98, 99] (fr := (3, 4)) (by rw [h]; rfl)) (fun k hk => by rw [hk]; simp)).mono ?_
  rintro e w' ⟨rfl, hf⟩
  rw [chk_4]
  exact ⟨rfl, b.trans (hf.mono b.size)⟩
theorem right_fresh {w w5 : World} {g : Nat} {A : Option Addr} {xs : List UInt8} {n c : Nat} (ht : TabAt w5 g 256) (hf : Fresh w w5 (.slice A n c) xs) (hn : xs.length = n) (hc : n ≤ c) (hm : c ≤ maxLen) (hl : n ≤ 100000) :
    Calls Try.prog 32 #[.pointer (some ⟨g, 0, none⟩), .slice A n c] w5 fun e w' => e = .returned (.bool (rightB xs)) ∧ Below w5.heap.size w5 w' := by
  subst hn
  exact right_calls g A xs c _ w5 ht hm hc hl (hf.1.rd (d := Kd.byte) rfl (fun k => (Value.slice A xs.length c).ownBlock = some k) (fun b hb => hb) fun x => ⟨_, rfl, rfl⟩) (fun k hk => hf.1.lt hk)

set_option maxRecDepth 100000 in
theorem crcspeaks_calls (w : World) : Calls Try.prog 26 #[] w fun e w' => e = .returned (.bool true) ∧ Below w.heap.size w w' := by
  refine cps fun R hR => ?_
  have kc := fun (w : World) (C : Array Value) (n c : Nat) => Lib.run_convert_bytes_const (P := Try.prog) w 24 5 C n c Try.underlying24 Try.underlying5
  go_enter Try.func26, Try.ntmps26
  go_wp2_with fail
  refine (new_calls w).mono ?_
  rintro e w1 ⟨rfl, ht, hb1, hlt⟩
  have Ht := hide ht
  clear ht
  have kc2 : ∀ (W : World) (o : Obj) (C : Array Value) (n c : Nat), (convert 24 24 (.slice (some ⟨W.heap.size + 1, 0, none⟩) n c)).run Try.prog ((W.alloc o).alloc (.cells C 5)) = .ok (.slice (some ⟨W.heap.size + 1, 0, none⟩) n c) ((W.alloc o).alloc (.cells C 5 (C.size, C.size + 1))) := fun W o C n c => by
    have := Lib.run_convert_bytes_const (P := Try.prog) (W.alloc o) 24 5 C n c Try.underlying24 Try.underlying5
    simpa only [World.size_alloc] using this
  go_wp2_with fail
  refine (sum_two w1 w.heap.size Ht.out rfl rfl rfl).mono ?_
  rintro e w3 ⟨rfl, ht3, hb3⟩
  have hb13 := hb1.trans (hb3.mono hb1.size)
  have Ht3 := hide ht3
  have h0 := hide (sum_calls w.heap.size none [] 0 (fun _ => False) w3 ht3 (by simp) (by simp) RdL.nil)
  rw [show crcS ([] : List (List UInt8)).flatten = 0 from chk_2] at h0
  have hs3 := hb13.size
  clear ht3 hb3 hb1 Ht hlt kc2
  generalize hg : w.heap.size = g at *
  have Hg := hide hg
  clear hg
  go_wp2_with fail
  refine h0.out.mono ?_
  rintro e w4 ⟨rfl, rfl⟩
  go_wp2_with fail
  refine (seal_lit w3 g Ht3.out rfl).mono ?_
  rintro e w5 ⟨v5, rfl, hf5, ht5, hb5⟩
  have hb15 := hb13.trans (hb5.mono hs3)
  have hs5 := Nat.le_trans hs3 hb5.size
  have Ht5 := hide ht5
  obtain ⟨A5, c5, rfl, hc5, hm5⟩ := hf5.shape
  have hlen : (sealL [97, 98, 99]).length = 7 := by decide
  rw [hlen] at hc5 hf5 ⊢
  have hr := hide (right_fresh ht5 hf5 hlen hc5 hm5 (by omega))
  rw [chk_3] at hr
  clear hf5 ht5 hb5 hlen
  go_wp2_with fail
  refine hr.out.mono ?_
  rintro e w6 ⟨rfl, hb6⟩
  have hb16 := hide (hb15.trans (hb6.mono hs5))
  have hs6 := Nat.le_trans hs5 hb6.size
  have Ht6 := hide (Ht5.out.keep (hb6.block g Ht5.out.lt))
  clear hb6 hr hb15 hb13
  go_wp2_with fail
  refine (right_lit w6 g Ht6.out rfl).mono ?_
  rintro e w7 ⟨rfl, hb7⟩
  go_wp2_with fail
  exact hR.out _ _ ⟨rfl, hb16.out.trans (hb7.mono hs6)⟩


theorem sum_one {w : World} {g : Nat} {A : Option Addr} {xs : List UInt8} {n c : Nat} {S : Nat → Prop} (ht : TabAt w g 256) (hn : xs.length = n) (hc : n ≤ c) (hm : c ≤ maxLen) (hr : RdL Kd.byte S w A xs) (hS : ∀ k, S k → k < w.heap.size) {o : Obj} (ho : o = .cells #[.slice A n c] 24) :
    Calls Try.prog 29 #[.pointer (some ⟨g, 0, none⟩), .slice (some ⟨w.heap.size, 0, none⟩) 1 1] (w.alloc o) fun e w' => e = .returned (.int .u32 ((crcS xs).toNat : Int)) ∧ w.alloc o = w' := by
  subst ho
  have h := sum_calls g _ [xs] 1 _ (w.alloc (.cells #[.slice A n c] 24)) (ht.keep ((balloc w _).block g ht.lt)) (by simp [maxLen]) (by simp) (lit1b hn hc hm hr hS 24)
  rw [show [xs].flatten = xs by simp] at h
  exact h
/-- Bytes with their sum behind them: what is answered reads so in every later world. -/
theorem seal_ret {w : World} {g : Nat} {A : Option Addr} {b : List UInt8} {n c : Nat} {S : Nat → Prop} (ht : TabAt w g 256) (hn : b.length = n) (hc : n ≤ c) (hm : c ≤ maxLen) (hl : n ≤ 100000) (hr : RdL Kd.byte S w A b) (hS : ∀ k, S k → k < w.heap.size) :
    Calls Try.prog 28 #[.pointer (some ⟨g, 0, none⟩), .slice A n c] w fun e w' => ∃ A' c', e = .returned (.slice A' (n + 4) c') ∧ n + 4 ≤ c' ∧ c' ≤ maxLen ∧ RdL Kd.byte (· < w'.heap.size) w' A' (sealL b) ∧ Below w.heap.size w w' ∧ TabAt w' g 256 := by
  subst hn
  refine (seal_calls g A b c S w ht hm hc hl hr hS).mono ?_
  rintro e w' ⟨v, rfl, hf⟩
  obtain ⟨A', c', rfl, h1, h2⟩ := hf.shape
  have hlen : (sealL b).length = b.length + 4 := by simp [sealL, be4]
  rw [hlen] at h1 hf ⊢
  exact ⟨A', c', rfl, h1, h2, (hf.1.rd (d := Kd.byte) rfl (fun k => (Value.slice A' (b.length + 4) c').ownBlock = some k) (fun b hb => hb) fun x => ⟨_, rfl, rfl⟩).mono fun k hk => hf.1.lt hk, hf.2.1, ht.keep (hf.2.1.block g ht.lt)⟩
theorem sealL_len (b : List UInt8) : (sealL b).length = b.length + 4 := by simp [sealL, be4]
theorem crcS_seal (b : List UInt8) : crcS (sealL b) = ~~~ sealC := by unfold crcS; rw [seal_crc]

theorem and32 (a b : UInt32) : bits .and .u32 (a.toNat : Int) (b.toNat : Int) = ((a &&& b).toNat : Int) := by
  have ha := a.toNat_lt
  have hb := b.toNat_lt
  have h := (a &&& b).toNat_lt
  show IntKind.u32.wrap ((BitVec.ofInt 32 (a.toNat : Int) &&& BitVec.ofInt 32 (b.toNat : Int)).toNat : Int) = _
  rw [ofInt_nat, ofInt_nat, BitVec.toNat_and, BitVec.toNat_ofNat, BitVec.toNat_ofNat, Nat.mod_eq_of_lt ha, Nat.mod_eq_of_lt hb, UInt32.toNat_and]
  rw [UInt32.toNat_and] at h
  simp only [IntKind.wrap, IntKind.bits, IntKind.signed]
  simp
  omega
theorem bit_raw (m : UInt32) (j : Nat) : (bits .and .u32 ((m.toNat : Int) / (2 : Int) ^ j) 1 == 1) = m.toNat.testBit j := by
  have hm := m.toNat_lt
  have e : ((m.toNat : Int) / (2 : Int) ^ j) = ((UInt32.ofNat (m.toNat / 2 ^ j)).toNat : Int) := by
    rw [UInt32.toNat_ofNat', Nat.mod_eq_of_lt (Nat.lt_of_le_of_lt (Nat.div_le_self _ _) hm)]
    simp
  rw [e]
  have h := and32 (UInt32.ofNat (m.toNat / 2 ^ j)) 1
  rw [show ((1 : UInt32).toNat : Int) = 1 from rfl] at h
  rw [h, UInt32.toNat_and, UInt32.toNat_ofNat', Nat.mod_eq_of_lt (Nat.lt_of_le_of_lt (Nat.div_le_self _ _) hm), show (1 : UInt32).toNat = 1 from rfl, Nat.and_one_is_mod, Nat.testBit_eq_decide_div_mod_eq]
  rw [Bool.eq_iff_iff, beq_iff_eq, decide_eq_true_eq]
  omega
theorem shr_128 (r : Nat) (hr : r < 8) : ((128 : Int) / (2 : Int) ^ r) = ((128 >>> UInt8.ofNat r : UInt8).toNat : Int) := by
  have h : ∀ k : Fin 8, ((128 : Int) / (2 : Int) ^ k.1) = ((128 >>> UInt8.ofNat k.1 : UInt8).toNat : Int) := by decide
  exact h ⟨r, hr⟩
theorem quo8 (k : Nat) : ((k : Int)).tdiv 8 = ((k / 8 : Nat) : Int) ∧ ((k : Int)).tmod 8 = ((k % 8 : Nat) : Int) := by
  constructor
  · rw [Int.tdiv_eq_ediv_of_nonneg (by omega)]; simp
  · rw [Int.tmod_eq_emod_of_nonneg (by omega)]; simp
theorem burst_succ_no {mask : UInt32} {first i : Nat} {xs : List UInt8} (h : (mask.toNat.testBit i && decide (first + i < 8 * xs.length)) = false) : burst mask first (i + 1) xs = burst mask first i xs := by
  rw [burst, h]; rfl
theorem burst_succ_yes {mask : UInt32} {first i : Nat} {xs : List UInt8} (h : (mask.toNat.testBit i && decide (first + i < 8 * xs.length)) = true) : burst mask first (i + 1) xs = (burst mask first i xs).set ((first + i) / 8) ((burst mask first i xs).getD ((first + i) / 8) 0 ^^^ (128 >>> UInt8.ofNat ((first + i) % 8))) := by
  rw [burst, h]; rfl

theorem held_alloc {w x : World} {o : Obj} (h : Hid (Below w.heap.size w x)) : Hid (Below w.heap.size w (x.alloc o)) := hide (h.out.alloc h.out.size o)
theorem held_drew {w x : World} (h : Hid (Below w.heap.size w x)) : Hid (Below w.heap.size w x.drew) := hide h.out.drew
theorem heap_new0 (w : World) (o : Obj) : (w.drew.alloc o).heap[w.heap.size]? = some o := heap_alloc_new w.drew o
theorem heap_new1 (w : World) (o o' : Obj) : ((w.drew.alloc o).alloc o').heap[w.heap.size + 1]? = some o' := by
  have := heap_alloc_new (w.drew.alloc o) o'
  simpa using this
theorem heap_old0 (w : World) (o o' : Obj) : ((w.drew.alloc o).alloc o').heap[w.heap.size]? = some o :=
  ((balloc (w.drew.alloc o) o').block w.heap.size (by rw [World.size_alloc]; exact Nat.lt_succ_self _)).trans (heap_new0 w o)
theorem sum_at {W : World} {g q : Nat} {A : Option Addr} {xs : List UInt8} {n c : Nat} {S : Nat → Prop} {t : TypeId} {fr : Nat × Nat} (ht : TabAt W g 256) (hq : W.heap[q]? = some (.cells #[.slice A n c] t fr)) (hn : xs.length = n) (hc : n ≤ c) (hm : c ≤ maxLen) (hr : RdL Kd.byte S W A xs) :
    Calls Try.prog 29 #[.pointer (some ⟨g, 0, none⟩), .slice (some ⟨q, 0, none⟩) 1 1] W fun e w' => e = .returned (.int .u32 ((crcS xs).toNat : Int)) ∧ W = w' := by
  subst hn
  have h := sum_calls g (some ⟨q, 0, none⟩) [xs] 1 (fun k => S k ∨ k = q) W ht (by simp [maxLen]) (by simp) (RdL.block1 rfl hq (.inr rfl) (fun i x hx => by
    match i, hx with
    | 0, hx => simp at hx; subst hx; exact ⟨_, rfl, A, c, rfl, hc, hm, hr.mono fun k hk => .inl hk⟩
    | n + 1, hx => simp at hx))
  rw [show [xs].flatten = xs by simp] at h
  exact h
end Go.Proofs.Ytoiojkjmldlhcaa
