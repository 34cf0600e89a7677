/- The laws of layer 1, walked: what they share. -/
import Derived.Test.YtopfpadfjfmmiaaFCrc
import Derived.Lib.SlBytesConst
set_option linter.unusedVariables false
set_option linter.unusedSimpArgs false
namespace Go.Proofs.Ytopfpadfjfmmiaa
open Go.RowKit

theorem lit_rd (w : World) (xs : List UInt8) {o : Obj} {fr : Nat × Nat} (ho : o = .cells (xs.map encB).toArray 5 fr) : RdL Kd.byte (· = w.heap.size) (w.alloc o) (some ⟨w.heap.size, 0, none⟩) xs := by
  subst ho
  refine RdL.block1 rfl (heap_alloc_new w _) rfl (fun i x hx => ⟨encB x, ?_, _, rfl, rfl⟩)
  rw [List.getElem?_toArray, List.getElem?_map, hx]; rfl
theorem lit_two {S1 S2 : Nat → Prop} {w : World} {A1 A2 : Option Addr} {xs ys : List UInt8} {c1 c2 : Nat} (h1 : xs.length ≤ c1) (m1 : c1 ≤ maxLen) (r1 : RdL Kd.byte S1 w A1 xs) (h2 : ys.length ≤ c2) (m2 : c2 ≤ maxLen) (r2 : RdL Kd.byte S2 w A2 ys) (hS1 : ∀ k, S1 k → k < w.heap.size) (hS2 : ∀ k, S2 k → k < w.heap.size)
    {o : Obj} {e : TypeId} (ho : o = .cells #[.slice A1 xs.length c1, .slice A2 ys.length c2] e) : RdL (Kd.sl Kd.byte) (fun k => S1 k ∨ S2 k ∨ k = w.heap.size) (w.alloc o) (some ⟨w.heap.size, 0, none⟩) [xs, ys] := by
  subst ho
  refine RdL.block1 rfl (heap_alloc_new w _) (.inr (.inr rfl)) (fun i x hx => ?_)
  match i, hx with
  | 0, hx => simp at hx; subst hx; exact ⟨_, rfl, A1, c1, rfl, h1, m1, (r1.keep fun k hk => (balloc w _).block k (hS1 k hk)).mono fun k hk => .inl hk⟩
  | 1, hx => simp at hx; subst hx; exact ⟨_, rfl, A2, c2, rfl, h2, m2, (r2.keep fun k hk => (balloc w _).block k (hS2 k hk)).mono fun k hk => .inr (.inl hk)⟩
  | n + 2, hx => simp at hx
theorem sum_one {w : World} {g : Nat} {A : Option Addr} {xs : List UInt8} {n c : Nat} {S : Nat → Prop} (ht : TabAt w g 256) (hn : xs.length = n) (hc : n ≤ c) (hm : c ≤ maxLen) (hr : RdL Kd.byte S w A xs) (hS : ∀ k, S k → k < w.heap.size) {o : Obj} (ho : o = .cells #[.slice A n c] 22) :
    Calls Try.prog 39 #[.pointer (some ⟨g, 0, none⟩), .slice (some ⟨w.heap.size, 0, none⟩) 1 1] (w.alloc o) fun e w' => e = .returned (.int .u32 ((crcS xs).toNat : Int)) ∧ w.alloc o = w' := by
  subst ho
  have h := sum_calls g _ [xs] 1 _ (w.alloc (.cells #[.slice A n c] 22)) (ht.keep ((balloc w _).block g ht.lt)) (by simp [maxLen]) (by simp) (lit1b hn hc hm hr hS 22)
  rw [show [xs].flatten = xs by simp] at h
  exact h
/-- Bytes with their sum behind them: what is answered reads so in every later world. -/
theorem seal_ret {w : World} {g : Nat} {A : Option Addr} {b : List UInt8} {n c : Nat} {S : Nat → Prop} (ht : TabAt w g 256) (hn : b.length = n) (hc : n ≤ c) (hm : c ≤ maxLen) (hl : n ≤ 100000) (hr : RdL Kd.byte S w A b) (hS : ∀ k, S k → k < w.heap.size) :
    Calls Try.prog 32 #[.pointer (some ⟨g, 0, none⟩), .slice A n c] w fun e w' => ∃ A' c', e = .returned (.slice A' (n + 4) c') ∧ n + 4 ≤ c' ∧ c' ≤ maxLen ∧ RdL Kd.byte (· < w'.heap.size) w' A' (sealL b) ∧ Below w.heap.size w w' ∧ TabAt w' g 256 := by
  subst hn
  refine (seal_calls g A b c S w ht hm hc hl hr hS).mono ?_
  rintro e w' ⟨v, rfl, hf⟩
  obtain ⟨A', c', rfl, h1, h2⟩ := hf.shape
  have hlen : (sealL b).length = b.length + 4 := by simp [sealL, be4]
  rw [hlen] at h1 hf ⊢
  exact ⟨A', c', rfl, h1, h2, (hf.1.rd (d := Kd.byte) rfl (fun k => (Value.slice A' (b.length + 4) c').ownBlock = some k) (fun b hb => hb) fun x => ⟨_, rfl, rfl⟩).mono fun k hk => hf.1.lt hk, hf.2.1, ht.keep (hf.2.1.block g ht.lt)⟩
theorem sealL_len (b : List UInt8) : (sealL b).length = b.length + 4 := by simp [sealL, be4]
theorem crcS_seal (b : List UInt8) : crcS (sealL b) = ~~~ sealC := by unfold crcS; rw [seal_crc]

theorem and32 (a b : UInt32) : bits .and .u32 (a.toNat : Int) (b.toNat : Int) = ((a &&& b).toNat : Int) := by
  have ha := a.toNat_lt
  have hb := b.toNat_lt
  have h := (a &&& b).toNat_lt
  show IntKind.u32.wrap ((BitVec.ofInt 32 (a.toNat : Int) &&& BitVec.ofInt 32 (b.toNat : Int)).toNat : Int) = _
  rw [ofInt_nat, ofInt_nat, BitVec.toNat_and, BitVec.toNat_ofNat, BitVec.toNat_ofNat, Nat.mod_eq_of_lt ha, Nat.mod_eq_of_lt hb, UInt32.toNat_and]
  rw [UInt32.toNat_and] at h
  simp only [IntKind.wrap, IntKind.bits, IntKind.signed]
  simp
  omega
theorem bit_raw (m : UInt32) (j : Nat) : (bits .and .u32 ((m.toNat : Int) / (2 : Int) ^ j) 1 == 1) = m.toNat.testBit j := by
  have hm := m.toNat_lt
  have e : ((m.toNat : Int) / (2 : Int) ^ j) = ((UInt32.ofNat (m.toNat / 2 ^ j)).toNat : Int) := by
    rw [UInt32.toNat_ofNat', Nat.mod_eq_of_lt (Nat.lt_of_le_of_lt (Nat.div_le_self _ _) hm)]
    simp
  rw [e]
  have h := and32 (UInt32.ofNat (m.toNat / 2 ^ j)) 1
  rw [show ((1 : UInt32).toNat : Int) = 1 from rfl] at h
  rw [h, UInt32.toNat_and, UInt32.toNat_ofNat', Nat.mod_eq_of_lt (Nat.lt_of_le_of_lt (Nat.div_le_self _ _) hm), show (1 : UInt32).toNat = 1 from rfl, Nat.and_one_is_mod, Nat.testBit_eq_decide_div_mod_eq]
  rw [Bool.eq_iff_iff, beq_iff_eq, decide_eq_true_eq]
  omega
theorem shr_128 (r : Nat) (hr : r < 8) : ((128 : Int) / (2 : Int) ^ r) = ((128 >>> UInt8.ofNat r : UInt8).toNat : Int) := by
  have h : ∀ k : Fin 8, ((128 : Int) / (2 : Int) ^ k.1) = ((128 >>> UInt8.ofNat k.1 : UInt8).toNat : Int) := by decide
  exact h ⟨r, hr⟩
theorem quo8 (k : Nat) : ((k : Int)).tdiv 8 = ((k / 8 : Nat) : Int) ∧ ((k : Int)).tmod 8 = ((k % 8 : Nat) : Int) := by
  constructor
  · rw [Int.tdiv_eq_ediv_of_nonneg (by omega)]; simp
  · rw [Int.tmod_eq_emod_of_nonneg (by omega)]; simp
theorem burst_succ_no {mask : UInt32} {first i : Nat} {xs : List UInt8} (h : (mask.toNat.testBit i && decide (first + i < 8 * xs.length)) = false) : burst mask first (i + 1) xs = burst mask first i xs := by
  rw [burst, h]; rfl
theorem burst_succ_yes {mask : UInt32} {first i : Nat} {xs : List UInt8} (h : (mask.toNat.testBit i && decide (first + i < 8 * xs.length)) = true) : burst mask first (i + 1) xs = (burst mask first i xs).set ((first + i) / 8) ((burst mask first i xs).getD ((first + i) / 8) 0 ^^^ (128 >>> UInt8.ofNat ((first + i) % 8))) := by
  rw [burst, h]; rfl

theorem held_alloc {w x : World} {o : Obj} (h : Hid (Below w.heap.size w x)) : Hid (Below w.heap.size w (x.alloc o)) := hide (h.out.alloc h.out.size o)
theorem held_drew {w x : World} (h : Hid (Below w.heap.size w x)) : Hid (Below w.heap.size w x.drew) := hide h.out.drew
theorem heap_new0 (w : World) (o : Obj) : (w.drew.alloc o).heap[w.heap.size]? = some o := heap_alloc_new w.drew o
theorem heap_new1 (w : World) (o o' : Obj) : ((w.drew.alloc o).alloc o').heap[w.heap.size + 1]? = some o' := by
  have := heap_alloc_new (w.drew.alloc o) o'
  simpa using this
theorem heap_old0 (w : World) (o o' : Obj) : ((w.drew.alloc o).alloc o').heap[w.heap.size]? = some o :=
  ((balloc (w.drew.alloc o) o').block w.heap.size (by rw [World.size_alloc]; exact Nat.lt_succ_self _)).trans (heap_new0 w o)
theorem sum_at {W : World} {g q : Nat} {A : Option Addr} {xs : List UInt8} {n c : Nat} {S : Nat → Prop} {t : TypeId} {fr : Nat × Nat} (ht : TabAt W g 256) (hq : W.heap[q]? = some (.cells #[.slice A n c] t fr)) (hn : xs.length = n) (hc : n ≤ c) (hm : c ≤ maxLen) (hr : RdL Kd.byte S W A xs) :
    Calls Try.prog 39 #[.pointer (some ⟨g, 0, none⟩), .slice (some ⟨q, 0, none⟩) 1 1] W fun e w' => e = .returned (.int .u32 ((crcS xs).toNat : Int)) ∧ W = w' := by
  subst hn
  have h := sum_calls g (some ⟨q, 0, none⟩) [xs] 1 (fun k => S k ∨ k = q) W ht (by simp [maxLen]) (by simp) (RdL.block1 rfl hq (.inr rfl) (fun i x hx => by
    match i, hx with
    | 0, hx => simp at hx; subst hx; exact ⟨_, rfl, A, c, rfl, hc, hm, hr.mono fun k hk => .inl hk⟩
    | n + 1, hx => simp at hx))
  rw [show [xs].flatten = xs by simp] at h
  exact h
end Go.Proofs.Ytopfpadfjfmmiaa
