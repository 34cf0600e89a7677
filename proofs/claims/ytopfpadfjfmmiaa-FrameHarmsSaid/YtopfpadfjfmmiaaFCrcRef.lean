/- The document's sums, walked. -/
import Derived.Test.YtopfpadfjfmmiaaFCrcLaws
set_option linter.unusedVariables false
set_option linter.unusedSimpArgs false
namespace Go.Proofs.Ytopfpadfjfmmiaa
open Go.RowKit

def bval (b : Bool) : Nat := if b then 1 else 0
theorem bitsB_val (x : UInt8) (r : Nat) (hr : r < 8) : ∃ b, (bitsB x)[r]? = some b ∧ bval b = x.toNat / 2 ^ (7 - r) % 2 := by
  have hb : ∀ m : Nat, bval (m % 2 == 1) = m % 2 := by
    intro m
    rcases Nat.mod_two_eq_zero_or_one m with h | h <;> rw [h] <;> rfl
  match r, hr with
  | 0, _ => exact ⟨_, rfl, hb _⟩
  | 1, _ => exact ⟨_, rfl, hb _⟩
  | 2, _ => exact ⟨_, rfl, hb _⟩
  | 3, _ => exact ⟨_, rfl, hb _⟩
  | 4, _ => exact ⟨_, rfl, hb _⟩
  | 5, _ => exact ⟨_, rfl, hb _⟩
  | 6, _ => exact ⟨_, rfl, hb _⟩
  | 7, _ => exact ⟨_, rfl, by rw [hb]; simp⟩

theorem bit_fin (y m : Nat) : ((y : Int) / (2 : Int) ^ m).tmod 2 = ((y / 2 ^ m % 2 : Nat) : Int) := by
  have e : ((y : Int) / (2 : Int) ^ m) = ((y / 2 ^ m : Nat) : Int) := by simp
  rw [e, Int.tmod_eq_emod_of_nonneg (Int.natCast_nonneg _)]; simp
theorem bit_calls (B : Option Addr) (xs : List UInt8) (c i : Nat) (S : Nat → Prop) (w : World) (hm : c ≤ maxLen) (hc : xs.length ≤ c) (hl : xs.length ≤ 100000) (hi : i < 8 * xs.length) (hb : RdL Kd.byte S w B xs) {bt : Bool} (hbt : (bitsL xs)[i]? = some bt) :
    Calls Try.prog 40 #[.slice B xs.length c, .int .i64 (i : Int)] w fun e w' => e = .returned (.int .u64 ((bval bt : Nat) : Int)) ∧ w = w' := by
  refine cps fun R hR => ?_
  unfold maxLen at hm
  have hk : i / 8 < xs.length := by omega
  obtain ⟨b', off', u', rfl, hsb', hu', hcell'⟩ := hb.at1 rfl hk
  obtain rfl := Kd.byte_cell hu'
  have hr8 : i % 8 < 8 := Nat.mod_lt _ (by omega)
  obtain ⟨bt', h1, h2⟩ := bitsB_val xs[i / 8] (i % 8) hr8
  have hg : (bitsL xs)[i]? = some bt' := by
    have := bitsL_get xs (i / 8) (i % 8) hr8
    rw [show 8 * (i / 8) + i % 8 = i by omega, List.getElem?_eq_getElem hk] at this
    rw [this]; exact h1
  rw [hg] at hbt
  obtain rfl : bt' = bt := by injection hbt
  have H2 := hide h2
  obtain ⟨q1, q2⟩ := quo8 i
  clear hu' hb h1 h2 hg hbt
  generalize xs[i / 8] = x at hcell' H2
  have hx := x.toNat_lt
  generalize x.toNat = y at *
  generalize hn : xs.length = n at *
  have e4 : ((i / 8 : Nat) : Int) < (n : Int) := by omega
  have hi' : i ≤ 800000 := by omega
  generalize i / 8 = a at *
  generalize i % 8 = r at *
  clear hn
  go_enter Try.func40, Try.ntmps40
  go_wp2_with fail
  exact hR.out _ _ ⟨by show Ending.returned (Value.int .u64 (((y : Int) / (2 : Int) ^ (7 - r)).tmod 2)) = _; rw [H2.out, bit_fin], rfl⟩

theorem ref_lo {s : UInt32} {b : Bool} (h : s.toNat * 2 + bval b < 4294967296) : (crcB s ^^^ (if b then 1 else 0)).toNat = s.toNat * 2 + bval b := by
  rw [aug_step b (by omega)]
  unfold bval
  cases b <;> simp <;> omega
theorem ref_hi {s : UInt32} {b : Bool} (h : 4294967296 ≤ s.toNat * 2 + bval b) : bits .xor .u64 ((s.toNat : Int) * (2 : Int) + (bval b : Int)) 4374732215 = ((crcB s ^^^ (if b then 1 else 0)).toNat : Int) := by
  have hs := s.toNat_lt
  have hb : bval b ≤ 1 := by cases b <;> decide
  obtain ⟨a, ha⟩ : ∃ a, s.toNat * 2 + bval b = 2 ^ 32 * 1 + a := ⟨s.toNat * 2 + bval b - 4294967296, by omega⟩
  have ha' : a < 2 ^ 32 := by omega
  have e1 : ((s.toNat : Int) * (2 : Int) + (bval b : Int)) = ((UInt64.ofNat (2 ^ 32 * 1 + a)).toNat : Int) := by
    rw [UInt64.toNat_ofNat', Nat.mod_eq_of_lt (by omega)]; omega
  have e2 : (4374732215 : Int) = ((4374732215 : UInt64).toNat : Int) := rfl
  rw [e1, e2, xor64, UInt64.toNat_xor, UInt64.toNat_ofNat', Nat.mod_eq_of_lt (by omega)]
  have e3 : (4374732215 : UInt64).toNat = 2 ^ 32 * 1 + 79764919 := rfl
  rw [e3, ← xor_add _ _ 32 ha', ← xor_add _ _ 32 (by decide)]
  have e4 : (2 ^ 32 * 1 ^^^ a) ^^^ (2 ^ 32 * 1 ^^^ 79764919) = a ^^^ 79764919 := by
    rw [Nat.xor_assoc, ← Nat.xor_assoc a, Nat.xor_comm a (2 ^ 32 * 1), Nat.xor_assoc, ← Nat.xor_assoc, Nat.xor_self, Nat.zero_xor]
  rw [e4]
  have h1 : s >>> 31 = 1 := by
    apply UInt32.toNat_inj.1
    rw [UInt32.toNat_shiftRight]
    simp [Nat.shiftRight_eq_div_pow]; omega
  have h2 : (s <<< 1).toNat = a - bval b := by
    rw [UInt32.toNat_shiftLeft]; simp [Nat.shiftLeft_eq]; omega
  unfold crcB
  rw [if_pos h1, UInt32.toNat_xor, UInt32.toNat_xor, h2]
  have h3 : (if b then (1 : UInt32) else 0).toNat = bval b := by cases b <;> rfl
  rw [h3, show polyC.toNat = 79764919 from rfl, Nat.xor_assoc, Nat.xor_comm 79764919, ← Nat.xor_assoc]
  congr 2
  obtain ⟨k, hk⟩ : ∃ k, a - bval b = 2 ^ 1 * k := ⟨(a - bval b) / 2, by omega⟩
  rw [hk, xor_add _ _ 1 (by omega)]
  omega
theorem not_sub (r : UInt32) : ((4294967295 : Int) - (r.toNat : Int)) = ((~~~ r).toNat : Int) := by
  have := r.toNat_lt
  rw [UInt32.toNat_not]
  simp [UInt32.size]
  omega
theorem Fresh.one {w w2 : World} {v2 : Value} {xs : List UInt8} {o : Obj} (h2 : Row w2 5 v2 ([] ++ xs.map encB)) (g2 : (w.alloc o).grownBy w2 (Value.slice (some ⟨w.heap.size, 0, none⟩) 0 0).ownBlock)
    (a2 : v2.ownBlock = (Value.slice (some ⟨w.heap.size, 0, none⟩) 0 0).ownBlock ∨ v2.ownBlock = some (w.alloc o).heap.size) : Fresh w w2 v2 xs := by
  have s0 : (w.alloc o).heap.size = w.heap.size + 1 := by simp
  refine ⟨h2, (balloc w o).grown g2 (by omega) (fun q hq => by simp [Value.ownBlock] at hq; omega), fun q hq => ?_⟩
  rcases a2 with a2 | a2 <;> rw [a2] at hq <;> simp [Value.ownBlock] at hq <;> omega
/-- The stream's bit i. -/
def strB (xs : List UInt8) (i : Nat) : Bool := xor ((bitsL xs).getD i false) (decide (i < 32))
theorem stream_len (xs : List UInt8) : (streamB xs).length = 8 * xs.length + 32 := by
  have hl : (bitsL xs ++ List.replicate 32 false).length = (List.replicate 32 true ++ List.replicate (8 * xs.length) false).length := by
    rw [List.length_append, List.length_append, List.length_replicate, List.length_replicate, List.length_replicate, bitsL_len, Nat.add_comm]
  unfold streamB
  rw [len_xorB _ _ hl, List.length_append, List.length_replicate, bitsL_len]
theorem stream_get (xs : List UInt8) (i : Nat) (hi : i < 8 * xs.length + 32) : (streamB xs)[i]? = some (strB xs i) := by
  unfold streamB xorB strB
  have h1 : (bitsL xs ++ List.replicate 32 false)[i]? = some ((bitsL xs).getD i false) := by
    by_cases h : i < (bitsL xs).length
    · rw [List.getElem?_append_left h, List.getD_eq_getElem?_getD, List.getElem?_eq_getElem h]; rfl
    · rw [List.getElem?_append_right (by omega), List.getElem?_replicate, if_pos (by rw [bitsL_len] at h ⊢; omega), List.getD_eq_getElem?_getD, List.getElem?_eq_none (by omega)]; rfl
  have h2 : (List.replicate 32 true ++ List.replicate (8 * xs.length) false)[i]? = some (decide (i < 32)) := by
    by_cases h : i < 32
    · rw [List.getElem?_append_left (by simpa using h), List.getElem?_replicate, if_pos h]; simp [h]
    · rw [List.getElem?_append_right (by simp; omega), List.getElem?_replicate, if_pos (by simp; omega)]; simp [h]
  rw [List.getElem?_zipWith, h1, h2]
/-- The remainder after i bits. -/
def refS (xs : List UInt8) (i : Nat) : UInt32 := augB 0 ((streamB xs).take i)
theorem refS_succ (xs : List UInt8) (i : Nat) (hi : i < 8 * xs.length + 32) : refS xs (i + 1) = crcB (refS xs i) ^^^ (if strB xs i then 1 else 0) := by
  unfold refS
  have hl : i < (streamB xs).length := by rw [stream_len]; exact hi
  have hg := stream_get xs i hi
  rw [List.getElem?_eq_getElem hl] at hg
  injection hg with hg
  rw [List.take_succ_eq_append_getElem hl, augB_append, hg]; rfl
theorem refS_all (xs : List UInt8) : refS xs (8 * xs.length + 32) = crcF 4294967295 xs := by
  unfold refS
  rw [← stream_len, List.take_length, stream_eq]

set_option maxRecDepth 100000 in
set_option maxHeartbeats 1000000 in
theorem refcrc_calls (B : Option Addr) (xs : List UInt8) (c : Nat) (S : Nat → Prop) (w : World) (hm : c ≤ maxLen) (hc : xs.length ≤ c) (hl : xs.length ≤ 100000) (hb : RdL Kd.byte S w B xs) :
    Calls Try.prog 35 #[.slice B xs.length c] w fun e w' => e = .returned (.int .u32 ((crcS xs).toNat : Int)) ∧ w = w' := by
  refine cps fun R hR => ?_
  have hbit := hide (fun i (hi : i < 8 * xs.length) => bit_calls B xs c i S w hm hc hl hi hb (bt := (bitsL xs).getD i false) (by
    have : i < (bitsL xs).length := by rw [bitsL_len]; exact hi
    rw [List.getD_eq_getElem?_getD, List.getElem?_eq_getElem this]; rfl))
  have hend := hide (show crcS xs = ~~~ (refS xs (8 * xs.length + 32)) by rw [refS_all]; rfl)
  have hstep := hide (refS_succ xs)
  have hno := hide (fun i (hi : ¬ i < 8 * xs.length) => (by rw [List.getD_eq_getElem?_getD, List.getElem?_eq_none (by rw [bitsL_len]; omega)]; rfl : (bitsL xs).getD i false = false))
  generalize hn : xs.length = n at *
  unfold maxLen at hm
  clear hn hb
  go_enter Try.func35, Try.ntmps35
  go_wp2_with fail
  go_loop [3, 4] (fun x i => ∃ k : Nat, k ≤ 8 * n + 32 ∧ i = .int .i64 (k : Int) ∧ x = .int .u64 ((refS xs k).toNat : Int)) (fun _ i => 8 * n + 32 - (intOf i).toNat)
  case atStart => exact ⟨0, Nat.zero_le _, rfl, rfl⟩
  case round =>
    obtain ⟨k, hk, rfl, rfl⟩ := hrel
    by_cases hlt : k < 8 * n + 32
    · have hs := (refS xs k).toNat_lt
      have Hst := hide (hstep.out k hlt)
      have Hsb : strB xs k = xor ((bitsL xs).getD k false) (decide (k < 32)) := rfl
      have Hlo := hide (fun h => ref_lo (s := refS xs k) (b := strB xs k) h)
      have Hhi := hide (fun h => ref_hi (s := refS xs k) (b := strB xs k) h)
      rw [← Hst.out] at Hlo Hhi
      have hs' : (refS xs k).toNat ≤ 4294967295 := by omega
      have hv1 : bval (strB xs k) ≤ 1 := by cases strB xs k <;> decide
      have hcase : (k < 8 * n ∧ (k < 32 ∧ bval (strB xs k) = 1 - bval ((bitsL xs).getD k false) ∨ ¬ k < 32 ∧ bval (strB xs k) = bval ((bitsL xs).getD k false))) ∨ (¬ k < 8 * n ∧ (k < 32 ∧ bval (strB xs k) = 1 ∨ ¬ k < 32 ∧ bval (strB xs k) = 0)) := by
        by_cases h1 : k < 8 * n <;> by_cases h2 : k < 32
        · refine .inl ⟨h1, .inl ⟨h2, ?_⟩⟩
          rw [Hsb, decide_eq_true h2]; cases (bitsL xs).getD k false <;> rfl
        · refine .inl ⟨h1, .inr ⟨h2, ?_⟩⟩
          rw [Hsb, decide_eq_false h2]; cases (bitsL xs).getD k false <;> rfl
        · refine .inr ⟨h1, .inl ⟨h2, ?_⟩⟩
          rw [Hsb, decide_eq_true h2, hno.out k h1]; rfl
        · refine .inr ⟨h1, .inr ⟨h2, ?_⟩⟩
          rw [Hsb, decide_eq_false h2, hno.out k h1]; rfl
      have hvb1 : bval ((bitsL xs).getD k false) ≤ 1 := by cases (bitsL xs).getD k false <;> decide
      have hb := hide (hbit.out k)
      generalize bval ((bitsL xs).getD k false) = vb at *
      generalize bval (strB xs k) = v at *
      generalize (refS xs k).toNat = sn at hs' Hlo Hhi ⊢
      clear Hsb Hst hs
      rcases hcase with ⟨h1, ⟨h2, h3⟩ | ⟨h2, h3⟩⟩ | ⟨h1, ⟨h2, h3⟩ | ⟨h2, h3⟩⟩
      · have hv : (1 : Int) - (vb : Int) = (v : Int) := by omega
        clear h3
        rcases Nat.lt_or_ge (sn * 2 + v) 4294967296 with hge | hge
        case' inl =>
          have f3 : decide ((4294967296 : Int) ≤ ((sn : Int) * (2 : Int) + (v : Int))) = false := by simp; omega
          have Hv := hide (show ((sn : Int) * (2 : Int) + (v : Int)) = (((refS xs (k + 1)).toNat : Nat) : Int) by have := Hlo.out hge; omega)
        case' inr =>
          have f3 : decide ((4294967296 : Int) ≤ ((sn : Int) * (2 : Int) + (v : Int))) = true := by simp; omega
          have Hv := hide (show bits .xor .u64 (((sn : Int) * (2 : Int) + (v : Int))) 4374732215 = (((refS xs (k + 1)).toNat : Nat) : Int) by have := Hhi.out hge; simpa using this)
        all_goals
          clear hge Hlo Hhi
          go_wp2_with fail
          refine (hb.out h1).mono ?_
          rintro e w' ⟨rfl, rfl⟩
          go_wp2_with fail
          go_round
          case rel => exact ⟨k + 1, by omega, by go_num, by rw [Hv.out]⟩
          case measure => simp [intOf]; omega
      · rw [← h3] at hb
        clear h3
        rcases Nat.lt_or_ge (sn * 2 + v) 4294967296 with hge | hge
        case' inl =>
          have f3 : decide ((4294967296 : Int) ≤ ((sn : Int) * (2 : Int) + (v : Int))) = false := by simp; omega
          have Hv := hide (show ((sn : Int) * (2 : Int) + (v : Int)) = (((refS xs (k + 1)).toNat : Nat) : Int) by have := Hlo.out hge; omega)
        case' inr =>
          have f3 : decide ((4294967296 : Int) ≤ ((sn : Int) * (2 : Int) + (v : Int))) = true := by simp; omega
          have Hv := hide (show bits .xor .u64 (((sn : Int) * (2 : Int) + (v : Int))) 4374732215 = (((refS xs (k + 1)).toNat : Nat) : Int) by have := Hhi.out hge; simpa using this)
        all_goals
          clear hge Hlo Hhi
          go_wp2_with fail
          refine (hb.out h1).mono ?_
          rintro e w' ⟨rfl, rfl⟩
          go_wp2_with fail
          go_round
          case rel => exact ⟨k + 1, by omega, by go_num, by rw [Hv.out]⟩
          case measure => simp [intOf]; omega
      · subst h3
        rcases Nat.lt_or_ge (sn * 2 + 1) 4294967296 with hge | hge
        case' inl =>
          have f3 : decide ((4294967296 : Int) ≤ ((sn : Int) * (2 : Int) + (1 : Int))) = false := by simp; omega
          have Hv := hide (show ((sn : Int) * (2 : Int) + (1 : Int)) = (((refS xs (k + 1)).toNat : Nat) : Int) by have := Hlo.out hge; omega)
        case' inr =>
          have f3 : decide ((4294967296 : Int) ≤ ((sn : Int) * (2 : Int) + (1 : Int))) = true := by simp; omega
          have Hv := hide (show bits .xor .u64 (((sn : Int) * (2 : Int) + (1 : Int))) 4374732215 = (((refS xs (k + 1)).toNat : Nat) : Int) by have := Hhi.out hge; simpa using this)
        all_goals
          clear hge Hlo Hhi
          go_wp2_with fail
          go_round
          case rel => exact ⟨k + 1, by omega, by go_num, by rw [Hv.out]⟩
          case measure => simp [intOf]; omega
      · subst h3
        rcases Nat.lt_or_ge (sn * 2 + 0) 4294967296 with hge | hge
        case' inl =>
          have f3 : decide ((4294967296 : Int) ≤ ((sn : Int) * (2 : Int))) = false := by simp; omega
          have Hv := hide (show ((sn : Int) * (2 : Int)) = (((refS xs (k + 1)).toNat : Nat) : Int) by have := Hlo.out hge; omega)
        case' inr =>
          have f3 : decide ((4294967296 : Int) ≤ ((sn : Int) * (2 : Int))) = true := by simp; omega
          have Hv := hide (show bits .xor .u64 (((sn : Int) * (2 : Int))) 4374732215 = (((refS xs (k + 1)).toNat : Nat) : Int) by have := Hhi.out hge; simpa using this)
        all_goals
          clear hge Hlo Hhi
          go_wp2_with fail
          go_round
          case rel => exact ⟨k + 1, by omega, by go_num, by rw [Hv.out]⟩
          case measure => simp [intOf]; omega
    · obtain rfl : k = 8 * n + 32 := by omega
      have hn := hide (not_sub (refS xs (8 * n + 32)))
      rw [hend.out] at hR
      have hs' : (refS xs (8 * n + 32)).toNat ≤ 4294967295 := by have := (refS xs (8 * n + 32)).toNat_lt; omega
      generalize (~~~ refS xs (8 * n + 32)).toNat = z at hR hn
      generalize (refS xs (8 * n + 32)).toNat = sn at hs' hn ⊢
      clear hend hstep hno hbit
      go_wp2_with fail
      exact hR.out _ _ ⟨by show Ending.returned (Value.int .u32 ((4294967295 : Int) - (sn : Int))) = _; rw [hn.out], rfl⟩

theorem quo_byte (s : UInt32) : ((s.toNat : Int) / (16777216 : Int) % (256 : Int)) = ((s >>> 24).toUInt8.toNat : Int) ∧ IntKind.u8.wrap ((s.toNat : Int) / (65536 : Int) % 256) = ((s >>> 16).toUInt8.toNat : Int) ∧
    IntKind.u8.wrap ((s.toNat : Int) / (256 : Int) % 256) = ((s >>> 8).toUInt8.toNat : Int) ∧ IntKind.u8.wrap ((s.toNat : Int) % 256) = (s.toUInt8.toNat : Int) := by
  refine ⟨?_, ?_, ?_, ?_⟩ <;> simp [UInt32.toNat_toUInt8, UInt32.toNat_shiftRight, Nat.shiftRight_eq_div_pow, IntKind.wrap, IntKind.bits, IntKind.signed]
set_option maxRecDepth 100000 in
set_option maxHeartbeats 1000000 in
theorem refseal_calls (B : Option Addr) (b : List UInt8) (c : Nat) (S : Nat → Prop) (w : World) (hm : c ≤ maxLen) (hc : b.length ≤ c) (hl : b.length ≤ 100000) (hb : RdL Kd.byte S w B b) (hS : ∀ k, S k → k < w.heap.size) :
    Calls Try.prog 18 #[.slice B b.length c] w fun e w' => ∃ v', e = .returned v' ∧ Fresh w w' v' (sealL b) := by
  refine cps fun R hR => ?_
  have Hb := hide hb
  have hs := hide (refcrc_calls B b c S w hm hc hl hb)
  clear hb
  unfold sealL at hR
  generalize crcS b = sm at hs hR
  generalize hn : b.length = n at *
  have Hn := hide hn
  clear hn
  have lmb := hide (show (b.map encB).length = n by rw [List.length_map, Hn.out])
  go_enter Try.func18, Try.ntmps18
  go_wp2_with fail
  refine hs.out.mono ?_
  rintro e w1 ⟨rfl, rfl⟩
  go_wp2_with (at_builtin; with_reducible refine wp_app 8 rfl rfl (.tmp 6) (.tmp 7) 22 rfl Try.underlying22 infoB ?_ (v := .slice (some ⟨w.heap.size, 0, none⟩) 0 0) (us := []) ?_ (Row.lit [] (by simp)) (A := B) (c := c) (news := b.map encB) ?_ ?_ (encB_one b) ?_ ?_ ?_)
  case refine_1 => rfl
  case refine_2 => rfl
  case refine_3 => rw [lmb.out]; rfl
  case refine_4 => exact (Hb.out.keep fun k hk => (balloc w _).block k (hS k hk)).srcB
  case refine_5 => rw [lmb.out]; simp; omega
  case refine_6 => rw [lmb.out]; simp [maxLen]; omega
  case refine_7 =>
    intro v3 w3 h3 g3 a3
    have hF3 := hide (Fresh.one h3 g3 a3)
    obtain ⟨r1, r2, r3, r4⟩ := quo_byte sm
    have hbe : be4 sm = [(sm >>> 24).toUInt8, (sm >>> 16).toUInt8, (sm >>> 8).toUInt8, sm.toUInt8] := rfl
    have Hbe := hide hbe
    clear h3 g3 a3 hbe
    generalize (sm >>> 24).toUInt8 = b1 at r1 Hbe
    generalize (sm >>> 16).toUInt8 = b2 at r2 Hbe
    generalize (sm >>> 8).toUInt8 = b3 at r3 Hbe
    generalize sm.toUInt8 = b4 at r4 Hbe
    go_wp2_with (at_builtin; with_reducible refine wp_app 24 rfl rfl (.tmp 8) (.tmp 23) 22 rfl Try.underlying22 infoB ?_ (us := b.map encB) ?_ (hF3.out.alloc _).row (c := 4) (news := [.int .u8 (b1.toNat : Int), .int .u8 (b2.toNat : Int), .int .u8 (b3.toNat : Int), .int .u8 (b4.toNat : Int)]) ?_ (Src.lit4 _ _ _ _ _ _) ?_ ?_ ?_ ?_)
    case refine_1 => rfl
    case refine_2 => rfl
    case refine_3 => rfl
    case refine_4 => intro u hu; simp at hu; rcases hu with rfl | rfl | rfl | rfl <;> rfl
    case refine_5 => rw [lmb.out]; simp; omega
    case refine_6 => rw [lmb.out]; simp [maxLen]; omega
    case refine_7 =>
      intro v4 w4 h4 g4 a4
      have hF4 := hide ((hF3.out.alloc _).grow (ys := be4 sm) (by rw [Hbe.out, List.map_append]; exact h4) g4 a4)
      clear h4 g4 a4
      go_wp2_with fail
      exact hR.out _ _ ⟨_, rfl, hF4.out⟩
end Go.Proofs.Ytopfpadfjfmmiaa
