/- Sums of 32 bits: the plain law. -/
import Derived.Test.YtoiojkjmldlhcaaU
set_option linter.unusedVariables false
set_option linter.unusedSimpArgs false
namespace Go.Proofs.Ytoiojkjmldlhcaa

def polyC : UInt32 := 79764919
/-- One bit on. -/
def crcB (r : UInt32) : UInt32 := (r <<< 1) ^^^ (if r >>> 31 = 1 then polyC else 0)
def crcN : Nat → UInt32 → UInt32
  | 0, r => r
  | n + 1, r => crcN n (crcB r)
theorem xor_swap (a b c d : UInt32) : (a ^^^ b) ^^^ (c ^^^ d) = (a ^^^ c) ^^^ (b ^^^ d) := by ac_rfl
theorem top_bit (a : UInt32) : a >>> 31 = 0 ∨ a >>> 31 = 1 := by
  have h : (a >>> 31).toNat < 2 := by
    rw [UInt32.toNat_shiftRight]
    have := a.toNat_lt
    simp [Nat.shiftRight_eq_div_pow]
    omega
  rcases (by omega : (a >>> 31).toNat = 0 ∨ (a >>> 31).toNat = 1) with h | h
  · left; exact UInt32.toNat_inj.1 h
  · right; exact UInt32.toNat_inj.1 h
theorem crcB_xor (a b : UInt32) : crcB (a ^^^ b) = crcB a ^^^ crcB b := by
  unfold crcB
  rw [UInt32.shiftLeft_xor, UInt32.shiftRight_xor, xor_swap]
  congr 1
  rcases top_bit a with ha | ha <;> rcases top_bit b with hb | hb <;> rw [ha, hb] <;> simp <;> decide
theorem crcB_zero : crcB 0 = 0 := by decide
theorem crcN_xor (n : Nat) : ∀ a b, crcN n (a ^^^ b) = crcN n a ^^^ crcN n b := by
  induction n with
  | zero => intro a b; rfl
  | succ n ih => intro a b; simp only [crcN, crcB_xor, ih]
theorem crcN_zero (n : Nat) : crcN n 0 = 0 := by
  induction n with
  | zero => rfl
  | succ n ih => simp only [crcN, crcB_zero, ih]
theorem crcN_add (n m : Nat) : ∀ a, crcN (n + m) a = crcN m (crcN n a) := by
  induction n with
  | zero => intro a; rw [Nat.zero_add]; rfl
  | succ n ih => intro a; rw [Nat.succ_add]; simp only [crcN, ih]
theorem crcN_comm (n m : Nat) (a : UInt32) : crcN n (crcN m a) = crcN m (crcN n a) := by rw [← crcN_add, ← crcN_add, Nat.add_comm]
theorem crcB_inj0 {a : UInt32} (h : crcB a = 0) : a = 0 := by
  unfold crcB at h
  rcases top_bit a with ha | ha
  · rw [ha] at h
    simp at h
    have h1 := congrArg UInt32.toNat h
    have h2 := congrArg UInt32.toNat ha
    rw [UInt32.toNat_shiftLeft] at h1
    rw [UInt32.toNat_shiftRight] at h2
    simp [Nat.shiftLeft_eq, Nat.shiftRight_eq_div_pow] at h1 h2
    apply UInt32.toNat_inj.1
    simp; omega
  · rw [if_pos ha] at h
    have h0 : a <<< 1 = polyC := by
      have := congrArg (· ^^^ polyC) h
      simpa [UInt32.xor_assoc] using this
    have h1 := congrArg UInt32.toNat h0
    rw [UInt32.toNat_shiftLeft] at h1
    simp [Nat.shiftLeft_eq, polyC] at h1
    omega
theorem crcN_inj0 (n : Nat) : ∀ {a : UInt32}, crcN n a = 0 → a = 0 := by
  induction n with
  | zero => intro a h; exact h
  | succ n ih => intro a h; exact crcB_inj0 (ih h)
theorem xor_eq0 {a b : UInt32} : a ^^^ b = 0 ↔ a = b := by simp
theorem crcN_inj (n : Nat) {a b : UInt32} : crcN n a = crcN n b ↔ a = b :=
  ⟨fun h => by rw [← xor_eq0, ← crcN_xor] at h; exact xor_eq0.1 (crcN_inj0 n h), fun h => by rw [h]⟩

/-! ### Bytes -/
def tblC (x : UInt8) : UInt32 := crcN 8 (x.toUInt32 <<< 24)
def stepC (r : UInt32) (x : UInt8) : UInt32 := (r <<< 8) ^^^ tblC ((r >>> 24).toUInt8 ^^^ x)
theorem crcB_small {r : UInt32} (h : r.toNat < 2147483648) : crcB r = r <<< 1 ∧ (r <<< 1).toNat = 2 * r.toNat := by
  have h0 : r >>> 31 = 0 := by
    apply UInt32.toNat_inj.1
    rw [UInt32.toNat_shiftRight]
    simp [Nat.shiftRight_eq_div_pow]; omega
  refine ⟨by unfold crcB; rw [h0]; simp, ?_⟩
  rw [UInt32.toNat_shiftLeft]; simp [Nat.shiftLeft_eq]; omega
theorem crcN_small (n : Nat) : ∀ {r : UInt32}, r.toNat * 2 ^ n < 4294967296 → (crcN n r).toNat = r.toNat * 2 ^ n := by
  induction n with
  | zero => intro r _; simp [crcN]
  | succ n ih =>
    intro r h
    have hp : 0 < 2 ^ n := Nat.pow_pos (by omega)
    have h1 : r.toNat < 2147483648 := by
      rw [Nat.pow_succ] at h
      have : r.toNat * 2 ≤ r.toNat * (2 ^ n * 2) := Nat.mul_le_mul_left _ (by omega)
      omega
    obtain ⟨e1, e2⟩ := crcB_small h1
    show (crcN n (crcB r)).toNat = _
    have e3 : 2 * r.toNat * 2 ^ n = r.toNat * 2 ^ (n + 1) := by rw [Nat.pow_succ]; ac_rfl
    rw [e1, ih (by rw [e2, e3]; exact h), e2, e3]
theorem hi_lo (r : UInt32) : ((r >>> 24) <<< 24) >>> 24 = r >>> 24 ∧ ((r >>> 24) <<< 24) <<< 8 = 0 := by
  have hr := r.toNat_lt
  constructor
  · apply UInt32.toNat_inj.1
    simp [UInt32.toNat_shiftLeft, UInt32.toNat_shiftRight, Nat.shiftRight_eq_div_pow, Nat.shiftLeft_eq]; omega
  · apply UInt32.toNat_inj.1
    simp [UInt32.toNat_shiftLeft, UInt32.toNat_shiftRight, Nat.shiftRight_eq_div_pow, Nat.shiftLeft_eq]; omega
theorem crcN8_lo {lo : UInt32} (hll : lo.toNat < 16777216) : crcN 8 lo = lo <<< 8 := by
  apply UInt32.toNat_inj.1
  rw [crcN_small 8 (by omega), UInt32.toNat_shiftLeft]
  simp [Nat.shiftLeft_eq]; omega
theorem lo_lt {lo : UInt32} (hl0 : lo >>> 24 = 0) : lo.toNat < 16777216 := by
  have := congrArg UInt32.toNat hl0
  have h2 := lo.toNat_lt
  rw [UInt32.toNat_shiftRight] at this
  simp [Nat.shiftRight_eq_div_pow] at this
  omega
theorem hi_byte (r : UInt32) (x : UInt8) : ((r >>> 24).toUInt8 ^^^ x).toUInt32 = (r >>> 24) ^^^ x.toUInt32 := by
  have hr := r.toNat_lt
  apply UInt32.toNat_inj.1
  simp only [UInt8.toNat_toUInt32, UInt8.toNat_xor, UInt32.toNat_xor, UInt32.toNat_toUInt8]
  have : (r >>> 24).toNat < 256 := by
    rw [UInt32.toNat_shiftRight]
    simp [Nat.shiftRight_eq_div_pow]; omega
  rw [Nat.mod_eq_of_lt (by omega)]
theorem stepC_split {r hi lo : UInt32} (x : UInt32) (e : r = (hi <<< 24) ^^^ lo) (h2 : (hi <<< 24) <<< 8 = 0) (hll : lo.toNat < 16777216) : (r <<< 8) ^^^ crcN 8 ((hi ^^^ x) <<< 24) = crcN 8 (r ^^^ (x <<< 24)) := by
  have hl8 : r <<< 8 = lo <<< 8 := by rw [e, UInt32.shiftLeft_xor, h2, UInt32.zero_xor]
  rw [hl8, ← crcN8_lo hll, ← crcN_xor, e, UInt32.shiftLeft_xor]
  refine congrArg (crcN 8) ?_
  generalize hi <<< 24 = a
  generalize x <<< 24 = b
  ac_rfl
theorem stepC_eq (r : UInt32) (x : UInt8) : stepC r x = crcN 8 (r ^^^ (x.toUInt32 <<< 24)) := by
  obtain ⟨h1, h2⟩ := hi_lo r
  unfold stepC tblC
  rw [hi_byte]
  generalize hh : r >>> 24 = hi at h1 h2
  refine stepC_split (lo := r ^^^ (hi <<< 24)) x.toUInt32 ?_ h2 (lo_lt ?_)
  · rw [UInt32.xor_comm r, ← UInt32.xor_assoc, UInt32.xor_self, UInt32.zero_xor]
  · rw [UInt32.shiftRight_xor, hh, h1, UInt32.xor_self]

def crcF (r : UInt32) (xs : List UInt8) : UInt32 := xs.foldl stepC r
theorem crcF_append (r : UInt32) (xs ys : List UInt8) : crcF r (xs ++ ys) = crcF (crcF r xs) ys := by simp [crcF]
theorem crcF_snoc (r : UInt32) (xs : List UInt8) (x : UInt8) : crcF r (xs ++ [x]) = stepC (crcF r xs) x := by simp [crcF]
def crcS (xs : List UInt8) : UInt32 := ~~~ (crcF 4294967295 xs)

/-! ### Bit by bit -/
/-- With bits put in at the low end. -/
def augB (s : UInt32) (bs : List Bool) : UInt32 := bs.foldl (fun s b => crcB s ^^^ (if b then 1 else 0)) s
theorem augB_append (s : UInt32) (xs ys : List Bool) : augB s (xs ++ ys) = augB (augB s xs) ys := by simp [augB]
theorem augB_lin (bs : List Bool) : ∀ s, augB s bs = crcN bs.length s ^^^ augB 0 bs := by
  induction bs with
  | nil => intro s; simp [augB, crcN]
  | cons b r ih =>
    intro s
    show augB (crcB s ^^^ _) r = crcN r.length (crcB s) ^^^ augB (crcB 0 ^^^ _) r
    rw [ih (crcB s ^^^ _), ih (crcB 0 ^^^ _), crcB_zero, crcN_xor, crcN_xor, crcN_zero]
    simp [UInt32.xor_assoc]
/-- Bits put upon each other. -/
def xorB (xs ys : List Bool) : List Bool := List.zipWith xor xs ys
theorem augB_xor : ∀ (xs ys : List Bool) (s t : UInt32), xs.length = ys.length → augB (s ^^^ t) (xorB xs ys) = augB s xs ^^^ augB t ys := by
  intro xs
  induction xs with
  | nil => intro ys s t h; cases ys with
    | nil => rfl
    | cons y r => simp at h
  | cons x r ih =>
    intro ys s t h
    cases ys with
    | nil => simp at h
    | cons y q =>
      show augB (crcB (s ^^^ t) ^^^ _) (xorB r q) = augB (crcB s ^^^ _) r ^^^ augB (crcB t ^^^ _) q
      rw [← ih q _ _ (by simpa using h)]
      congr 1
      rw [crcB_xor, xor_swap]
      congr 1
      cases x <;> cases y <;> decide
theorem augB_zeros (n : Nat) : ∀ s, augB s (List.replicate n false) = crcN n s := by
  induction n with
  | zero => intro s; rfl
  | succ n ih =>
    intro s
    show augB (crcB s ^^^ _) (List.replicate n false) = crcN n (crcB s)
    rw [ih]; simp
/-- The bits of a byte, the highest first. -/
def bitsB (x : UInt8) : List Bool := [x.toNat / 128 % 2 == 1, x.toNat / 64 % 2 == 1, x.toNat / 32 % 2 == 1, x.toNat / 16 % 2 == 1, x.toNat / 8 % 2 == 1, x.toNat / 4 % 2 == 1, x.toNat / 2 % 2 == 1, x.toNat % 2 == 1]
theorem augB_byte (x : UInt8) : crcN 24 (augB 0 (bitsB x)) = x.toUInt32 <<< 24 := by
  have h : ∀ n : Fin 256, crcN 24 (augB 0 (bitsB (UInt8.ofNat n.1))) = (UInt8.ofNat n.1).toUInt32 <<< 24 := by decide +kernel
  have := h ⟨x.toNat, x.toNat_lt⟩
  simpa using this
theorem step_bits (r : UInt32) (x : UInt8) : stepC r x = crcN 8 r ^^^ crcN 32 (augB 0 (bitsB x)) := by
  rw [stepC_eq, ← augB_byte, crcN_xor, ← crcN_add]
def bitsL (xs : List UInt8) : List Bool := xs.flatMap bitsB
theorem bitsL_len (xs : List UInt8) : (bitsL xs).length = 8 * xs.length := by
  induction xs with
  | nil => rfl
  | cons x r ih => simp only [bitsL, List.flatMap_cons, List.length_append, List.length_cons] at ih ⊢; rw [ih]; simp [bitsB]; omega
theorem crcF_bits (xs : List UInt8) : ∀ r, crcF r xs = crcN (8 * xs.length) r ^^^ crcN 32 (augB 0 (bitsL xs)) := by
  induction xs with
  | nil =>
    intro r
    show r = r ^^^ crcN 32 0
    rw [crcN_zero, UInt32.xor_zero]
  | cons x q ih =>
    intro r
    show crcF (stepC r x) q = _
    have e : bitsL (x :: q) = bitsB x ++ bitsL q := rfl
    have l : (bitsL q).length = 8 * q.length := bitsL_len q
    have e1 : crcN (8 * q.length) (stepC r x) = crcN (8 * (x :: q).length) r ^^^ crcN 32 (crcN (8 * q.length) (augB 0 (bitsB x))) := by
      rw [step_bits, crcN_xor, ← crcN_add, crcN_comm 32, List.length_cons, show 8 + 8 * q.length = 8 * (q.length + 1) by omega]
    have e2 : augB 0 (bitsL (x :: q)) = crcN (8 * q.length) (augB 0 (bitsB x)) ^^^ augB 0 (bitsL q) := by
      rw [e, augB_append, augB_lin (bitsL q), l]
    rw [ih, e1, e2, crcN_xor 32, UInt32.xor_assoc]

theorem len_xorB (xs ys : List Bool) (h : xs.length = ys.length) : (xorB xs ys).length = xs.length := by simp [xorB, h]
/-- The document's stream: 32 noughts behind, the first 32 turned. -/
def streamB (xs : List UInt8) : List Bool := xorB (bitsL xs ++ List.replicate 32 false) (List.replicate 32 true ++ List.replicate (8 * xs.length) false)
theorem ones32 : augB 0 (List.replicate 32 true) = 4294967295 := by decide +kernel
theorem stream_eq (xs : List UInt8) : augB 0 (streamB xs) = crcF 4294967295 xs := by
  have hl : (bitsL xs ++ List.replicate 32 false).length = (List.replicate 32 true ++ List.replicate (8 * xs.length) false).length := by
    rw [List.length_append, List.length_append, List.length_replicate, List.length_replicate, List.length_replicate, bitsL_len, Nat.add_comm]
  have h := augB_xor _ _ 0 0 hl
  rw [UInt32.xor_self] at h
  have h1 : augB 0 (bitsL xs ++ List.replicate 32 false) = crcN 32 (augB 0 (bitsL xs)) := by rw [augB_append, augB_zeros]
  have h2 : augB 0 (List.replicate 32 true ++ List.replicate (8 * xs.length) false) = crcN (8 * xs.length) 4294967295 := by rw [augB_append, augB_zeros, ones32]
  rw [h1, h2] at h
  rw [crcF_bits, UInt32.xor_comm]
  exact h

theorem crcF_diff (r : UInt32) (xs ys : List UInt8) (hl : xs.length = ys.length) : crcF r xs ^^^ crcF r ys = crcN 32 (augB 0 (xorB (bitsL xs) (bitsL ys))) := by
  have h := augB_xor (bitsL xs) (bitsL ys) 0 0 (by rw [bitsL_len, bitsL_len, hl])
  rw [UInt32.xor_self] at h
  rw [crcF_bits, crcF_bits, h, crcN_xor, xor_swap, hl, UInt32.xor_self, UInt32.zero_xor]

theorem aug_step {s : UInt32} (b : Bool) (h : s.toNat < 2147483648) : (crcB s ^^^ (if b then 1 else 0)).toNat = 2 * s.toNat + (if b then 1 else 0) := by
  obtain ⟨e1, e2⟩ := crcB_small h
  rw [e1, UInt32.toNat_xor, e2]
  cases b
  · simp
  · have h1 : (2 * s.toNat) ^^^ 1 = 2 * s.toNat + 1 := by
      rw [Nat.mul_comm]
      have := Nat.two_pow_add_eq_or_of_lt (i := 1) (a := s.toNat) (b := 1) (by omega)
      have h3 : (s.toNat * 2) ^^^ 1 = s.toNat * 2 + 1 := by
        apply Nat.eq_of_testBit_eq
        intro i
        rw [Nat.testBit_xor]
        cases i with
        | zero => simp [Nat.testBit_zero]
        | succ i => simp [Nat.testBit_succ]; congr 1; omega
      exact h3
    simpa using h1
theorem aug_small (W : List Bool) : ∀ (k : Nat) (s : UInt32), s.toNat < 2 ^ k → k + W.length ≤ 32 → (augB s W = 0 ↔ s = 0 ∧ ∀ b ∈ W, b = false) := by
  induction W with
  | nil => intro k s _ _; simp [augB]
  | cons b q ih =>
    intro k s hs hk
    rw [List.length_cons] at hk
    have hk31 : 2 ^ k ≤ 2 ^ 31 := Nat.pow_le_pow_right (by omega) (by omega)
    have hst := aug_step (s := s) b (by omega)
    have hlt : (crcB s ^^^ (if b then 1 else 0)).toNat < 2 ^ (k + 1) := by
      rw [hst, Nat.pow_succ]
      cases b <;> simp <;> omega
    show augB (crcB s ^^^ _) q = 0 ↔ _
    rw [ih (k + 1) _ hlt (by omega)]
    have hz : (crcB s ^^^ (if b then 1 else 0) = 0) ↔ s = 0 ∧ b = false := by
      constructor
      · intro h
        have h2 := congrArg UInt32.toNat h
        rw [hst] at h2
        simp at h2
        cases b
        · simp only [Bool.false_eq_true, if_false, Nat.add_zero] at h2
          exact ⟨UInt32.toNat_inj.1 (by simp; omega), rfl⟩
        · simp at h2
      · rintro ⟨rfl, rfl⟩; decide
    rw [hz]
    simp [and_assoc]
/-- All that is set lies in a window of 32. -/
theorem aug_window (D : List Bool) (a : Nat) (h : ∀ k, D[k]? = some true → a ≤ k ∧ k < a + 32) : augB 0 D = 0 ↔ ∀ b ∈ D, b = false := by
  have e : D = D.take a ++ ((D.drop a).take 32 ++ (D.drop a).drop 32) := by rw [List.take_append_drop, List.take_append_drop]
  have h1 : D.take a = List.replicate (D.take a).length false := by
    apply List.eq_replicate_of_mem
    intro b hb
    obtain ⟨i, hi, rfl⟩ := List.mem_iff_getElem.1 hb
    cases hv : (D.take a)[i] with
    | false => rfl
    | true =>
      have hia : i < a := by rw [List.length_take] at hi; omega
      have := h i (by rw [List.getElem_take] at hv; rw [List.getElem?_eq_getElem (by rw [List.length_take] at hi; omega), hv])
      omega
  have h2 : (D.drop a).drop 32 = List.replicate ((D.drop a).drop 32).length false := by
    apply List.eq_replicate_of_mem
    intro b hb
    obtain ⟨i, hi, rfl⟩ := List.mem_iff_getElem.1 hb
    cases hv : ((D.drop a).drop 32)[i] with
    | false => rfl
    | true =>
      have := h (a + (32 + i)) (by
        rw [← hv]
        rw [List.getElem_drop, List.getElem_drop, ← List.getElem?_eq_getElem])
      omega
  have hW := aug_small ((D.drop a).take 32) 0 0 (by decide) (by rw [List.length_take]; omega)
  have key : augB 0 D = crcN ((D.drop a).drop 32).length (augB 0 ((D.drop a).take 32)) := by
    conv => lhs; rw [e, augB_append, augB_append, h1, augB_zeros, crcN_zero, h2, augB_zeros]
  rw [key]
  constructor
  · intro hz
    have h3 := (hW.1 (crcN_inj0 _ hz)).2
    intro b hb
    rw [e] at hb
    rcases List.mem_append.1 hb with hb | hb
    · rw [h1] at hb; exact (List.mem_replicate.1 hb).2
    · rcases List.mem_append.1 hb with hb | hb
      · exact h3 b hb
      · rw [h2] at hb; exact (List.mem_replicate.1 hb).2
  · intro hall
    rw [hW.2 ⟨rfl, fun b hb => hall b (by rw [e]; exact List.mem_append_right _ (List.mem_append_left _ hb))⟩, crcN_zero]
end Go.Proofs.Ytoiojkjmldlhcaa
