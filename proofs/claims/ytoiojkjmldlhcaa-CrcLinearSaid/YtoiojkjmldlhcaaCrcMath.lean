/- Sums of 32 bits: the plain law. -/
import Derived.Test.YtoiojkjmldlhcaaU
set_option linter.unusedVariables false
set_option linter.unusedSimpArgs false
namespace Go.Proofs.Ytoiojkjmldlhcaa

def polyC : UInt32 := 79764919
/-- One bit on. -/
def crcB (r : UInt32) : UInt32 := (r <<< 1) ^^^ (if r >>> 31 = 1 then polyC else 0)
def crcN : Nat → UInt32 → UInt32
  | 0, r => r
  | n + 1, r => crcN n (crcB r)
theorem xor_swap (a b c d : UInt32) : (a ^^^ b) ^^^ (c ^^^ d) = (a ^^^ c) ^^^ (b ^^^ d) := by ac_rfl
theorem top_bit (a : UInt32) : a >>> 31 = 0 ∨ a >>> 31 = 1 := by
  have h : (a >>> 31).toNat < 2 := by
    rw [UInt32.toNat_shiftRight]
    have := a.toNat_lt
    simp [Nat.shiftRight_eq_div_pow]
    omega
  rcases (by omega : (a >>> 31).toNat = 0 ∨ (a >>> 31).toNat = 1) with h | h
  · left; exact UInt32.toNat_inj.1 h
  · right; exact UInt32.toNat_inj.1 h
theorem crcB_xor (a b : UInt32) : crcB (a ^^^ b) = crcB a ^^^ crcB b := by
  unfold crcB
  rw [UInt32.shiftLeft_xor, UInt32.shiftRight_xor, xor_swap]
  congr 1
  rcases top_bit a with ha | ha <;> rcases top_bit b with hb | hb <;> rw [ha, hb] <;> simp <;> decide
theorem crcB_zero : crcB 0 = 0 := by decide
theorem crcN_xor (n : Nat) : ∀ a b, crcN n (a ^^^ b) = crcN n a ^^^ crcN n b := by
  induction n with
  | zero => intro a b; rfl
  | succ n ih => intro a b; simp only [crcN, crcB_xor, ih]
theorem crcN_zero (n : Nat) : crcN n 0 = 0 := by
  induction n with
  | zero => rfl
  | succ n ih => simp only [crcN, crcB_zero, ih]
theorem crcN_add (n m : Nat) : ∀ a, crcN (n + m) a = crcN m (crcN n a) := by
  induction n with
  | zero => intro a; rw [Nat.zero_add]; rfl
  | succ n ih => intro a; rw [Nat.succ_add]; simp only [crcN, ih]
theorem crcN_comm (n m : Nat) (a : UInt32) : crcN n (crcN m a) = crcN m (crcN n a) := by rw [← crcN_add, ← crcN_add, Nat.add_comm]
theorem crcB_inj0 {a : UInt32} (h : crcB a = 0) : a = 0 := by
  unfold crcB at h
  rcases top_bit a with ha | ha
  · rw [ha] at h
    simp at h
    have h1 := congrArg UInt32.toNat h
    have h2 := congrArg UInt32.toNat ha
    rw [UInt32.toNat_shiftLeft] at h1
    rw [UInt32.toNat_shiftRight] at h2
    simp [Nat.shiftLeft_eq, Nat.shiftRight_eq_div_pow] at h1 h2
    apply UInt32.toNat_inj.1
    simp; omega
  · rw [if_pos ha] at h
    have h0 : a <<< 1 = polyC := by
      have := congrArg (· ^^^ polyC) h
      simpa [UInt32.xor_assoc] using this
    have h1 := congrArg UInt32.toNat h0
    rw [UInt32.toNat_shiftLeft] at h1
    simp [Nat.shiftLeft_eq, polyC] at h1
    omega
theorem crcN_inj0 (n : Nat) : ∀ {a : UInt32}, crcN n a = 0 → a = 0 := by
  induction n with
  | zero => intro a h; exact h
  | succ n ih => intro a h; exact crcB_inj0 (ih h)
theorem xor_eq0 {a b : UInt32} : a ^^^ b = 0 ↔ a = b := by simp
theorem crcN_inj (n : Nat) {a b : UInt32} : crcN n a = crcN n b ↔ a = b :=
  ⟨fun h => by rw [← xor_eq0, ← crcN_xor] at h; exact xor_eq0.1 (crcN_inj0 n h), fun h => by rw [h]⟩

/-! ### Bytes -/
def tblC (x : UInt8) : UInt32 := crcN 8 (x.toUInt32 <<< 24)
def stepC (r : UInt32) (x : UInt8) : UInt32 := (r <<< 8) ^^^ tblC ((r >>> 24).toUInt8 ^^^ x)
theorem crcB_small {r : UInt32} (h : r.toNat < 2147483648) : crcB r = r <<< 1 ∧ (r <<< 1).toNat = 2 * r.toNat := by
  have h0 : r >>> 31 = 0 := by
    apply UInt32.toNat_inj.1
    rw [UInt32.toNat_shiftRight]
    simp [Nat.shiftRight_eq_div_pow]; omega
  refine ⟨by unfold crcB; rw [h0]; simp, ?_⟩
  rw [UInt32.toNat_shiftLeft]; simp [Nat.shiftLeft_eq]; omega
theorem crcN_small (n : Nat) : ∀ {r : UInt32}, r.toNat * 2 ^ n < 4294967296 → (crcN n r).toNat = r.toNat * 2 ^ n := by
  induction n with
  | zero => intro r _; simp [crcN]
  | succ n ih =>
    intro r h
    have hp : 0 < 2 ^ n := Nat.pow_pos (by omega)
    have h1 : r.toNat < 2147483648 := by
      rw [Nat.pow_succ] at h
      have : r.toNat * 2 ≤ r.toNat * (2 ^ n * 2) := Nat.mul_le_mul_left _ (by omega)
      omega
    obtain ⟨e1, e2⟩ := crcB_small h1
    show (crcN n (crcB r)).toNat = _
    have e3 : 2 * r.toNat * 2 ^ n = r.toNat * 2 ^ (n + 1) := by rw [Nat.pow_succ]; ac_rfl
    rw [e1, ih (by rw [e2, e3]; exact h), e2, e3]
theorem hi_lo (r : UInt32) : ((r >>> 24) <<< 24) >>> 24 = r >>> 24 ∧ ((r >>> 24) <<< 24) <<< 8 = 0 := by
  have hr := r.toNat_lt
  constructor
  · apply UInt32.toNat_inj.1
    simp [UInt32.toNat_shiftLeft, UInt32.toNat_shiftRight, Nat.shiftRight_eq_div_pow, Nat.shiftLeft_eq]; omega
  · apply UInt32.toNat_inj.1
    simp [UInt32.toNat_shiftLeft, UInt32.toNat_shiftRight, Nat.shiftRight_eq_div_pow, Nat.shiftLeft_eq]; omega
theorem crcN8_lo {lo : UInt32} (hll : lo.toNat < 16777216) : crcN 8 lo = lo <<< 8 := by
  apply UInt32.toNat_inj.1
  rw [crcN_small 8 (by omega), UInt32.toNat_shiftLeft]
  simp [Nat.shiftLeft_eq]; omega
theorem lo_lt {lo : UInt32} (hl0 : lo >>> 24 = 0) : lo.toNat < 16777216 := by
  have := congrArg UInt32.toNat hl0
  have h2 := lo.toNat_lt
  rw [UInt32.toNat_shiftRight] at this
  simp [Nat.shiftRight_eq_div_pow] at this
  omega
theorem hi_byte (r : UInt32) (x : UInt8) : ((r >>> 24).toUInt8 ^^^ x).toUInt32 = (r >>> 24) ^^^ x.toUInt32 := by
  have hr := r.toNat_lt
  apply UInt32.toNat_inj.1
  simp only [UInt8.toNat_toUInt32, UInt8.toNat_xor, UInt32.toNat_xor, UInt32.toNat_toUInt8]
  have : (r >>> 24).toNat < 256 := by
    rw [UInt32.toNat_shiftRight]
    simp [Nat.shiftRight_eq_div_pow]; omega
  rw [Nat.mod_eq_of_lt (by omega)]
theorem stepC_split {r hi lo : UInt32} (x : UInt32) (e : r = (hi <<< 24) ^^^ lo) (h2 : (hi <<< 24) <<< 8 = 0) (hll : lo.toNat < 16777216) : (r <<< 8) ^^^ crcN 8 ((hi ^^^ x) <<< 24) = crcN 8 (r ^^^ (x <<< 24)) := by
  have hl8 : r <<< 8 = lo <<< 8 := by rw [e, UInt32.shiftLeft_xor, h2, UInt32.zero_xor]
  rw [hl8, ← crcN8_lo hll, ← crcN_xor, e, UInt32.shiftLeft_xor]
  refine congrArg (crcN 8) ?_
  generalize hi <<< 24 = a
  generalize x <<< 24 = b
  ac_rfl
theorem stepC_eq (r : UInt32) (x : UInt8) : stepC r x = crcN 8 (r ^^^ (x.toUInt32 <<< 24)) := by
  obtain ⟨h1, h2⟩ := hi_lo r
  unfold stepC tblC
  rw [hi_byte]
  generalize hh : r >>> 24 = hi at h1 h2
  refine stepC_split (lo := r ^^^ (hi <<< 24)) x.toUInt32 ?_ h2 (lo_lt ?_)
  · rw [UInt32.xor_comm r, ← UInt32.xor_assoc, UInt32.xor_self, UInt32.zero_xor]
  · rw [UInt32.shiftRight_xor, hh, h1, UInt32.xor_self]

def crcF (r : UInt32) (xs : List UInt8) : UInt32 := xs.foldl stepC r
theorem crcF_append (r : UInt32) (xs ys : List UInt8) : crcF r (xs ++ ys) = crcF (crcF r xs) ys := by simp [crcF]
theorem crcF_snoc (r : UInt32) (xs : List UInt8) (x : UInt8) : crcF r (xs ++ [x]) = stepC (crcF r xs) x := by simp [crcF]
def crcS (xs : List UInt8) : UInt32 := ~~~ (crcF 4294967295 xs)

/-! ### Bit by bit -/
/-- With bits put in at the low end. -/
def augB (s : UInt32) (bs : List Bool) : UInt32 := bs.foldl (fun s b => crcB s ^^^ (if b then 1 else 0)) s
theorem augB_append (s : UInt32) (xs ys : List Bool) : augB s (xs ++ ys) = augB (augB s xs) ys := by simp [augB]
theorem augB_lin (bs : List Bool) : ∀ s, augB s bs = crcN bs.length s ^^^ augB 0 bs := by
  induction bs with
  | nil => intro s; simp [augB, crcN]
  | cons b r ih =>
    intro s
    show augB (crcB s ^^^ _) r = crcN r.length (crcB s) ^^^ augB (crcB 0 ^^^ _) r
    rw [ih (crcB s ^^^ _), ih (crcB 0 ^^^ _), crcB_zero, crcN_xor, crcN_xor, crcN_zero]
    simp [UInt32.xor_assoc]
/-- Bits put upon each other. -/
def xorB (xs ys : List Bool) : List Bool := List.zipWith xor xs ys
theorem augB_xor : ∀ (xs ys : List Bool) (s t : UInt32), xs.length = ys.length → augB (s ^^^ t) (xorB xs ys) = augB s xs ^^^ augB t ys := by
  intro xs
  induction xs with
  | nil => intro ys s t h; cases ys with
    | nil => rfl
    | cons y r => simp at h
  | cons x r ih =>
    intro ys s t h
    cases ys with
    | nil => simp at h
    | cons y q =>
      show augB (crcB (s ^^^ t) ^^^ _) (xorB r q) = augB (crcB s ^^^ _) r ^^^ augB (crcB t ^^^ _) q
      rw [← ih q _ _ (by simpa using h)]
      congr 1
      rw [crcB_xor, xor_swap]
      congr 1
      cases x <;> cases y <;> decide
theorem augB_zeros (n : Nat) : ∀ s, augB s (List.replicate n false) = crcN n s := by
  induction n with
  | zero => intro s; rfl
  | succ n ih =>
    intro s
    show augB (crcB s ^^^ _) (List.replicate n false) = crcN n (crcB s)
    rw [ih]; simp
/-- The bits of a byte, the highest first. -/
def bitsB (x : UInt8) : List Bool := [x.toNat / 128 % 2 == 1, x.toNat / 64 % 2 == 1, x.toNat / 32 % 2 == 1, x.toNat / 16 % 2 == 1, x.toNat / 8 % 2 == 1, x.toNat / 4 % 2 == 1, x.toNat / 2 % 2 == 1, x.toNat % 2 == 1]
theorem augB_byte (x : UInt8) : crcN 24 (augB 0 (bitsB x)) = x.toUInt32 <<< 24 := by
  have h : ∀ n : Fin 256, crcN 24 (augB 0 (bitsB (UInt8.ofNat n.1))) = (UInt8.ofNat n.1).toUInt32 <<< 24 := by decide +kernel
  have := h ⟨x.toNat, x.toNat_lt⟩
  simpa using this
theorem step_bits (r : UInt32) (x : UInt8) : stepC r x = crcN 8 r ^^^ crcN 32 (augB 0 (bitsB x)) := by
  rw [stepC_eq, ← augB_byte, crcN_xor, ← crcN_add]
def bitsL (xs : List UInt8) : List Bool := xs.flatMap bitsB
theorem bitsL_len (xs : List UInt8) : (bitsL xs).length = 8 * xs.length := by
  induction xs with
  | nil => rfl
  | cons x r ih => simp only [bitsL, List.flatMap_cons, List.length_append, List.length_cons] at ih ⊢; rw [ih]; simp [bitsB]; omega
theorem crcF_bits (xs : List UInt8) : ∀ r, crcF r xs = crcN (8 * xs.length) r ^^^ crcN 32 (augB 0 (bitsL xs)) := by
  induction xs with
  | nil =>
    intro r
    show r = r ^^^ crcN 32 0
    rw [crcN_zero, UInt32.xor_zero]
  | cons x q ih =>
    intro r
    show crcF (stepC r x) q = _
    have e : bitsL (x :: q) = bitsB x ++ bitsL q := rfl
    have l : (bitsL q).length = 8 * q.length := bitsL_len q
    have e1 : crcN (8 * q.length) (stepC r x) = crcN (8 * (x :: q).length) r ^^^ crcN 32 (crcN (8 * q.length) (augB 0 (bitsB x))) := by
      rw [step_bits, crcN_xor, ← crcN_add, crcN_comm 32, List.length_cons, show 8 + 8 * q.length = 8 * (q.length + 1) by omega]
    have e2 : augB 0 (bitsL (x :: q)) = crcN (8 * q.length) (augB 0 (bitsB x)) ^^^ augB 0 (bitsL q) := by
      rw [e, augB_append, augB_lin (bitsL q), l]
    rw [ih, e1, e2, crcN_xor 32, UInt32.xor_assoc]

theorem len_xorB (xs ys : List Bool) (h : xs.length = ys.length) : (xorB xs ys).length = xs.length := by simp [xorB, h]
/-- The document's stream: 32 noughts behind, the first 32 turned. -/
def streamB (xs : List UInt8) : List Bool := xorB (bitsL xs ++ List.replicate 32 false) (List.replicate 32 true ++ List.replicate (8 * xs.length) false)
theorem ones32 : augB 0 (List.replicate 32 true) = 4294967295 := by decide +kernel
theorem stream_eq (xs : List UInt8) : augB 0 (streamB xs) = crcF 4294967295 xs := by
  have hl : (bitsL xs ++ List.replicate 32 false).length = (List.replicate 32 true ++ List.replicate (8 * xs.length) false).length := by
    rw [List.length_append, List.length_append, List.length_replicate, List.length_replicate, List.length_replicate, bitsL_len, Nat.add_comm]
  have h := augB_xor _ _ 0 0 hl
  rw [UInt32.xor_self] at h
  have h1 : augB 0 (bitsL xs ++ List.replicate 32 false) = crcN 32 (augB 0 (bitsL xs)) := by rw [augB_append, augB_zeros]
  have h2 : augB 0 (List.replicate 32 true ++ List.replicate (8 * xs.length) false) = crcN (8 * xs.length) 4294967295 := by rw [augB_append, augB_zeros, ones32]
  rw [h1, h2] at h
  rw [crcF_bits, UInt32.xor_comm]
  exact h

theorem crcF_diff (r : UInt32) (xs ys : List UInt8) (hl : xs.length = ys.length) : crcF r xs ^^^ crcF r ys = crcN 32 (augB 0 (xorB (bitsL xs) (bitsL ys))) := by
  have h := augB_xor (bitsL xs) (bitsL ys) 0 0 (by rw [bitsL_len, bitsL_len, hl])
  rw [UInt32.xor_self] at h
  rw [crcF_bits, crcF_bits, h, crcN_xor, xor_swap, hl, UInt32.xor_self, UInt32.zero_xor]

theorem aug_step {s : UInt32} (b : Bool) (h : s.toNat < 2147483648) : (crcB s ^^^ (if b then 1 else 0)).toNat = 2 * s.toNat + (if b then 1 else 0) := by
  obtain ⟨e1, e2⟩ := crcB_small h
  rw [e1, UInt32.toNat_xor, e2]
  cases b
  · simp
  · have h1 : (2 * s.toNat) ^^^ 1 = 2 * s.toNat + 1 := by
      rw [Nat.mul_comm]
      have := Nat.two_pow_add_eq_or_of_lt (i := 1) (a := s.toNat) (b := 1) (by omega)
      have h3 : (s.toNat * 2) ^^^ 1 = s.toNat * 2 + 1 := by
        apply Nat.eq_of_testBit_eq
        intro i
        rw [Nat.testBit_xor]
        cases i with
        | zero => simp [Nat.testBit_zero]
        | succ i => simp [Nat.testBit_succ]; congr 1; omega
      exact h3
    simpa using h1
theorem aug_small (W : List Bool) : ∀ (k : Nat) (s : UInt32), s.toNat < 2 ^ k → k + W.length ≤ 32 → (augB s W = 0 ↔ s = 0 ∧ ∀ b ∈ W, b = false) := by
  induction W with
  | nil => intro k s _ _; simp [augB]
  | cons b q ih =>
    intro k s hs hk
    rw [List.length_cons] at hk
    have hk31 : 2 ^ k ≤ 2 ^ 31 := Nat.pow_le_pow_right (by omega) (by omega)
    have hst := aug_step (s := s) b (by omega)
    have hlt : (crcB s ^^^ (if b then 1 else 0)).toNat < 2 ^ (k + 1) := by
      rw [hst, Nat.pow_succ]
      cases b <;> simp <;> omega
    show augB (crcB s ^^^ _) q = 0 ↔ _
    rw [ih (k + 1) _ hlt (by omega)]
    have hz : (crcB s ^^^ (if b then 1 else 0) = 0) ↔ s = 0 ∧ b = false := by
      constructor
      · intro h
        have h2 := congrArg UInt32.toNat h
        rw [hst] at h2
        simp at h2
        cases b
        · simp only [Bool.false_eq_true, if_false, Nat.add_zero] at h2
          exact ⟨UInt32.toNat_inj.1 (by simp; omega), rfl⟩
        · simp at h2
      · rintro ⟨rfl, rfl⟩; decide
    rw [hz]
    simp [and_assoc]
/-- All that is set lies in a window of 32. -/
theorem aug_window (D : List Bool) (a : Nat) (h : ∀ k, D[k]? = some true → a ≤ k ∧ k < a + 32) : augB 0 D = 0 ↔ ∀ b ∈ D, b = false := by
  have e : D = D.take a ++ ((D.drop a).take 32 ++ (D.drop a).drop 32) := by rw [List.take_append_drop, List.take_append_drop]
  have h1 : D.take a = List.replicate (D.take a).length false := by
    apply List.eq_replicate_of_mem
    intro b hb
    obtain ⟨i, hi, rfl⟩ := List.mem_iff_getElem.1 hb
    cases hv : (D.take a)[i] with
    | false => rfl
    | true =>
      have hia : i < a := by rw [List.length_take] at hi; omega
      have := h i (by rw [List.getElem_take] at hv; rw [List.getElem?_eq_getElem (by rw [List.length_take] at hi; omega), hv])
      omega
  have h2 : (D.drop a).drop 32 = List.replicate ((D.drop a).drop 32).length false := by
    apply List.eq_replicate_of_mem
    intro b hb
    obtain ⟨i, hi, rfl⟩ := List.mem_iff_getElem.1 hb
    cases hv : ((D.drop a).drop 32)[i] with
    | false => rfl
    | true =>
      have := h (a + (32 + i)) (by
        rw [← hv]
        rw [List.getElem_drop, List.getElem_drop, ← List.getElem?_eq_getElem])
      omega
  have hW := aug_small ((D.drop a).take 32) 0 0 (by decide) (by rw [List.length_take]; omega)
  have key : augB 0 D = crcN ((D.drop a).drop 32).length (augB 0 ((D.drop a).take 32)) := by
    conv => lhs; rw [e, augB_append, augB_append, h1, augB_zeros, crcN_zero, h2, augB_zeros]
  rw [key]
  constructor
  · intro hz
    have h3 := (hW.1 (crcN_inj0 _ hz)).2
    intro b hb
    rw [e] at hb
    rcases List.mem_append.1 hb with hb | hb
    · rw [h1] at hb; exact (List.mem_replicate.1 hb).2
    · rcases List.mem_append.1 hb with hb | hb
      · exact h3 b hb
      · rw [h2] at hb; exact (List.mem_replicate.1 hb).2
  · intro hall
    rw [hW.2 ⟨rfl, fun b hb => hall b (by rw [e]; exact List.mem_append_right _ (List.mem_append_left _ hb))⟩, crcN_zero]

/-! ### A sum behind bytes -/
def be4 (s : UInt32) : List UInt8 := [(s >>> 24).toUInt8, (s >>> 16).toUInt8, (s >>> 8).toUInt8, s.toUInt8]
def sealL (b : List UInt8) : List UInt8 := b ++ be4 (crcS b)
theorem xor_add (a b k : Nat) (hb : b < 2 ^ k) : (2 ^ k * a) ^^^ b = 2 ^ k * a + b := by
  apply Nat.eq_of_testBit_eq
  intro i
  rw [Nat.testBit_xor, Nat.testBit_two_pow_mul_add a hb, Nat.testBit_two_pow_mul]
  by_cases h : i < k
  · rw [if_pos h]
    have : ¬ k ≤ i := by omega
    simp [this]
  · rw [if_neg h]
    have h1 : b.testBit i = false := Nat.testBit_lt_two_pow (Nat.lt_of_lt_of_le hb (Nat.pow_le_pow_right (by omega) (by omega)))
    have h2 : k ≤ i := by omega
    simp [h1, h2]
theorem low_byte (v : UInt32) : v = ((v >>> 8) <<< 8) ^^^ v.toUInt8.toUInt32 := by
  have hv := v.toNat_lt
  apply UInt32.toNat_inj.1
  rw [UInt32.toNat_xor, UInt32.toNat_shiftLeft, UInt32.toNat_shiftRight]
  simp only [UInt8.toNat_toUInt32, UInt32.toNat_toUInt8, Nat.shiftRight_eq_div_pow, Nat.shiftLeft_eq]
  have e1 : v.toNat / 2 ^ (UInt32.toNat 8 % 32) * 2 ^ (UInt32.toNat 8 % 32) % 2 ^ 32 = 2 ^ 8 * (v.toNat / 256) := by
    simp; omega
  rw [e1, xor_add _ _ 8 (Nat.mod_lt _ (by decide))]
  omega
theorem crcN_shift {x : UInt32} {n : Nat} (k : UInt32) (hk : k.toNat = n) (hn : n < 32) (h : x.toNat * 2 ^ n < 4294967296) : crcN n x = x <<< k := by
  apply UInt32.toNat_inj.1
  rw [crcN_small n h, UInt32.toNat_shiftLeft, hk, Nat.mod_eq_of_lt hn, Nat.shiftLeft_eq, Nat.mod_eq_of_lt h]
theorem shr_add (v : UInt32) : (v >>> 8) >>> 8 = v >>> 16 ∧ (v >>> 16) >>> 8 = v >>> 24 := by
  constructor <;> apply UInt32.toNat_inj.1 <;> simp [UInt32.toNat_shiftRight, Nat.shiftRight_eq_div_pow, Nat.div_div_eq_div_mul]
theorem byte_up (u : UInt32) : crcN 8 (u.toUInt8.toUInt32 <<< 24) = crcN 32 u.toUInt8.toUInt32 := by
  have e2 : crcN 24 u.toUInt8.toUInt32 = u.toUInt8.toUInt32 <<< 24 := crcN_shift 24 rfl (by decide) (by have := u.toUInt8.toNat_lt; simp only [UInt8.toNat_toUInt32]; omega)
  rw [← e2, ← crcN_add 24 8]
theorem crcN8_split (A u : UInt32) : crcN 8 ((A ^^^ crcN 32 (u >>> 8)) ^^^ (u.toUInt8.toUInt32 <<< 24)) = crcN 8 A ^^^ crcN 32 u := by
  have e1 : crcN 8 (u >>> 8) = (u >>> 8) <<< 8 := crcN_shift 8 rfl (by decide) (by rw [UInt32.toNat_shiftRight]; have := u.toNat_lt; simp [Nat.shiftRight_eq_div_pow]; omega)
  have e3 : crcN 32 u = crcN 32 ((u >>> 8) <<< 8) ^^^ crcN 32 u.toUInt8.toUInt32 := by rw [← crcN_xor]; exact congrArg (crcN 32) (low_byte u)
  rw [crcN_xor 8, crcN_xor 8, byte_up, crcN_comm 8 32, e1, e3, UInt32.xor_assoc]
theorem be4_crc (r v : UInt32) : crcF r (be4 v) = crcN 32 (r ^^^ v) := by
  obtain ⟨h1, h2⟩ := shr_add v
  have hv : (v >>> 24).toUInt8.toUInt32 = v >>> 24 := by
    have := v.toNat_lt
    apply UInt32.toNat_inj.1
    simp only [UInt8.toNat_toUInt32, UInt32.toNat_toUInt8, UInt32.toNat_shiftRight, Nat.shiftRight_eq_div_pow]
    simp; omega
  have s1 : stepC r (v >>> 24).toUInt8 = crcN 8 r ^^^ crcN 32 (v >>> 24) := by rw [stepC_eq, crcN_xor, byte_up, hv]
  have s2 : stepC (stepC r (v >>> 24).toUInt8) (v >>> 16).toUInt8 = crcN 8 (crcN 8 r) ^^^ crcN 32 (v >>> 16) := by
    rw [stepC_eq, s1, ← h2, crcN8_split]
  have s3 : stepC (stepC (stepC r (v >>> 24).toUInt8) (v >>> 16).toUInt8) (v >>> 8).toUInt8 = crcN 8 (crcN 8 (crcN 8 r)) ^^^ crcN 32 (v >>> 8) := by
    rw [stepC_eq, s2, ← h1, crcN8_split]
  have s4 : stepC (stepC (stepC (stepC r (v >>> 24).toUInt8) (v >>> 16).toUInt8) (v >>> 8).toUInt8) v.toUInt8 = crcN 8 (crcN 8 (crcN 8 (crcN 8 r))) ^^^ crcN 32 v := by
    rw [stepC_eq, s3, crcN8_split]
  show stepC (stepC (stepC (stepC r (v >>> 24).toUInt8) (v >>> 16).toUInt8) (v >>> 8).toUInt8) v.toUInt8 = _
  rw [s4, crcN_xor, ← crcN_add, ← crcN_add, ← crcN_add]
def sealC : UInt32 := crcN 32 4294967295
theorem ones_xor (r : UInt32) : (4294967295 : UInt32) ^^^ r = ~~~ r := by
  apply UInt32.eq_of_toBitVec_eq
  rw [UInt32.toBitVec_xor, UInt32.toBitVec_not, show (4294967295 : UInt32).toBitVec = BitVec.allOnes 32 by decide, BitVec.allOnes_xor]
theorem not_not_xor (r : UInt32) : r ^^^ ~~~ r = 4294967295 := by
  rw [← ones_xor, UInt32.xor_comm 4294967295 r, ← UInt32.xor_assoc, UInt32.xor_self, UInt32.zero_xor]
theorem seal_crc (b : List UInt8) : crcF 4294967295 (sealL b) = sealC := by
  unfold sealL sealC crcS
  rw [crcF_append, be4_crc, not_not_xor]
def rightB (xs : List UInt8) : Bool := decide (4 ≤ xs.length) && (sealL (xs.take (xs.length - 4)) == xs)
theorem be4_inj {a b : UInt32} (h : be4 a = be4 b) : a = b := by
  have h1 := be4_crc 0 a
  rw [h, be4_crc, UInt32.zero_xor, UInt32.zero_xor] at h1
  exact ((crcN_inj 32).1 h1).symm
theorem be4_of (xs : List UInt8) (h : xs.length = 4) : ∃ v, xs = be4 v := by
  match xs, h with
  | [a, b, c, d], _ =>
    have key : ∀ (u : UInt32) (x : UInt8), u.toNat < 16777216 → ((u <<< 8) ^^^ x.toUInt32).toUInt8 = x ∧ ((u <<< 8) ^^^ x.toUInt32) >>> 8 = u := by
      intro u x hu
      have hx : x.toNat < 256 := x.toNat_lt
      have hn : ((u <<< 8) ^^^ x.toUInt32).toNat = 2 ^ 8 * u.toNat + x.toNat := by
        rw [UInt32.toNat_xor, UInt32.toNat_shiftLeft, UInt8.toNat_toUInt32, ← xor_add _ _ 8 hx]
        congr 1
        simp [Nat.shiftLeft_eq]; omega
      constructor
      · apply UInt8.toNat_inj.1
        rw [UInt32.toNat_toUInt8, hn]; omega
      · apply UInt32.toNat_inj.1
        rw [UInt32.toNat_shiftRight, hn]
        simp [Nat.shiftRight_eq_div_pow]; omega
    have lim : ∀ (u : UInt32) (x : UInt8) (k : Nat), u.toNat < 2 ^ k → k ≤ 24 → ((u <<< 8) ^^^ x.toUInt32).toNat < 2 ^ (k + 8) := by
      intro u x k hu hk
      have hx : x.toNat < 256 := x.toNat_lt
      have hk' : 2 ^ k ≤ 2 ^ 24 := Nat.pow_le_pow_right (by omega) hk
      have hn : ((u <<< 8) ^^^ x.toUInt32).toNat = 2 ^ 8 * u.toNat + x.toNat := by
        rw [UInt32.toNat_xor, UInt32.toNat_shiftLeft, UInt8.toNat_toUInt32, ← xor_add _ _ 8 hx]
        congr 1
        simp [Nat.shiftLeft_eq]; omega
      rw [hn, Nat.pow_add]; omega
    have la : a.toUInt32.toNat < 2 ^ 8 := by rw [UInt8.toNat_toUInt32]; exact a.toNat_lt
    have lab := lim _ b 8 la (by omega)
    have labc := lim _ c 16 lab (by omega)
    obtain ⟨k1, k2⟩ := key _ d labc
    obtain ⟨k3, k4⟩ := key _ c (Nat.lt_trans lab (by decide))
    obtain ⟨k5, k6⟩ := key _ b (Nat.lt_trans la (by decide))
    refine ⟨(((a.toUInt32 <<< 8 ^^^ b.toUInt32) <<< 8 ^^^ c.toUInt32) <<< 8) ^^^ d.toUInt32, ?_⟩
    obtain ⟨h1, h2⟩ := shr_add ((((a.toUInt32 <<< 8 ^^^ b.toUInt32) <<< 8 ^^^ c.toUInt32) <<< 8) ^^^ d.toUInt32)
    unfold be4
    rw [← h2, ← h1, k2, k4, k6, k1, k3, k5]
    have : a.toUInt32.toUInt8 = a := by apply UInt8.toNat_inj.1; simp
    rw [this]
/-- Right: just where the sum of all is the one number. -/
theorem right_iff (xs : List UInt8) (h4 : 4 ≤ xs.length) : rightB xs = true ↔ crcF 4294967295 xs = sealC := by
  unfold rightB
  simp only [Bool.and_eq_true, decide_eq_true_eq, beq_iff_eq]
  constructor
  · rintro ⟨_, h⟩
    rw [← h, seal_crc]
  · intro h
    refine ⟨h4, ?_⟩
    have e : xs = xs.take (xs.length - 4) ++ xs.drop (xs.length - 4) := (List.take_append_drop _ _).symm
    obtain ⟨v, hv⟩ := be4_of (xs.drop (xs.length - 4)) (by rw [List.length_drop]; omega)
    rw [hv] at e
    have h1 := h
    rw [e, crcF_append, be4_crc] at h1
    have h2 := (crcN_inj 32).1 h1
    have h3 : v = crcS (xs.take (xs.length - 4)) := by
      unfold crcS
      generalize crcF 4294967295 (xs.take (xs.length - 4)) = r at h2 ⊢
      have h5 : r ^^^ v = r ^^^ ~~~ r := by rw [h2, not_not_xor]
      have := congrArg (r ^^^ ·) h5
      simpa [← UInt32.xor_assoc] using this
    unfold sealL
    rw [← h3]
    exact e.symm

/-! ### Bits that are turned -/
def flipBit (xs : List UInt8) (k : Nat) : List UInt8 := xs.set (k / 8) (xs.getD (k / 8) 0 ^^^ (128 >>> UInt8.ofNat (k % 8)))
theorem flipBit_len (xs : List UInt8) (k : Nat) : (flipBit xs k).length = xs.length := by simp [flipBit]
/-- i bits of the mask are done. -/
def burst (mask : UInt32) (first : Nat) : Nat → List UInt8 → List UInt8
  | 0, xs => xs
  | i + 1, xs => if mask.toNat.testBit i && decide (first + i < 8 * xs.length) then flipBit (burst mask first i xs) (first + i) else burst mask first i xs
theorem burst_len (mask : UInt32) (first i : Nat) (xs : List UInt8) : (burst mask first i xs).length = xs.length := by
  induction i with
  | zero => rfl
  | succ i ih =>
    unfold burst
    split
    · rw [flipBit_len, ih]
    · exact ih
theorem bitsL_get (xs : List UInt8) : ∀ (i j : Nat), j < 8 → (bitsL xs)[8 * i + j]? = (xs[i]?).bind fun x => (bitsB x)[j]? := by
  induction xs with
  | nil => intro i j _; rfl
  | cons x r ih =>
    intro i j hj
    have e : bitsL (x :: r) = bitsB x ++ bitsL r := rfl
    have hb : (bitsB x).length = 8 := rfl
    cases i with
    | zero =>
      rw [e, Nat.mul_zero, Nat.zero_add, List.getElem?_append_left (by rw [hb]; exact hj)]; rfl
    | succ i =>
      rw [e, List.getElem?_append_right (by rw [hb]; omega), hb, show 8 * (i + 1) + j - 8 = 8 * i + j by omega, ih i j hj]; rfl
theorem flip_byte (x : UInt8) (k j : Nat) (hk : k < 8) (hj : j < 8) : (bitsB (x ^^^ (128 >>> UInt8.ofNat k)))[j]? = ((bitsB x)[j]?).map fun b => xor b (j == k) := by
  have h : ∀ (n : Fin 256) (k j : Fin 8), (bitsB (UInt8.ofNat n.1 ^^^ (128 >>> UInt8.ofNat k.1)))[j.1]? = ((bitsB (UInt8.ofNat n.1))[j.1]?).map fun b => xor b (j.1 == k.1) := by decide +kernel
  have := h ⟨x.toNat, x.toNat_lt⟩ ⟨k, hk⟩ ⟨j, hj⟩
  simpa using this
theorem flip_get (xs : List UInt8) (k q : Nat) (hk : k < 8 * xs.length) : (bitsL (flipBit xs k))[q]? = ((bitsL xs)[q]?).map fun b => xor b (q == k) := by
  have hq : q = 8 * (q / 8) + q % 8 := by omega
  rw [hq, bitsL_get _ _ _ (by omega), bitsL_get _ _ _ (by omega)]
  unfold flipBit
  rw [List.getElem?_set]
  by_cases h : k / 8 = q / 8
  · rw [if_pos h, if_pos (by omega)]
    have hl : q / 8 < xs.length := by omega
    have hx : xs.getD (k / 8) 0 = xs[q / 8] := by
      rw [h, List.getD_eq_getElem?_getD, List.getElem?_eq_getElem hl]; rfl
    rw [hx, List.getElem?_eq_getElem hl]
    show (bitsB _)[q % 8]? = ((bitsB xs[q / 8])[q % 8]?).map _
    rw [flip_byte _ _ _ (by omega) (by omega)]
    congr 1
    funext b
    congr 1
    rw [Bool.eq_iff_iff, beq_iff_eq, beq_iff_eq]
    omega
  · rw [if_neg h]
    cases hx : xs[q / 8]? with
    | none => rfl
    | some x =>
      show (bitsB x)[q % 8]? = ((bitsB x)[q % 8]?).map _
      have : (8 * (q / 8) + q % 8 == k) = false := by
        rw [beq_eq_false_iff_ne]; omega
      rw [this]
      simp
/-- Is bit q turned by the first i of the mask? -/
def turned (mask : UInt32) (first i n q : Nat) : Bool := decide (first ≤ q) && decide (q < first + i) && decide (q < 8 * n) && mask.toNat.testBit (q - first)
theorem burst_get (mask : UInt32) (first i : Nat) (xs : List UInt8) (q : Nat) : (bitsL (burst mask first i xs))[q]? = ((bitsL xs)[q]?).map fun b => xor b (turned mask first i xs.length q) := by
  induction i with
  | zero =>
    have : turned mask first 0 xs.length q = false := by
      unfold turned
      rw [Bool.and_eq_false_iff, Bool.and_eq_false_iff, Bool.and_eq_false_iff, decide_eq_false_iff_not, decide_eq_false_iff_not]
      left; left
      by_cases h : first ≤ q
      · right; omega
      · left; exact h
    rw [this]
    show (bitsL xs)[q]? = _
    simp
  | succ i ih =>
    unfold burst
    by_cases hc : (mask.toNat.testBit i && decide (first + i < 8 * xs.length)) = true
    · rw [if_pos hc, flip_get _ _ _ (by rw [burst_len]; simp at hc; exact hc.2), ih, Option.map_map]
      congr 1
      funext b
      show xor (xor b _) _ = xor b _
      rw [Bool.xor_assoc]
      congr 1
      simp only [Bool.and_eq_true, decide_eq_true_eq] at hc
      by_cases hq : q = first + i
      · subst hq
        unfold turned
        simp [hc.1, hc.2]
      · have e1 : (q == first + i) = false := by rw [beq_eq_false_iff_ne]; exact hq
        rw [e1, Bool.xor_false]
        unfold turned
        have : decide (q < first + (i + 1)) = decide (q < first + i) := by
          rw [Bool.eq_iff_iff, decide_eq_true_eq, decide_eq_true_eq]; omega
        rw [this]
    · rw [if_neg hc, ih]
      congr 1
      funext b
      congr 1
      by_cases hq : q = first + i
      · subst hq
        unfold turned
        have h1 : mask.toNat.testBit i = false ∨ ¬ first + i < 8 * xs.length := by
          rcases hb : mask.toNat.testBit i with _ | _
          · exact .inl rfl
          · right; intro h2; exact hc (by rw [hb]; simpa using h2)
        rcases h1 with h1 | h1
        · simp [h1]
        · simp [h1]
      · unfold turned
        have : decide (q < first + (i + 1)) = decide (q < first + i) := by
          rw [Bool.eq_iff_iff, decide_eq_true_eq, decide_eq_true_eq]; omega
        rw [this]
theorem bitsB_inj {x y : UInt8} (h : bitsB x = bitsB y) : x = y := by
  have h1 := augB_byte x
  rw [h, augB_byte] at h1
  have h2 := congrArg UInt32.toNat h1
  apply UInt8.toNat_inj.1
  have hx := x.toNat_lt
  have hy := y.toNat_lt
  simp only [UInt32.toNat_shiftLeft, UInt8.toNat_toUInt32, Nat.shiftLeft_eq] at h2
  simp at h2
  omega
theorem bitsL_inj : ∀ {xs ys : List UInt8}, bitsL xs = bitsL ys → xs = ys := by
  intro xs
  induction xs with
  | nil =>
    intro ys h
    have := congrArg List.length h
    rw [bitsL_len, bitsL_len] at this
    exact (List.eq_nil_of_length_eq_zero (by simp only [List.length_nil] at this; omega)).symm
  | cons x r ih =>
    intro ys h
    cases ys with
    | nil =>
      have := congrArg List.length h
      rw [bitsL_len, bitsL_len] at this
      simp at this
    | cons y q =>
      have h1 : bitsB x ++ bitsL r = bitsB y ++ bitsL q := h
      obtain ⟨e1, e2⟩ := List.append_inj h1 rfl
      rw [bitsB_inj e1, ih e2]
/-- Bits that are turned within 32 in a row turn the sum, unless none is. -/
theorem burst_iff (r mask : UInt32) (first : Nat) (xs : List UInt8) : crcF r (burst mask first 32 xs) = crcF r xs ↔ burst mask first 32 xs = xs := by
  refine ⟨fun h => ?_, fun h => by rw [h]⟩
  have hl := burst_len mask first 32 xs
  have hd := crcF_diff r (burst mask first 32 xs) xs hl
  rw [h, UInt32.xor_self] at hd
  have hz := crcN_inj0 32 hd.symm
  have hget : ∀ q, (xorB (bitsL (burst mask first 32 xs)) (bitsL xs))[q]? = if q < 8 * xs.length then some (turned mask first 32 xs.length q) else none := by
    intro q
    unfold xorB
    rw [List.getElem?_zipWith, burst_get]
    by_cases hq : q < 8 * xs.length
    · rw [if_pos hq]
      have : q < (bitsL xs).length := by rw [bitsL_len]; exact hq
      rw [List.getElem?_eq_getElem this]
      simp only [Option.map_some]
      cases (bitsL xs)[q] <;> cases turned mask first 32 xs.length q <;> rfl
    · rw [if_neg hq]
      have : (bitsL xs)[q]? = none := List.getElem?_eq_none (by rw [bitsL_len]; omega)
      rw [this]; rfl
  have hall := (aug_window _ first (fun k hk => by
    rw [hget k] at hk
    split at hk
    · injection hk with hk
      unfold turned at hk
      simp only [Bool.and_eq_true, decide_eq_true_eq] at hk
      exact ⟨hk.1.1.1, hk.1.1.2⟩
    · cases hk)).1 hz
  apply bitsL_inj
  apply List.ext_getElem?
  intro q
  rw [burst_get]
  by_cases hq : q < 8 * xs.length
  · have h1 := hget q
    rw [if_pos hq] at h1
    have h2 := hall _ (List.mem_of_getElem? h1)
    rw [h2]; simp
  · have : (bitsL xs)[q]? = none := List.getElem?_eq_none (by rw [bitsL_len]; omega)
    rw [this]; rfl
/-- Three rows put upon each other. -/
def xor3 (a b c : List UInt8) : List UInt8 := List.zipWith (· ^^^ ·) (List.zipWith (· ^^^ ·) a b) c
theorem step_xor (r s t : UInt32) (x y z : UInt8) : stepC (r ^^^ s ^^^ t) (x ^^^ y ^^^ z) = stepC r x ^^^ stepC s y ^^^ stepC t z := by
  rw [stepC_eq, stepC_eq, stepC_eq, stepC_eq, ← crcN_xor, ← crcN_xor]
  refine congrArg (crcN 8) ?_
  have e : (x ^^^ y ^^^ z).toUInt32 <<< 24 = (x.toUInt32 <<< 24) ^^^ (y.toUInt32 <<< 24) ^^^ (z.toUInt32 <<< 24) := by
    rw [← UInt32.shiftLeft_xor, ← UInt32.shiftLeft_xor]
    refine congrArg (fun (v : UInt32) => v <<< 24) ?_
    apply UInt32.toNat_inj.1
    simp only [UInt8.toNat_toUInt32, UInt8.toNat_xor, UInt32.toNat_xor]
  rw [e]
  generalize x.toUInt32 <<< 24 = a; generalize y.toUInt32 <<< 24 = b; generalize z.toUInt32 <<< 24 = c
  ac_rfl
theorem crcF_xor3 : ∀ (a b c : List UInt8) (r s t : UInt32), a.length = b.length → b.length = c.length → crcF (r ^^^ s ^^^ t) (xor3 a b c) = crcF r a ^^^ crcF s b ^^^ crcF t c := by
  intro a
  induction a with
  | nil =>
    intro b c r s t h1 h2
    obtain rfl : b = [] := List.eq_nil_of_length_eq_zero h1.symm
    obtain rfl : c = [] := List.eq_nil_of_length_eq_zero (by simpa using h2.symm)
    rfl
  | cons x a ih =>
    intro b c r s t h1 h2
    match b, c, h1, h2 with
    | y :: b, z :: c, h1, h2 =>
      show crcF (stepC (r ^^^ s ^^^ t) (x ^^^ y ^^^ z)) (xor3 a b c) = crcF (stepC r x) a ^^^ crcF (stepC s y) b ^^^ crcF (stepC t z) c
      rw [step_xor, ih b c _ _ _ (by simpa using h1) (by simpa using h2)]
theorem crcS_xor3 (a b c : List UInt8) (h1 : a.length = b.length) (h2 : b.length = c.length) : crcS (xor3 a b c) = crcS a ^^^ crcS b ^^^ crcS c := by
  have h := crcF_xor3 a b c 4294967295 4294967295 4294967295 h1 h2
  rw [show (4294967295 : UInt32) ^^^ 4294967295 ^^^ 4294967295 = 4294967295 by decide] at h
  unfold crcS
  rw [h, ← ones_xor, ← ones_xor, ← ones_xor, ← ones_xor]
  generalize crcF 4294967295 a = x; generalize crcF 4294967295 b = y; generalize crcF 4294967295 c = z
  have e : (4294967295 : UInt32) ^^^ x ^^^ (4294967295 ^^^ y) ^^^ (4294967295 ^^^ z) = ((4294967295 ^^^ 4294967295) ^^^ 4294967295) ^^^ (x ^^^ y ^^^ z) := by ac_rfl
  rw [e, UInt32.xor_self, UInt32.zero_xor]
end Go.Proofs.Ytoiojkjmldlhcaa
