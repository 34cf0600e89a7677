/- The wire functions, walked. -/
import Derived.Test.YtoiojkjmldlhcaaCh
set_option linter.unusedVariables false
set_option linter.unusedSimpArgs false
namespace Go.Proofs.Ytoiojkjmldlhcaa
open Go.RowKit

theorem infoB : (Try.prog.info? 5).map (fun i => (i.zero, i.size, i.bytes)) = some (some (.int .u8 0), 1, 1) := by kernel_rfl
/-- The last k bytes of a number. -/
def putL (n : Nat) : Nat → List UInt8
  | 0 => []
  | k + 1 => UInt8.ofNat (n / 256 ^ k) :: putL n k
theorem putL_len (n k : Nat) : (putL n k).length = k := by induction k with
  | zero => rfl
  | succ k ih => simp [putL, ih]
def fitsN (n : Nat) (s : Int) : Bool := decide (1 ≤ s) && decide (s ≤ 8) && decide (n < 256 ^ s.toNat)

/-- A writer (or reader) at block g. -/
structure Wri (t : TypeId) (w : World) (g : Nat) (v : Value) (bs : List UInt8) : Prop where
  head : w.heap[g]? = some (.cells #[v] t (0, 0))
  row : Row w 5 v (bs.map encB)
  ne : v.ownBlock ≠ some g
def Fp (g : Nat) (v : Value) (b : Nat) : Prop := b = g ∨ v.ownBlock = some b
section
variable {t : TypeId} {w w' : World} {g : Nat} {v : Value} {bs : List UInt8}
theorem Wri.cell (h : Wri t w g v bs) : w.cell? ⟨g, 0, none⟩ = some v := cell_of_row w g 0 _ _ _ h.head
theorem Wri.frozen (h : Wri t w g v bs) : w.frozen? ⟨g, 0, none⟩ = false := by
  have := h.head
  simp [World.frozen?, this]
theorem Wri.lt (h : Wri t w g v bs) : g < w.heap.size := by
  rcases Nat.lt_or_ge g w.heap.size with hlt | hge
  · exact hlt
  · have := h.head; rw [Array.getElem?_eq_none hge] at this; cases this
theorem Wri.fp (h : Wri t w g v bs) {b : Nat} (hb : Fp g v b) : b < w.heap.size := hb.elim (fun e => e ▸ h.lt) (fun e => h.row.lt e)
theorem Wri.keep (h : Wri t w g v bs) (hk : ∀ b, Fp g v b → w'.heap[b]? = w.heap[b]?) : Wri t w' g v bs := ⟨(hk g (.inl rfl)).trans h.head, h.row.keep fun k hk' => hk k (.inr hk'), h.ne⟩
theorem Wri.ch {S : Nat → Prop} (h : Wri t w g v bs) (hc : Ch S w w') (hs : ∀ b, Fp g v b → ¬ S b) : Wri t w' g v bs := h.keep fun b hb => hc.block b (h.fp hb) (hs b hb)
theorem Wri.shape (h : Wri t w g v bs) : ∃ A c, v = .slice A bs.length c ∧ bs.length ≤ c ∧ c ≤ maxLen := by
  have := h.row.shape
  rwa [List.length_map] at this
end
theorem setCell_head {w : World} {g : Nat} {v u : Value} {t : TypeId} (h : w.heap[g]? = some (.cells #[v] t (0, 0))) : (w.setCell ⟨g, 0, none⟩ u).heap[g]? = some (.cells #[u] t (0, 0)) := by
  simp [World.setCell, Array.getElem?_modify, h]
/-- The new head put, after the row has grown. -/
theorem Wri.put {t : TypeId} {w w1 w2 : World} {g : Nat} {v v' : Value} {bs bs' : List UInt8} (h : Wri t w g v bs) (hb : Below w.heap.size w w1) (hr : Row w2 5 v' (bs'.map encB)) (hg : w1.grownBy w2 v.ownBlock) (ha : v'.ownBlock = v.ownBlock ∨ v'.ownBlock = some w1.heap.size) :
    Wri t (w2.setCell ⟨g, 0, none⟩ v') g v' bs' ∧ Ch (Fp g v) w (w2.setCell ⟨g, 0, none⟩ v') ∧ ∀ b, Fp g v' b → Fp g v b ∨ w.heap.size ≤ b := by
  have hs := hb.size
  have hne : v'.ownBlock ≠ some g := by
    rcases ha with ha | ha
    · rw [ha]; exact h.ne
    · rw [ha]; intro e; injection e with e; have := h.lt; omega
  have hg2 : w2.heap[g]? = some (.cells #[v] t (0, 0)) := (hg.block g (Nat.lt_of_lt_of_le h.lt hs) (fun e => h.ne e.symm)).trans ((hb.block g h.lt).trans h.head)
  refine ⟨⟨setCell_head hg2, hr.keep fun k hk => Below.heap_setCell _ _ _ _ (fun e => hne (by rw [hk, e])), hne⟩, ?_, fun b hb' => ?_⟩
  · refine Ch.trans (Ch.trans (Ch.of_below hb) (Ch.of_grown hg) ?_) (Ch.set _ _ _) ?_
    · intro b e; exact .inl (.inr e)
    · intro b e; exact .inl (.inl e)
  · rcases hb' with e | e
    · exact .inl (.inl e)
    · rcases ha with ha | ha
      · exact .inl (.inr (ha ▸ e))
      · rw [ha] at e; injection e with e; exact .inr (by omega)

theorem pow_256 (m : Nat) : 2 ^ (8 * m) = 256 ^ m := by rw [Nat.pow_mul]
theorem put_fit {n m : Nat} (hf : n < 256 ^ m) : (((n : Int) / 2 ^ (8 * m)) != 0) = false := by
  have h : ((2 : Int) ^ (8 * m)) = ((256 ^ m : Nat) : Int) := by rw [← pow_256]; simp
  rw [h, show (n : Int) / ((256 ^ m : Nat) : Int) = ((n / 256 ^ m : Nat) : Int) by simp, Nat.div_eq_of_lt hf]
  rfl
theorem put_nofit {n m : Nat} (hf : ¬ n < 256 ^ m) : (((n : Int) / 2 ^ (8 * m)) != 0) = true := by
  have h : ((2 : Int) ^ (8 * m)) = ((256 ^ m : Nat) : Int) := by rw [← pow_256]; simp
  rw [h, show (n : Int) / ((256 ^ m : Nat) : Int) = ((n / 256 ^ m : Nat) : Int) by simp]
  have hp : 0 < 256 ^ m := Nat.pow_pos (by omega)
  have : 0 < n / 256 ^ m := Nat.div_pos (by omega) hp
  rw [bne_iff_ne]
  intro e
  have := Int.ofNat.inj e
  omega
theorem put_byte (n k : Nat) : IntKind.u8.wrap ((n : Int) / 2 ^ (8 * k)) = ((UInt8.ofNat (n / 256 ^ k)).toNat : Int) := by
  have h : ((2 : Int) ^ (8 * k)) = ((256 ^ k : Nat) : Int) := by rw [← pow_256]; simp
  rw [h, show (n : Int) / ((256 ^ k : Nat) : Int) = ((n / 256 ^ k : Nat) : Int) by simp, UInt8.toNat_ofNat']
  simp [IntKind.wrap, IntKind.bits, IntKind.signed]
theorem put_next {n k m : Nat} {dn : List UInt8} (h : dn ++ putL n (k + 1) = putL n m) : dn ++ [UInt8.ofNat (n / 256 ^ k)] ++ putL n k = putL n m := by
  rw [← h]; simp [putL]
theorem map_snoc (bs : List UInt8) (x : UInt8) : bs.map encB ++ [encB x] = (bs ++ [x]).map encB := by simp
/-- What stands behind the append, ahead of the store. -/
theorem Wri.mid {t : TypeId} {w w1 w2 : World} {g : Nat} {v : Value} {bs : List UInt8} (h : Wri t w g v bs) (hb : Below w.heap.size w w1) (hg : w1.grownBy w2 v.ownBlock) : w2.cell? ⟨g, 0, none⟩ = some v ∧ w2.frozen? ⟨g, 0, none⟩ = false := by
  have hg2 : w2.heap[g]? = some (.cells #[v] t (0, 0)) := (hg.block g (Nat.lt_of_lt_of_le h.lt hb.size) (fun e => h.ne e.symm)).trans ((hb.block g h.lt).trans h.head)
  exact ⟨cell_of_row w2 g 0 _ _ _ hg2, by simp [World.frozen?, hg2]⟩

theorem put_calls (g : Nat) (v : Value) (bs : List UInt8) (n : Nat) (s : Int) (w : World) (h : Wri 26 w g v bs) (hn : n < 18446744073709551616) (hs : fitsN n s = true) (hl : bs.length ≤ 100000) :
    Calls Try.prog 15 #[.pointer (some ⟨g, 0, none⟩), .int .u64 (n : Int), .int .i64 s] w fun e w' => e = .returned (.bool true) ∧
      ∃ v', Wri 26 w' g v' (bs ++ putL n s.toNat) ∧ Ch (Fp g v) w w' ∧ ∀ b, Fp g v' b → Fp g v b ∨ w.heap.size ≤ b := by
  refine cps fun R hR => ?_
  unfold fitsN at hs
  simp only [Bool.and_eq_true, decide_eq_true_eq] at hs
  obtain ⟨⟨h1, h8⟩, hf⟩ := hs
  obtain ⟨m, rfl⟩ := Int.eq_ofNat_of_zero_le (by omega : (0 : Int) ≤ s)
  rw [Int.toNat_natCast] at hf hR
  have b1 : decide ((m : Int) < 1) = false := by simp; omega
  have b2 : decide ((8 : Int) < (m : Int)) = false := by simp; omega
  have Hw := hide h
  clear h
  rcases (by omega : m = 8 ∨ m < 8) with h7 | h7
  case' inl => have b3 : decide ((m : Int) < 8) = false := by simp; omega
  case' inr =>
    have b3 : decide ((m : Int) < 8) = true := by simp; omega
    have b4 := put_fit hf
  all_goals
    have hm8 := hide h7
    have hf' := hide hf
    clear h7 hf
    go_enter Try.func15, Try.ntmps15
    go_wp2_with fail
    have Hn64 := hide hn
    clear hn h1 h8
    go_loopw [7] (fun i wr => ∃ (q : Int) (j : Nat) (dn : List UInt8) (v' : Value), i = .int .i64 q ∧ q = (j : Int) - 1 ∧ j ≤ 8 ∧ dn.length ≤ 8 ∧ dn ++ putL n j = putL n m ∧ Wri 26 wr g v' (bs ++ dn) ∧ Ch (Fp g v) w wr ∧ ∀ b, Fp g v' b → Fp g v b ∨ w.heap.size ≤ b) (fun i _ => (intOf i + 1).toNat)
    case atStart => exact ⟨_, m, [], v, rfl, rfl, by have := hm8.out; omega, by simp, rfl, by rw [List.append_nil]; exact Hw.out, Ch.refl w, fun b hb => .inl hb⟩
    case round =>
      obtain ⟨q, j, dn, v', rfl, hq, hj8, hd8, hdn, hwr, hch, hfp⟩ := hrel
      have Hdn := hide hdn
      have Hfp := hide hfp
      clear hdn hfp
      rcases Nat.eq_zero_or_pos j with h0 | h0
      · obtain rfl : q = -1 := by omega
        subst h0
        have hd := Hdn.out
        rw [show putL n 0 = [] from rfl, List.append_nil] at hd
        rw [hd] at hwr
        clear hd Hdn hq
        go_wp2_with fail
        exact hR.out _ _ ⟨rfl, v', hwr, hch, Hfp.out⟩
      · obtain ⟨k, rfl⟩ : ∃ k, j = k + 1 := ⟨j - 1, by omega⟩
        obtain rfl : q = (k : Int) := by omega
        clear hq
        have hb := put_byte n k
        have Hn := hide (put_next Hdn.out)
        generalize UInt8.ofNat (n / 256 ^ k) = x at hb Hn
        have hc := hwr.cell
        have hfz := hwr.frozen
        have Hwr := hide hwr
        clear hwr
        go_wp2_with (at_builtin; with_reducible refine wp_app 44 rfl rfl (.tmp 36) (.tmp 43) 24 rfl Try.underlying24 infoB ?_ (v := v') (us := (bs ++ dn).map encB) ?_ ?_ (c := 1) (news := [encB x]) ?_ (Src.lit1 _ _ _) ?_ ?_ ?_ ?_)
        case refine_1 => rfl
        case refine_2 => rfl
        case refine_3 => exact Hwr.out.row.keep fun q hq => Below.heap_alloc wr _ q (Hwr.out.row.lt hq)
        case refine_4 => rfl
        case refine_5 => simp [Value.oneCell', encB]
        case refine_6 => simp; omega
        case refine_7 => simp [maxLen]; omega
        case refine_8 =>
          intro v2 w2 h2 g2 a2
          rw [map_snoc, List.append_assoc] at h2
          obtain ⟨A2, c2, rfl, -, -⟩ := h2.shape
          obtain ⟨hc2, hf2⟩ := Hwr.out.mid (balloc _ _) g2
          have hp := hide (Hwr.out.put (balloc _ _) h2 g2 a2)
          clear h2 g2 a2 hc hfz
          generalize (List.map encB (bs ++ (dn ++ [x]))).length = N at hp ⊢
          go_wp2_with fail
          go_roundw
          case rel =>
            obtain ⟨p1, p2, p3⟩ := hp.out
            refine ⟨_, k, dn ++ [x], _, rfl, rfl, by omega, by have := congrArg List.length Hn.out; simp [putL_len] at this ⊢; have := hm8.out; omega, Hn.out, p1, hch.trans p2 Hfp.out, fun b hb => (p3 b hb).elim (Hfp.out b) fun h => .inr (Nat.le_trans hch.size h)⟩
          case measure => simp [intOf]

theorem put_no (g : Nat) (v : Value) (n : Nat) (s : Int) (w : World) (hn : n < 18446744073709551616) (hs : fitsN n s = false) (hs1 : -9223372036854775808 ≤ s) (hs2 : s ≤ 9223372036854775807) :
    Calls Try.prog 15 #[.pointer (some ⟨g, 0, none⟩), .int .u64 (n : Int), .int .i64 s] w fun e w' => e = .returned (.bool false) ∧ w = w' := by
  refine cps fun R hR => ?_
  unfold fitsN at hs
  rw [Bool.and_eq_false_iff, Bool.and_eq_false_iff, decide_eq_false_iff_not, decide_eq_false_iff_not, decide_eq_false_iff_not] at hs
  by_cases h1 : s < 1
  · have b1 : decide (s < 1) = true := by simp; omega
    clear hs hn hs1 hs2
    go_enter Try.func15, Try.ntmps15
    go_wp2_with fail
    exact hR.out _ _ ⟨rfl, rfl⟩
  have b1 : decide (s < 1) = false := by simp; omega
  by_cases h8 : 8 < s
  · have b2 : decide (8 < s) = true := by simp; omega
    clear hs hn hs1 hs2 h1
    go_enter Try.func15, Try.ntmps15
    go_wp2_with fail
    exact hR.out _ _ ⟨rfl, rfl⟩
  obtain ⟨m, rfl⟩ := Int.eq_ofNat_of_zero_le (by omega : (0 : Int) ≤ s)
  rw [Int.toNat_natCast] at hs
  have hno : ¬ n < 256 ^ m := by
    rcases hs with (h | h) | h
    · exact absurd (by omega) h
    · exact absurd (by omega) h
    · exact h
  have h7 : m < 8 := by
    rcases Nat.lt_or_ge m 8 with h | h
    · exact h
    · obtain rfl : m = 8 := by omega
      exact absurd (by omega : n < 256 ^ 8) hno
  have b2 : decide ((8 : Int) < (m : Int)) = false := by simp; omega
  have b3 : decide ((m : Int) < 8) = true := by simp; omega
  have b4 := put_nofit hno
  clear hno hs hs1 hs2
  have hm1 : 1 ≤ (m : Int) := by omega
  have hm8 : (m : Int) ≤ 8 := by omega
  go_enter Try.func15, Try.ntmps15
  go_wp2_with fail
  exact hR.out _ _ ⟨rfl, rfl⟩

theorem append_calls (g : Nat) (v : Value) (bs : List UInt8) (B : Option Addr) (bss : List (List UInt8)) (d : Nat) (S : Nat → Prop) (w : World) (h : Wri 26 w g v bs)
    (hd : d ≤ maxLen) (hdl : bss.length ≤ d) (hb : RdL (Kd.sl Kd.byte) S w B bss) (hS : ∀ k, S k → k < w.heap.size ∧ ¬ Fp g v k) (hl : bs.length + bss.flatten.length ≤ 100000) :
    Calls Try.prog 20 #[.pointer (some ⟨g, 0, none⟩), .slice B bss.length d] w fun e w' => e = .returned (.tuple #[]) ∧
      ∃ v', Wri 26 w' g v' (bs ++ bss.flatten) ∧ Ch (Fp g v) w w' ∧ ∀ b, Fp g v' b → Fp g v b ∨ w.heap.size ≤ b := by
  refine cps fun R hR => ?_
  unfold maxLen at hd
  have Hw := hide h
  have Hl := hide hl
  clear h hl
  go_enter Try.func20, Try.ntmps20
  go_wp2_with fail
  go_loopw [8] (fun i wr => ∃ (k : Nat) (v' : Value), k ≤ bss.length ∧ i = .int .i64 (k : Int) ∧ Wri 26 wr g v' (bs ++ (bss.take k).flatten) ∧ Ch (Fp g v) w wr ∧ ∀ b, Fp g v' b → Fp g v b ∨ w.heap.size ≤ b) (fun i _ => bss.length - (intOf i).toNat)
  case atStart => exact ⟨0, v, Nat.zero_le _, rfl, by simpa using Hw.out, Ch.refl w, fun b hb => .inl hb⟩
  case round =>
    obtain ⟨k, v', hk, rfl, hwr, hch, hfp⟩ := hrel
    have Hfp := hide hfp
    clear hfp
    by_cases hlt : k < bss.length
    · have hbr := hb.keep fun q hq => hch.block q (hS q hq).1 (hS q hq).2
      obtain ⟨b, off, u, rfl, hsb, hu, hcell⟩ := hbr.at1 rfl hlt
      obtain ⟨Ab, cb, rfl, hcb, hcm, hrd⟩ := Kd.sl_cell hu
      have Hrd := hide hrd
      have Hsn := hide (show (bss.take (k + 1)).flatten = (bss.take k).flatten ++ bss[k] by rw [List.take_succ_eq_append_getElem hlt, List.flatten_append, List.flatten_cons, List.flatten_nil, List.append_nil])
      have Hle := hide (by
        have e : bss.flatten = (bss.take (k + 1)).flatten ++ (bss.drop (k + 1)).flatten := by rw [← List.flatten_append, List.take_append_drop]
        have := congrArg List.length e
        rw [Hsn.out] at this
        simp only [List.length_append] at this ⊢
        have := Hl.out
        omega : (bs ++ (bss.take k).flatten).length + bss[k].length ≤ 100000)
      clear hu hrd hbr
      generalize bss[k] = x at hcell Hrd Hsn Hle hcb
      generalize (bss.take k).flatten = dn at hwr Hsn Hle
      have hc := hwr.cell
      have hfz := hwr.frozen
      have Hwr := hide hwr
      clear hwr
      generalize hlx : x.length = lx at hcell
      have Hlx := hide hlx
      clear hlx
      go_wp2_with (at_builtin; with_reducible refine wp_app 18 rfl rfl (.tmp 16) (.tmp 17) 24 rfl Try.underlying24 infoB ?_ (v := v') (us := (bs ++ dn).map encB) ?_ Hwr.out.row (A := Ab) (c := cb) (news := x.map encB) ?_ Hrd.out.srcB (encB_one x) ?_ ?_ ?_)
      case refine_1 => rfl
      case refine_2 => rfl
      case refine_3 => rw [List.length_map, Hlx.out]; rfl
      case refine_4 => simp only [List.length_map]; have := Hle.out; omega
      case refine_5 => simp only [List.length_map]; have := Hle.out; unfold maxLen; omega
      case refine_6 =>
        intro v2 w2 h2 g2 a2
        rw [← List.map_append, List.append_assoc] at h2
        obtain ⟨A2, c2, rfl, -, -⟩ := h2.shape
        obtain ⟨hc2, hf2⟩ := Hwr.out.mid (Below.refl _ _) g2
        have hp := hide (Hwr.out.put (Below.refl _ _) h2 g2 a2)
        clear h2 g2 a2 hc hfz
        generalize (List.map encB (bs ++ (dn ++ x))).length = N at hp ⊢
        go_wp2_with fail
        go_roundw
        case rel =>
          obtain ⟨p1, p2, p3⟩ := hp.out
          exact ⟨k + 1, _, by omega, by go_num, by rw [Hsn.out]; exact p1, hch.trans p2 Hfp.out, fun b hb => (p3 b hb).elim (Hfp.out b) fun h => .inr (Nat.le_trans hch.size h)⟩
        case measure => simp [intOf]; omega
    · obtain rfl : k = bss.length := by omega
      rw [List.take_length] at hwr
      go_wp2_with fail
      go_end0
      exact hR.out _ _ ⟨rfl, v', hwr, hch, Hfp.out⟩

theorem len_calls (g : Nat) (v : Value) (bs : List UInt8) (w : World) (h : Wri 26 w g v bs) :
    Calls Try.prog 23 #[.pointer (some ⟨g, 0, none⟩)] w fun e w' => e = .returned (.int .i64 (bs.length : Int)) ∧ w = w' := by
  refine cps fun R hR => ?_
  obtain ⟨A, c, rfl, -, -⟩ := h.shape
  have hc := h.cell
  clear h
  go_enter Try.func23, Try.ntmps23
  go_wp2_with fail
  exact hR.out _ _ ⟨rfl, rfl⟩

/-- New bytes. -/
def Fresh (w w' : World) (v : Value) (bs : List UInt8) : Prop := Row w' 5 v (bs.map encB) ∧ Below w.heap.size w w' ∧ ∀ k, v.ownBlock = some k → w.heap.size ≤ k
theorem Fresh.of {w w' : World} {v : Value} {bs : List UInt8} (h : Row w' 5 v ([] ++ bs.map encB)) (g : w.grownBy w' (Value.slice none 0 0).ownBlock) (a : v.ownBlock = (Value.slice none 0 0).ownBlock ∨ v.ownBlock = some w.heap.size) : Fresh w w' v bs :=
  ⟨h, ⟨g.os, g.tape, g.output, g.size, fun b hb => g.block b hb (by simp [Value.ownBlock])⟩, fun k hk => by
    rcases a with a | a
    · rw [a] at hk; simp [Value.ownBlock] at hk
    · rw [a] at hk; injection hk with hk; omega⟩
theorem Fresh.shape {w w' : World} {v : Value} {bs : List UInt8} (h : Fresh w w' v bs) : ∃ A c, v = .slice A bs.length c ∧ bs.length ≤ c ∧ c ≤ maxLen := by
  have := h.1.shape
  rwa [List.length_map] at this

theorem bytes_calls (g : Nat) (v : Value) (bs : List UInt8) (w : World) (h : Wri 26 w g v bs) (hl : bs.length ≤ 100000) :
    Calls Try.prog 17 #[.pointer (some ⟨g, 0, none⟩)] w fun e w' => ∃ v', e = .returned v' ∧ Fresh w w' v' bs := by
  refine cps fun R hR => ?_
  obtain ⟨A, c, rfl, hc1, hc2⟩ := h.shape
  have hc := h.cell
  have Hw := hide h
  clear h
  have Hl := hide (rfl : bs.length = bs.length)
  generalize hlx : bs.length = lx at hc
  have Hlx := hide hlx
  clear hlx Hl
  go_enter Try.func17, Try.ntmps17
  go_wp2_with (at_builtin; with_reducible refine wp_app 7 rfl rfl (.const (.slice none 0 0)) (.tmp 6) 24 rfl Try.underlying24 infoB ?_ (v := .slice none 0 0) (us := []) ?_ Row.nil (A := A) (c := c) (news := bs.map encB) ?_ Hw.out.row.src (encB_one bs) ?_ ?_ ?_)
  case refine_1 => rfl
  case refine_2 => rfl
  case refine_3 => rw [List.length_map, Hlx.out]; rfl
  case refine_4 => simp only [List.length_map, List.length_nil]; omega
  case refine_5 => simp only [List.length_map, List.length_nil]; unfold maxLen; omega
  case refine_6 =>
    intro v2 w2 h2 g2 a2
    have hf := Fresh.of h2 g2 a2
    clear h2 g2 a2 hc
    go_wp2_with fail
    exact hR.out _ _ ⟨_, rfl, hf⟩

/-! ### Readers -/
structure Rea (w : World) (g : Nat) (A : Option Addr) (c : Nat) (bs : List UInt8) (S : Nat → Prop) : Prop where
  head : w.heap[g]? = some (.cells #[.slice A bs.length c] 62 (0, 0))
  le : bs.length ≤ c
  max : c ≤ maxLen
  rd : RdL Kd.byte S w A bs
  ne : ¬ S g
  lt : ∀ k, S k → k < w.heap.size
section
variable {w w' : World} {g c : Nat} {A : Option Addr} {bs : List UInt8} {S : Nat → Prop}
theorem Rea.cell (h : Rea w g A c bs S) : w.cell? ⟨g, 0, none⟩ = some (.slice A bs.length c) := cell_of_row w g 0 _ _ _ h.head
theorem Rea.frozen (h : Rea w g A c bs S) : w.frozen? ⟨g, 0, none⟩ = false := by
  have := h.head
  simp [World.frozen?, this]
theorem Rea.glt (h : Rea w g A c bs S) : g < w.heap.size := by
  rcases Nat.lt_or_ge g w.heap.size with hlt | hge
  · exact hlt
  · have := h.head; rw [Array.getElem?_eq_none hge] at this; cases this
theorem Rea.ch {T : Nat → Prop} (h : Rea w g A c bs S) (hc : Ch T w w') (hs : ∀ b, b = g ∨ S b → ¬ T b) : Rea w' g A c bs S :=
  ⟨(hc.block g h.glt (hs g (.inl rfl))).trans h.head, h.le, h.max, h.rd.keep fun k hk => hc.block k (h.lt k hk) (hs k (.inr hk)), h.ne, fun k hk => Nat.lt_of_lt_of_le (h.lt k hk) hc.size⟩
end
/-- n bytes have been read. -/
def dropA (A : Option Addr) (c n : Nat) : Option Addr := if c = n then A else A.map fun a => a.add n
theorem Rea.next {w : World} {g c n : Nat} {A : Option Addr} {bs : List UInt8} {S : Nat → Prop} (h : Rea w g A c bs S) (hn : n ≤ bs.length) {u : Value} (hu : u = .slice (dropA A c n) (bs.length - n) (c - n)) :
    Rea (w.setCell ⟨g, 0, none⟩ u) g (dropA A c n) (c - n) (bs.drop n) S := by
  subst hu
  refine ⟨?_, by rw [List.length_drop]; have := h.le; omega, by have := h.max; omega, ?_, h.ne, fun k hk => by have := h.lt k hk; simpa [World.setCell] using this⟩
  · rw [List.length_drop]; exact setCell_head h.head
  · have hd := h.rd.drop n c hn h.le
    have e : (n * Kd.byte.sz) = n := Nat.mul_one n
    rw [e] at hd
    exact hd.keep fun k hk => Below.heap_setCell _ _ _ _ (fun e => h.ne (by rw [← show k = g from e]; exact hk))
def getN (bs : List UInt8) : Nat := bs.foldl (fun n x => (n * 256 + x.toNat) % 18446744073709551616) 0
theorem getN_snoc (l : List UInt8) (x : UInt8) : getN (l ++ [x]) = (getN l * 256 + x.toNat) % 18446744073709551616 := by simp [getN, List.foldl_append]
theorem getN_lt (l : List UInt8) : getN l < 18446744073709551616 := by
  rcases List.eq_nil_or_concat l with rfl | ⟨r, x, rfl⟩
  · simp [getN]
  · rw [List.concat_eq_append, getN_snoc]; omega

theorem read_calls (A : Option Addr) (bs : List UInt8) (c : Nat) (S : Nat → Prop) (w : World) (hm : c ≤ maxLen) (hc : bs.length ≤ c) (hl : bs.length ≤ 100000) (h : RdL Kd.byte S w A bs) :
    Calls Try.prog 16 #[.slice A bs.length c] w fun e w' => ∃ g A' c' S', e = .returned (.pointer (some ⟨g, 0, none⟩)) ∧ Rea w' g A' c' bs S' ∧ Below w.heap.size w w' ∧ ∀ b, b = g ∨ S' b → w.heap.size ≤ b := by
  refine cps fun R hR => ?_
  have Hs := hide h.srcB
  have Hh := hide h
  have Hc := hide hc
  clear h
  generalize hlx : bs.length = lx
  have Hlx := hide hlx
  clear hlx hc
  go_enter Try.func16, Try.ntmps16
  go_wp2_with (at_builtin; with_reducible refine wp_app 4 rfl rfl (.const (.slice none 0 0)) (.tmp 3) 24 rfl Try.underlying24 infoB ?_ (v := .slice none 0 0) (us := []) ?_ Row.nil (A := A) (c := c) (news := bs.map encB) ?_ Hs.out (encB_one bs) ?_ ?_ ?_)
  case refine_1 => rfl
  case refine_2 => rfl
  case refine_3 => rw [List.length_map, Hlx.out]; rfl
  case refine_4 => simp only [List.length_map, List.length_nil]; omega
  case refine_5 => simp only [List.length_map, List.length_nil]; unfold maxLen; omega
  case refine_6 =>
    intro v2 w2 h2 g2 a2
    have hf := Fresh.of h2 g2 a2
    clear h2 g2 a2
    obtain ⟨A', c', rfl, h1, h2⟩ := hf.shape
    go_wp2_with fail
    refine hR.out _ _ ⟨_, A', c', fun k => (Value.slice A' bs.length c').ownBlock = some k, rfl, ⟨heap_alloc_new w2 _, h1, h2, ?_, ?_, ?_⟩, hf.2.1.alloc hf.2.1.size _, ?_⟩
    · exact (hf.1.rd (d := Kd.byte) rfl _ (fun b hb => hb) fun x => ⟨_, rfl, rfl⟩).keep fun k hk => (balloc w2 _).block k (hf.1.lt hk)
    · intro e; exact absurd (hf.1.lt e) (by simp)
    · intro k hk; have := hf.1.lt hk; simp; omega
    · intro b hb
      rcases hb with rfl | hb
      · exact hf.2.1.size
      · exact hf.2.2 b hb

theorem left_calls (g : Nat) (A : Option Addr) (c : Nat) (bs : List UInt8) (S : Nat → Prop) (w : World) (h : Rea w g A c bs S) :
    Calls Try.prog 19 #[.pointer (some ⟨g, 0, none⟩)] w fun e w' => e = .returned (.int .i64 (bs.length : Int)) ∧ w = w' := by
  refine cps fun R hR => ?_
  have hc := h.cell
  clear h
  go_enter Try.func19, Try.ntmps19
  go_wp2_with fail
  exact hR.out _ _ ⟨rfl, rfl⟩

theorem take_no (g : Nat) (A : Option Addr) (c : Nat) (bs : List UInt8) (S : Nat → Prop) (s : Int) (w : World) (h : Rea w g A c bs S) (hs : ¬ (1 ≤ s ∧ s ≤ 8 ∧ s ≤ bs.length)) :
    Calls Try.prog 18 #[.pointer (some ⟨g, 0, none⟩), .int .i64 s] w fun e w' => e = .returned (.tuple #[.int .u64 0, .bool false]) ∧ w = w' := by
  refine cps fun R hR => ?_
  have hc := h.cell
  have hle := h.le
  have hmx := h.max
  unfold maxLen at hmx
  clear h
  have hs' := hide hs
  clear hs
  generalize bs.length = n at hc hs' hle
  by_cases h1 : s < 1
  · have b1 : decide (s < 1) = true := by simp; omega
    go_enter Try.func18, Try.ntmps18
    go_wp2_with fail
    exact hR.out _ _ ⟨rfl, rfl⟩
  have b1 : decide (s < 1) = false := by simp; omega
  by_cases h8 : 8 < s
  · have b2 : decide (8 < s) = true := by simp; omega
    go_enter Try.func18, Try.ntmps18
    go_wp2_with fail
    exact hR.out _ _ ⟨rfl, rfl⟩
  have b2 : decide (8 < s) = false := by simp; omega
  have b3 : decide ((n : Int) < s) = true := by
    have := hs'.out
    simp; omega
  go_enter Try.func18, Try.ntmps18
  go_wp2_with fail
  exact hR.out _ _ ⟨rfl, rfl⟩

theorem cut_no (g : Nat) (A : Option Addr) (c : Nat) (bs : List UInt8) (S : Nat → Prop) (s : Int) (w : World) (h : Rea w g A c bs S) (hs : ¬ (0 ≤ s ∧ s ≤ bs.length)) :
    Calls Try.prog 25 #[.pointer (some ⟨g, 0, none⟩), .int .i64 s] w fun e w' => e = .returned (.tuple #[.slice none 0 0, .bool false]) ∧ w = w' := by
  refine cps fun R hR => ?_
  have hc := h.cell
  have hle := h.le
  have hmx := h.max
  unfold maxLen at hmx
  clear h
  have hs' := hide hs
  clear hs
  generalize bs.length = n at hc hs' hle
  by_cases h1 : s < 0
  · have b1 : decide (s < 0) = true := by simp; omega
    go_enter Try.func25, Try.ntmps25
    go_wp2_with fail
    exact hR.out _ _ ⟨rfl, rfl⟩
  have b1 : decide (s < 0) = false := by simp; omega
  have b3 : decide ((n : Int) < s) = true := by
    have := hs'.out
    simp; omega
  go_enter Try.func25, Try.ntmps25
  go_wp2_with fail
  exact hR.out _ _ ⟨rfl, rfl⟩

theorem cut_fin {w w2 : World} {g c m : Nat} {A : Option Addr} {bs : List UInt8} {S : Nat → Prop} {v2 u : Value} (h : Rea w g A c bs S) (hf : Fresh w w2 v2 (bs.take m)) (h3 : Rea w2 g A c bs S) (hm : m ≤ bs.length) (hu : u = .slice (dropA A c m) (bs.length - m) (c - m)) :
    ∃ v' A', Ending.returned (.tuple #[v2, .bool true]) = .returned (.tuple #[v', .bool true]) ∧ Row (w2.setCell ⟨g, 0, none⟩ u) 5 v' ((bs.take m).map encB) ∧ (∀ k, v'.ownBlock = some k → w.heap.size ≤ k) ∧
      Rea (w2.setCell ⟨g, 0, none⟩ u) g A' (c - m) (bs.drop m) S ∧ Ch (· = g) w (w2.setCell ⟨g, 0, none⟩ u) :=
  ⟨v2, _, rfl, hf.1.keep fun k hk => Below.heap_setCell _ _ _ _ (fun e => by have := hf.2.2 k hk; have := h.glt; have : k = g := e; omega), hf.2.2, h3.next hm hu,
    (Ch.of_below hf.2.1).trans (Ch.set w2 ⟨g, 0, none⟩ u) fun b hb => .inl hb⟩
theorem cut_calls (g : Nat) (A : Option Addr) (c : Nat) (bs : List UInt8) (S : Nat → Prop) (m : Nat) (w : World) (h : Rea w g A c bs S) (hs : m ≤ bs.length) (hl : bs.length ≤ 100000) :
    Calls Try.prog 25 #[.pointer (some ⟨g, 0, none⟩), .int .i64 (m : Int)] w fun e w' => ∃ v' A', e = .returned (.tuple #[v', .bool true]) ∧ Row w' 5 v' ((bs.take m).map encB) ∧ (∀ k, v'.ownBlock = some k → w.heap.size ≤ k) ∧
      Rea w' g A' (c - m) (bs.drop m) S ∧ Ch (· = g) w w' := by
  refine cps fun R hR => ?_
  have hc := h.cell
  have hle := h.le
  have hmx := h.max
  have Hh := hide h
  unfold maxLen at hmx
  clear h
  have b1 : decide ((m : Int) < 0) = false := by simp
  have b3 : decide ((bs.length : Int) < (m : Int)) = false := by simp; omega
  have hmc : (m : Int) ≤ (c : Int) := by omega
  have hmb : (m : Int) ≤ (bs.length : Int) := by omega
  generalize hlx : bs.length = n at hc hs hle b3 hmb hl
  have Hlx := hide hlx
  clear hlx
  go_enter Try.func25, Try.ntmps25
  go_wp2_with (at_builtin; with_reducible refine wp_app 25 rfl rfl (.const (.slice none 0 0)) (.tmp 24) 24 rfl Try.underlying24 infoB ?_ (v := .slice none 0 0) (us := []) ?_ Row.nil (A := A) (c := m) (news := (bs.take m).map encB) ?_ (Hh.out.rd.take m).srcB (encB_one _) ?_ ?_ ?_)
  case refine_1 => rfl
  case refine_2 => rfl
  case refine_3 => rw [List.length_map, List.length_take, Hlx.out, Nat.min_eq_left hs]; rfl
  case refine_4 => simp only [List.length_map, List.length_nil, List.length_take]; omega
  case refine_5 => simp only [List.length_map, List.length_nil, List.length_take]; unfold maxLen; omega
  case refine_6 =>
    intro v2 w2 h2 g2 a2
    have hf := Fresh.of h2 g2 a2
    clear h2 g2 a2
    have h3 := Hh.out.ch (Ch.of_below (S := fun _ => False) hf.2.1) (fun b _ h => h)
    have hc3 := h3.cell
    have hfz := h3.frozen
    rw [Hlx.out] at hc3
    have Hf := hide hf
    have H3 := hide h3
    clear hf h3 hc
    go_wp2_with fail
    · refine hR.out _ _ ?_
      exact cut_fin Hh.out Hf.out H3.out (by rw [Hlx.out]; exact hs) (by rw [Hlx.out, dropA, if_pos h, h, Nat.sub_self])
    · refine hR.out _ _ ?_
      exact cut_fin Hh.out Hf.out H3.out (by rw [Hlx.out]; exact hs) (by rw [Hlx.out, dropA, if_neg h])

theorem or64 (a b : UInt64) : bits .or .u64 (a.toNat : Int) (b.toNat : Int) = ((a ||| b).toNat : Int) := by
  have ha := a.toNat_lt
  have hb := b.toNat_lt
  have h := (a ||| b).toNat_lt
  show IntKind.u64.wrap ((BitVec.ofInt 64 (a.toNat : Int) ||| BitVec.ofInt 64 (b.toNat : Int)).toNat : Int) = _
  rw [ofInt_nat, ofInt_nat, BitVec.toNat_or, BitVec.toNat_ofNat, BitVec.toNat_ofNat, Nat.mod_eq_of_lt ha, Nat.mod_eq_of_lt hb, UInt64.toNat_or]
  rw [UInt64.toNat_or] at h
  simp only [IntKind.wrap, IntKind.bits, IntKind.signed]
  simp
  omega
theorem or_byte (y : Nat) (x : UInt8) : bits .or .u64 (IntKind.u64.wrap ((y : Int) * 256)) (IntKind.u64.wrap (x.toNat : Int)) = (((y * 256 + x.toNat) % 18446744073709551616 : Nat) : Int) := by
  have hx : x.toNat < 256 := x.toNat_lt
  have h1 : IntKind.u64.wrap ((y : Int) * 256) = ((UInt64.ofNat (y * 256)).toNat : Int) := by
    rw [wrap_u64', UInt64.toNat_ofNat']; omega
  have h2 : IntKind.u64.wrap (x.toNat : Int) = ((UInt64.ofNat x.toNat).toNat : Int) := by
    rw [wrap_u64', UInt64.toNat_ofNat']; omega
  rw [h1, h2, or64, UInt64.toNat_or, UInt64.toNat_ofNat', UInt64.toNat_ofNat']
  have e1 : y * 256 % 2 ^ 64 = 2 ^ 8 * (y % 2 ^ 56) := by omega
  have e2 : x.toNat % 2 ^ 64 = x.toNat := by omega
  rw [e1, e2, ← Nat.two_pow_add_eq_or_of_lt (by omega)]
  omega
theorem take_calls (g : Nat) (A : Option Addr) (c : Nat) (bs : List UInt8) (S : Nat → Prop) (m : Nat) (w : World) (h : Rea w g A c bs S) (h1 : 1 ≤ m) (h8 : m ≤ 8) (hs : m ≤ bs.length) :
    Calls Try.prog 18 #[.pointer (some ⟨g, 0, none⟩), .int .i64 (m : Int)] w fun e w' => e = .returned (.tuple #[.int .u64 ((getN (bs.take m) : Nat) : Int), .bool true]) ∧ Rea w' g (dropA A c m) (c - m) (bs.drop m) S ∧ Ch (· = g) w w' := by
  refine cps fun R hR => ?_
  have hc := h.cell
  have hfz := h.frozen
  have hle := h.le
  have hmx := h.max
  have Hh := hide h
  unfold maxLen at hmx
  clear h
  have b1 : decide ((m : Int) < 1) = false := by simp; omega
  have b2 : decide ((8 : Int) < (m : Int)) = false := by simp; omega
  have b3 : decide ((bs.length : Int) < (m : Int)) = false := by simp; omega
  have hmc : (m : Int) ≤ (c : Int) := by omega
  have hmb : (m : Int) ≤ (bs.length : Int) := by omega
  have Hsn := hide (fun k (hk : k < bs.length) => (by rw [List.take_succ_eq_append_getElem hk, getN_snoc] : getN (bs.take (k + 1)) = (getN (bs.take k) * 256 + (bs[k]).toNat) % 18446744073709551616))
  have Hrd := hide (Hh.out.rd)
  have Hbl := hide hs
  generalize hlx : bs.length = n at hc hs hle b3 hmb
  have Hlx := hide hlx
  clear hlx
  go_enter Try.func18, Try.ntmps18
  go_wp2_with fail
  go_loop [6, 31] (fun x i => ∃ k : Nat, k ≤ m ∧ i = .int .i64 (k : Int) ∧ x = .int .u64 ((getN (bs.take k) : Nat) : Int)) (fun _ i => m - (intOf i).toNat)
  case atStart => exact ⟨0, Nat.zero_le _, rfl, rfl⟩
  case round =>
    obtain ⟨k, hk, rfl, rfl⟩ := hrel
    by_cases hlt : k < m
    · have hkb : k < bs.length := by rw [Hlx.out]; omega
      obtain ⟨b, off, u, rfl, hsb, hu, hcell⟩ := Hrd.out.at1 rfl hkb
      obtain rfl := Kd.byte_cell hu
      clear hu
      have Hn := hide (Hsn.out k hkb)
      generalize getN (bs.take k) = y at Hn ⊢
      generalize bs[k] = x at Hn hcell
      go_wp2_with fail
      go_round
      case rel => exact ⟨k + 1, by omega, by go_num, by rw [or_byte, Hn.out]⟩
      case measure => simp [intOf]; omega
    · obtain rfl : k = m := by omega
      generalize getN (bs.take k) = y at hR ⊢
      go_wp2_with fail
      · refine hR.out _ _ ⟨rfl, ?_, (Ch.set w ⟨g, 0, none⟩ _).mono fun b _ h => h⟩
        exact Hh.out.next Hbl.out (by rw [Hlx.out, dropA, if_pos h, h, Nat.sub_self])
      · refine hR.out _ _ ⟨rfl, ?_, (Ch.set w ⟨g, 0, none⟩ _).mono fun b _ h => h⟩
        exact Hh.out.next Hbl.out (by rw [Hlx.out, dropA, if_neg h])
end Go.Proofs.Ytoiojkjmldlhcaa
