/- WholeSealed, walked. -/
import Derived.Test.YtoiojkjmldlhcaaCrcBursts
set_option linter.unusedVariables false
set_option linter.unusedSimpArgs false
namespace Go.Proofs.Ytoiojkjmldlhcaa
open Go.RowKit

def encN (ns : List UInt64) : List UInt8 := (ns.map fun x => putL x.toNat 8).flatten
theorem encN_snoc (ns : List UInt64) (x : UInt64) : encN (ns ++ [x]) = encN ns ++ putL x.toNat 8 := by simp [encN]
theorem encN_len (ns : List UInt64) : (encN ns).length = 8 * ns.length := by
  induction ns with
  | nil => rfl
  | cons x r ih =>
    have e : encN (x :: r) = putL x.toNat 8 ++ encN r := rfl
    rw [e, List.length_append, putL_len, ih, List.length_cons]; omega
theorem encN_drop {ns : List UInt64} {j : Nat} (hj : j < ns.length) : encN (ns.drop j) = putL ns[j].toNat 8 ++ encN (ns.drop (j + 1)) := by
  rw [List.drop_eq_getElem_cons hj]; rfl
theorem fits8 (n : Nat) (h : n < 18446744073709551616) : fitsN n 8 = true := by
  unfold fitsN
  simp only [Bool.and_eq_true, decide_eq_true_eq]
  exact ⟨⟨by omega, by omega⟩, by show n < 256 ^ 8; omega⟩
theorem be4_put (s : UInt32) : be4 s = putL s.toNat 4 := by
  have hb : ∀ (a : UInt8) (m : Nat), a.toNat = m % 256 → a = UInt8.ofNat m := fun a m h => by
    apply UInt8.toNat_inj.1
    rw [UInt8.toNat_ofNat', h]
  show [_, _, _, _] = [_, _, _, _]
  congr 1
  · exact hb _ _ (by simp [UInt32.toNat_toUInt8, UInt32.toNat_shiftRight, Nat.shiftRight_eq_div_pow])
  congr 1
  · exact hb _ _ (by simp [UInt32.toNat_toUInt8, UInt32.toNat_shiftRight, Nat.shiftRight_eq_div_pow])
  congr 1
  · exact hb _ _ (by simp [UInt32.toNat_toUInt8, UInt32.toNat_shiftRight, Nat.shiftRight_eq_div_pow])
  congr 1
  · exact hb _ _ (by simp [UInt32.toNat_toUInt8])
theorem getN_be4 (s : UInt32) : getN (be4 s) = s.toNat := by
  rw [be4_put]
  have := s.toNat_lt
  exact getN_putL (by omega) (by omega)
theorem sum_nine (w1 : World) (g : Nat) (ht : TabAt w1 g 256) {o1 o2 : Obj} (h1 : o1 = .cells #[.int .u8 49, .int .u8 50, .int .u8 51, .int .u8 52, .int .u8 53, .int .u8 54, .int .u8 55, .int .u8 56, .int .u8 57] 5 (9, 10)) (h2 : o2 = .cells #[.slice (some ⟨w1.heap.size, 0, none⟩) 9 9] 24) :
    Calls Try.prog 29 #[.pointer (some ⟨g, 0, none⟩), .slice (some ⟨w1.heap.size + 1, 0, none⟩) 1 1] ((w1.alloc o1).alloc o2) fun e w' => e = .returned (.int .u32 4236843288) ∧ TabAt w' g 256 ∧ Below w1.heap.size w1 w' := by
  have b1 := balloc w1 o1
  have b2 := balloc (w1.alloc o1) o2
  have b12 := b1.trans (b2.mono b1.size)
  have h := sum_one (n := 9) (c := 9) (ht.keep (b1.block g ht.lt)) (by rfl) (by omega) (by simp [maxLen]) (lit_rd w1 [49, 50, 51, 52, 53, 54, 55, 56, 57] (o := o1) (fr := (9, 10)) (by rw [h1]; rfl)) (fun k hk => by rw [hk]; simp) (o := o2) h2
  rw [World.size_alloc] at h
  refine h.mono ?_
  rintro e w' ⟨rfl, rfl⟩
  refine ⟨?_, ht.keep (b12.block g ht.lt), b12⟩
  rw [chk_1]; rfl
set_option maxRecDepth 100000 in
set_option maxHeartbeats 2000000 in
theorem sealed_calls (L : Option Addr) (ns : List UInt64) (c : Nat) (pt : Int) (mk : UInt32) (w : World) (hcm : c ≤ maxLen) (hcl : ns.length ≤ c) (har : RdL Kd.u64 (· < w.heap.size) w L ns) (hpt : (Lit.int .u16 pt).wf = true) :
    Calls Try.prog 13 #[.slice L ns.length c, .int .u16 pt, .int .u32 (mk.toNat : Int)] w fun e w' => e = .returned (.bool true) ∧ Below w.heap.size w w' := by
  refine cps fun R hR => ?_
  have hcm' := hcm
  unfold maxLen at hcm'
  obtain ⟨p1, p2⟩ := bounds_u16 hpt
  obtain ⟨pt, rfl⟩ := Int.eq_ofNat_of_zero_le p1
  have Ha := hide har
  clear har hpt
  have kc := fun (w : World) (C : Array Value) (n c : Nat) => Lib.run_convert_bytes_const (P := Try.prog) w 24 5 C n c Try.underlying24 Try.underlying5
  go_enter Try.func13, Try.ntmps13
  go_wp2_with fail
  refine (new_calls w).mono ?_
  rintro e w1 ⟨rfl, ht1, hb1, hlt1⟩
  have Ht1 := hide ht1
  clear ht1
  go_wp2_with fail
  refine (sum_nine w1 w.heap.size Ht1.out rfl rfl).mono ?_
  rintro e w2 ⟨rfl, ht2, hb2⟩
  have Hb2 := hide (hb1.trans (hb2.mono hb1.size))
  have s2 := Hb2.out.size
  have Ht2 := hide ht2
  clear ht2 hb2 hb1 hlt1 Ht1 kc
  by_cases h60 : 60 < ns.length
  · go_wp2_with fail
    exact hR.out _ _ ⟨rfl, Hb2.out⟩
  have hgl := Ht2.out.lt
  go_wp2_with fail
  go_loopw [39] (fun i wr => ∃ (k : Nat) (vw : Value), k ≤ ns.length ∧ i = .int .i64 (k : Int) ∧ Wri 26 wr w2.heap.size vw (encN (ns.take k)) ∧ Below w2.heap.size w2 wr ∧ ∀ q, Fp w2.heap.size vw q → w2.heap.size ≤ q) (fun i _ => ns.length - (intOf i).toNat)
  case atStart => exact ⟨0, _, Nat.zero_le _, rfl, Wri.new w2 _, balloc _ _, fun b hb => by rw [fp_new hb]; exact Nat.le_refl _⟩
  case round =>
    obtain ⟨k, vw, hk, rfl, hw, hb, hf⟩ := hrel
    have Hw := hide hw
    have Hf := hide hf
    have Hb := hide (Hb2.out.trans (hb.mono s2))
    have hs := hb.size
    clear hw hf
    by_cases hlt : k < ns.length
    · obtain ⟨b', off', u', rfl, hsb', hu', hcell'⟩ := (Ha.out.below Hb.out).at1 rfl hlt
      obtain rfl := Kd.u64_cell hu'
      clear hu'
      have hN := ns[k].toNat_lt
      have Hsn := hide (show encN (ns.take (k + 1)) = encN (ns.take k) ++ putL ns[k].toNat 8 by rw [List.take_succ_eq_append_getElem hlt, encN_snoc])
      have hl8 : (encN (ns.take k)).length ≤ 100000 := by rw [encN_len, List.length_take]; omega
      have hp := hide (put_calls w2.heap.size vw (encN (ns.take k)) ns[k].toNat 8 wr Hw.out hN (fits8 _ hN) hl8)
      generalize ns[k].toNat = N at hcell' hp Hsn hN
      clear hN hl8
      go_wp2_with fail
      refine hp.out.mono ?_
      rintro e w4 ⟨rfl, vw', hw4, hc4, hf4⟩
      have hb4 := hide (hc4.below hb hs Hf.out)
      have hw4' := hide hw4
      have hf4' := hide (show ∀ q, Fp w2.heap.size vw' q → w2.heap.size ≤ q from fun q hq => (hf4 q hq).elim (Hf.out q) fun h => Nat.le_trans hs h)
      clear hw4 hc4 hf4
      go_wp2_with fail
      go_roundw
      case rel => exact ⟨k + 1, vw', by omega, by go_num, by rw [Hsn.out]; exact hw4'.out, hb4.out, hf4'.out⟩
      case measure => simp [intOf]; omega
    · obtain rfl : k = ns.length := by omega
      rw [List.take_length] at Hw
      have hel := hide (encN_len ns)
      have hby := hide (bytes_calls w2.heap.size vw (encN ns) wr Hw.out (by rw [hel.out]; omega))
      have Htr := hide (Ht2.out.keep (w' := wr) (hb.block (w.heap.size) hgl))
      clear hb
      go_wp2_with fail
      refine hby.out.mono ?_
      rintro e w3 ⟨v3, rfl, hf3⟩
      obtain ⟨A3, c3, rfl, hc3, hm3⟩ := hf3.shape
      have s3 := hf3.2.1.size
      have Hb3 := hide (Hb.out.trans (hf3.2.1.mono Hb.out.size))
      have Ht3 := hide (Htr.out.keep (hf3.2.1.block (w.heap.size) Htr.out.lt))
      have Hw3 := hide (Hw.out.keep fun q hq => hf3.2.1.block q (Hw.out.fp hq))
      have hse := hide (seal_calls (w.heap.size) A3 (encN ns) c3 (fun k => (Value.slice A3 (encN ns).length c3).ownBlock = some k) w3 Ht3.out hm3 hc3 (by rw [hel.out]; omega) (hf3.1.rd (d := Kd.byte) rfl _ (fun b hb => hb) fun x => ⟨_, rfl, rfl⟩) (fun k hk => hf3.1.lt hk))
      clear hf3 hc3 hby
      go_wp2_with fail
      refine hse.out.mono ?_
      rintro e w5 ⟨v5, rfl, hf5⟩
      obtain ⟨A5, c5, rfl, hc5, hm5⟩ := hf5.shape
      have lN := hide (show (sealL (encN ns)).length = 8 * ns.length + 4 by rw [sealL_len, hel.out])
      rw [lN.out] at hf5 hc5 ⊢
      have s5 := hf5.2.1.size
      have Hb5 := hide (Hb3.out.trans (hf5.2.1.mono Hb3.out.size))
      have Ht5 := hide (Ht3.out.keep (hf5.2.1.block (w.heap.size) Ht3.out.lt))
      have Hw5 := hide (Hw3.out.keep fun q hq => hf5.2.1.block q (Hw3.out.fp hq))
      have Hx5 := hide (hf5.1.rd (d := Kd.byte) rfl (· < w5.heap.size) (fun b hb => hf5.1.lt hb) fun x => ⟨_, rfl, rfl⟩)
      have hrb := hide (right_burst (encN ns) mk)
      obtain ⟨N, hN⟩ : ∃ N, N = 8 * ns.length + 4 := ⟨_, rfl⟩
      rw [← hN] at lN hc5 ⊢
      have hN1 : N ≤ 484 := by omega
      have hN4 : 4 ≤ N := by omega
      have HNn := hide hN
      clear hf5 hse hN
      have lxb := hide (show ((sealL (encN ns)).map encB).length = N by rw [List.length_map, lN.out])
      go_wp2_with (at_builtin; with_reducible refine wp_app_lit 51 rfl rfl (.tmp 49) (.tmp 50) 24 rfl Try.underlying24 infoB ?_ (news := (sealL (encN ns)).map encB) (g := w5.heap.size) ?_ (A := A5) (c := c5) ?_ ?_ (encB_one _) ?_ ?_ ?_)
      case refine_1 => rfl
      case refine_2 => rfl
      case refine_3 => rw [lxb.out]; rfl
      case refine_4 => exact (Hx5.out.keep fun k hk => (balloc w5 _).block k hk).srcB
      case refine_5 => rw [lxb.out]; omega
      case refine_6 => rw [lxb.out]; unfold maxLen; omega
      case refine_7 =>
      intro v6 w6 hn6
      obtain ⟨A2, g2, post2, c2, rfl, hc2, hm2, hb6, hg6, hlt6, hw6⟩ := hn6.wr
      rw [lN.out] at hlt6 hc2 ⊢
      obtain ⟨hg2l, -⟩ := hlt6 (by omega)
      have hg2' : w5.heap.size ≤ g2 := by simp at hg6; omega
      have hb56 : Below w5.heap.size w5 w6 := (balloc w5 (.cells #[] 5)).trans (hb6.mono (by simp))
      have Hb6 := hide (Hb5.out.trans (hb56.mono Hb5.out.size))
      have Ht6 := hide (Ht5.out.keep (hb56.block (w.heap.size) Ht5.out.lt))
      have Hw6w := hide (Hw5.out.keep fun q hq => hb56.block q (Hw5.out.fp hq))
      have Hx6 := hide (Hx5.out.below hb56)
      have hw2' := hide (hw6 w6 (Below.refl _ _))
      have s6 := hb56.size
      clear hn6 hb6 hw6 hg6 hlt6 hb56
      generalize hxb : sealL (encN ns) = xb at *
      have Hxb := hide hxb
      have HN := hide lN.out
      clear hxb
      have hmod : ((pt : Int)).tmod (8 * (N : Int)) = ((pt % (8 * N) : Nat) : Int) := by
        rw [Int.tmod_eq_emod_of_nonneg (by omega)]; simp
      have hfl : pt % (8 * N) < 8 * N := Nat.mod_lt _ (by omega)
      generalize hfst : pt % (8 * N) = first at hmod hfl
      clear hfst
      go_wp2_with fail
      go_loopw [58] (fun i wr => ∃ (j : Nat), j ≤ 32 ∧ i = .int .i64 (j : Int) ∧ Wr wr A2 g2 [] post2 5 (burst mk first j xb) ∧ Ch (· = g2) w6 wr) (fun i _ => 32 - (intOf i).toNat)
      case atStart => exact ⟨0, Nat.zero_le _, rfl, hw2'.out, Ch.refl _⟩
      case round =>
        obtain ⟨j, hj, rfl, hwr, hch⟩ := hrel
        have Hwr := hide hwr
        clear hwr
        by_cases hjl : j < 32
        · have hbit := bit_raw mk j
          cases hb : mk.toNat.testBit j
          · rw [hb] at hbit
            have Hn' := hide (burst_succ_no (mask := mk) (first := first) (i := j) (xs := xb) (by rw [hb]; rfl))
            clear hb
            go_wp2_with fail
            go_roundw
            case rel => exact ⟨j + 1, by omega, by go_num, by rw [Hn'.out]; exact Hwr.out, hch⟩
            case measure => simp [intOf]; omega
          · rw [hb] at hbit
            by_cases hk : first + j < 8 * N
            · have f1 : decide ((first : Int) + (j : Int) < 8 * (N : Int)) = true := by simp; omega
              have Hn' := hide (burst_succ_yes (mask := mk) (first := first) (i := j) (xs := xb) (by rw [hb, HN.out]; simpa using hk))
              clear hb
              have hlen : (burst mk first j xb).length = N := by rw [burst_len, HN.out]
              have hi : (first + j) / 8 < (burst mk first j xb).length := by rw [hlen]; omega
              obtain ⟨hA, hc1, hf1⟩ := Hwr.out.cell hi
              have hset := Hwr.out.set hi ((burst mk first j xb)[(first + j) / 8] ^^^ (128 >>> UInt8.ofNat ((first + j) % 8)))
              have hgd : (burst mk first j xb).getD ((first + j) / 8) 0 = (burst mk first j xb)[(first + j) / 8] := by
                rw [List.getD_eq_getElem?_getD, List.getElem?_eq_getElem hi]; rfl
              rw [hgd] at Hn'
              simp only [List.length_nil, Nat.zero_add] at hA hc1 hf1 hset
              rw [← Hn'.out] at hset
              have Hset := hide hset
              obtain ⟨q1, q2⟩ := quo8 (first + j)
              rw [Int.natCast_add] at q1 q2
              have q3 := shr_128 ((first + j) % 8) (by omega)
              have q4 := xor8 (burst mk first j xb)[(first + j) / 8] (128 >>> UInt8.ofNat ((first + j) % 8))
              have hi8 : (first + j) / 8 < N := by omega
              subst hA
              clear hset hgd hlen
              generalize (burst mk first j xb)[(first + j) / 8] ^^^ (128 >>> UInt8.ofNat ((first + j) % 8)) = y at Hset q4
              generalize (burst mk first j xb)[(first + j) / 8] = x at hc1 q4
              generalize (128 >>> UInt8.ofNat ((first + j) % 8) : UInt8) = z at q3 q4
              have hk8 : (first + j) % 8 < 8 := by omega
              generalize (first + j) / 8 = a at q1 hc1 hf1 Hset hi8
              generalize (first + j) % 8 = r at q2 q3 hk8
              have e1 : IntKind.i64.wrap (a : Int) = (a : Int) := by rw [IntKind.wrap_i64]; omega
              have e2 : IntKind.i64.wrap (r : Int) = (r : Int) := by rw [IntKind.wrap_i64]; omega
              have e3 : IntKind.u8.wrap (z.toNat : Int) = (z.toNat : Int) := by have := z.toNat_lt; simp [IntKind.wrap, IntKind.bits, IntKind.signed]; omega
              have e4 : (a : Int) < (N : Int) := by omega
              have e5 : IntKind.i64.wrap ((first : Int) + (j : Int)) = (first : Int) + (j : Int) := by rw [IntKind.wrap_i64]; omega
              go_wp2_with fail
              go_still_tail 10, (by kernel_rfl)
              go_wp2_with fail
              refine ⟨⟨j + 1, by omega, by go_num, Hset.out.keep rfl, (hch.trans (Ch.set wr ⟨g2, a, none⟩ (.int .u8 (y.toNat : Int))) fun b hb => .inl hb).drewR⟩, by simp [intOf]; omega⟩
            · have f1 : decide ((first : Int) + (j : Int) < 8 * (N : Int)) = false := by simp; omega
              have Hn' := hide (burst_succ_no (mask := mk) (first := first) (i := j) (xs := xb) (by rw [hb, HN.out]; simpa using hk))
              clear hb
              go_wp2_with fail
              go_roundw
              case rel => exact ⟨j + 1, by omega, by go_num, by rw [Hn'.out]; exact Hwr.out, hch⟩
              case measure => simp [intOf]; omega
        · obtain rfl : j = 32 := by omega
          have hgw : g2 < wr.heap.size := Nat.lt_of_lt_of_le hg2l hch.size
          have hlen := hide (show (burst mk first 32 xb).length = N by rw [burst_len, HN.out])
          have hrb' := hide (hrb.out first)
          have Ht7 := hide (Ht6.out.keep (w' := wr) (hch.block _ Ht6.out.lt (fun e => by have := Ht5.out.lt; omega)))
          have Hx7 := hide (Hx6.out.keep (w' := wr) (fun q hq => hch.block q (Nat.lt_of_lt_of_le hq s6) (fun e => by omega)))
          have Hw7 := hide (Hw6w.out.keep (w' := wr) (fun q hq => hch.block q (Hw6w.out.fp hq) (fun e => by have := Hw5.out.fp hq; omega)))
          have Hb7 := hide (hch.below Hb6.out Hb6.out.size (fun q hq => by rw [hq]; exact Nat.le_trans Hb5.out.size hg2'))
          have hRt := hide (right_calls w.heap.size A2 (burst mk first 32 xb) c2 _ wr Ht7.out hm2 (by rw [hlen.out]; exact hc2) (by rw [hlen.out]; omega) Hwr.out.rdB (fun k hk => by rw [hk]; exact hgw))
          rw [hlen.out, hrb'.out] at hRt
          have s56 := hch.size
          clear hch hw2' hmod hfl hrb
          generalize burst mk first 32 xb = x at *
          cases hxe : (x == xb)
          · rw [hxe] at hRt
            go_wp2_with fail
            refine hRt.out.mono ?_
            rintro e w8 ⟨rfl, hb8⟩
            have t1 := run_str (P := Try.prog) (w := w8) Try.underlying24 Try.underlying5 Try.underlying9 (Hwr.out.keep (hb8.block g2 hgw)).src c2
            have t2 := run_str (P := Try.prog) (w := w8) Try.underlying24 Try.underlying5 Try.underlying9 (Hx7.out.keep fun q hq => hb8.block q (Nat.lt_of_lt_of_le hq (Nat.le_trans s6 s56))).srcB c5
            rw [hlen.out] at t1
            rw [HN.out] at t2
            have hend := Hb7.out.trans (hb8.mono Hb7.out.size)
            have Hxe := hide hxe
            clear hxe hb8
            go_wp2_with fail
            exact hR.out _ _ ⟨by show Ending.returned (Value.bool (!(x == xb))) = _; rw [Hxe.out]; rfl, hend⟩
          · rw [hxe] at hRt
            have hxx : x = xb := by simpa using hxe
            subst hxx
            clear hxe
            have hrd := hide (fun (y : World) (hy : Below wr.heap.size wr y) => read_calls A2 x c2 _ y hm2 (by rw [hlen.out]; exact hc2) (by rw [hlen.out]; omega) (Hwr.out.keep (w' := y) (hy.block g2 hgw)).rdB)
            rw [hlen.out] at hrd
            go_wp2_with fail
            refine hRt.out.mono ?_
            rintro e w8 ⟨rfl, hb8⟩
            go_wp2_with fail
            refine (hrd.out w8 hb8).mono ?_
            rintro e w9 ⟨g9, A9, c9, S9, rfl, hr9, hb9, hg9⟩
            have hb79 := hide (hb8.trans (hb9.mono hb8.size))
            have Hb9 := hide (Hb7.out.trans (hb79.out.mono Hb7.out.size))
            have Hr9 := hide hr9
            have hg9' : w8.heap.size ≤ g9 := hg9 g9 (.inl rfl)
            have s78 := hb8.size
            have s89 := hb9.size
            have Ht9 := hide (Ht7.out.keep (hb79.out.block _ Ht7.out.lt))
            have Hw9 := hide (Hw7.out.keep fun q hq => hb79.out.block q (Hw7.out.fp hq))
            have hwl := hide (fun q (hq : Fp w2.heap.size vw q) => Hw7.out.fp hq)
            have htl := Ht7.out.lt
            clear hr9 hb8 hb9 hg9 hRt hrd
            go_wp2_with fail
            go_loopw [100] (fun i wr => ∃ (j : Nat) (A' : Option Addr) (c' : Nat), j ≤ ns.length ∧ i = .int .i64 (j : Int) ∧ Rea wr g9 A' c' (encN (ns.drop j) ++ be4 (crcS (encN ns))) S9 ∧ Ch (· = g9) w9 wr) (fun i _ => ns.length - (intOf i).toNat)
            case atStart => exact ⟨0, A9, c9, Nat.zero_le _, rfl, by have := Hr9.out; rw [← Hxb.out] at this; exact this, Ch.refl _⟩
            case round =>
              obtain ⟨j, A', c', hj, rfl, hrq, hcq⟩ := hrel
              have Hrq := hide hrq
              have Hbq := hide (hcq.below Hb9.out Hb9.out.size (fun q hq => by rw [hq]; exact Nat.le_trans Hb7.out.size (Nat.le_trans s78 hg9')))
              clear hrq
              by_cases hjl : j < ns.length
              · obtain ⟨b', off', u', rfl, hsb', hu', hcell'⟩ := (Ha.out.below Hbq.out).at1 rfl hjl
                obtain rfl := Kd.u64_cell hu'
                clear hu'
                have hN := ns[j].toNat_lt
                have hrq := Hrq.out
                rw [encN_drop hjl, List.append_assoc] at hrq
                have ht := take_calls g9 A' c' _ S9 8 wr hrq (by omega) (by omega) (by rw [List.length_append, putL_len]; omega)
                rw [take_put.1, take_put.2, getN_putL (by show ns[j].toNat < 256 ^ 8; omega) hN] at ht
                have Ht := hide ht
                clear ht hrq
                generalize ns[j].toNat = M at hcell' Ht hN
                clear hN
                go_wp2_with fail
                refine Ht.out.mono ?_
                rintro e w10 ⟨rfl, hr10, hc10⟩
                have Hr10 := hide hr10
                have Hc10 := hide (hcq.trans hc10 fun b hb => .inl hb)
                clear hr10 hc10
                go_wp2_with fail
                go_roundw
                case rel => exact ⟨j + 1, _, _, by omega, by go_num, Hr10.out, Hc10.out⟩
                case measure => simp [intOf]; omega
              · obtain rfl : j = ns.length := by omega
                have hrq := Hrq.out
                rw [List.drop_length, show encN [] = [] from rfl, List.nil_append] at hrq
                have hb4 : (be4 (crcS (encN ns))).length = 4 := rfl
                have ht := take_calls g9 A' c' _ S9 4 wr hrq (by omega) (by omega) (by rw [hb4]; omega)
                rw [List.take_of_length_le (by rw [hb4]; omega), List.drop_eq_nil_of_le (by rw [hb4]; omega), getN_be4] at ht
                have Ht := hide ht
                have Hwq := hide (Hw9.out.ch hcq (fun q hq e => by have := hwl.out q hq; rw [e] at this; omega))
                have Htq := hide (Ht9.out.keep (hcq.block _ (by have := Ht9.out.lt; exact this) (fun e => by omega)))
                clear ht hrq
                have hs32 := (crcS (encN ns)).toNat_lt
                have hcv : IntKind.u32.wrap ((crcS (encN ns)).toNat : Int) = ((crcS (encN ns)).toNat : Int) := by
                  simp [IntKind.wrap, IntKind.bits, IntKind.signed]; omega
                have hcv2 : ((crcS (encN ns)).toNat : Int) % (4294967296 : Int) = ((crcS (encN ns)).toNat : Int) := by omega
                have heq : (((crcS (encN ns)).toNat : Int) == ((crcS (encN ns)).toNat : Int)) = true := by simp
                clear hs32
                go_wp2_with fail
                refine Ht.out.mono ?_
                rintro e w10 ⟨rfl, hr10, hc10⟩
                have Hr10 := hide hr10
                have Hw10 := hide (Hwq.out.ch hc10 (fun q hq e => by have := hwl.out q hq; rw [e] at this; omega))
                have Ht10 := hide (Htq.out.keep (hc10.block _ Htq.out.lt (fun e => by omega)))
                have Hb10 := hide (hc10.below Hbq.out Hbq.out.size (fun q hq => by rw [hq]; exact Nat.le_trans Hb7.out.size (Nat.le_trans s78 hg9')))
                have hby := hide (bytes_calls w2.heap.size vw (encN ns) w10 Hw10.out (by rw [hel.out]; omega))
                clear hr10 hc10
                go_wp2_with fail
                refine hby.out.mono ?_
                rintro e w11 ⟨v11, rfl, hf11⟩
                obtain ⟨A11, c11, rfl, hc11, hm11⟩ := hf11.shape
                have Hb11 := hide (Hb10.out.trans (hf11.2.1.mono Hb10.out.size))
                have Ht11 := hide (Ht10.out.keep (hf11.2.1.block _ Ht10.out.lt))
                have hsm := hide (sum_one Ht11.out rfl hc11 hm11 (hf11.1.rd (d := Kd.byte) rfl (fun k => (Value.slice A11 (encN ns).length c11).ownBlock = some k) (fun b hb => hb) fun x => ⟨_, rfl, rfl⟩) (fun k hk => hf11.1.lt hk) (o := .cells #[.slice A11 (encN ns).length c11] 24) rfl)
                have hlf := hide (left_calls g9 _ _ _ S9 (w11.alloc (.cells #[.slice A11 (encN ns).length c11] 24)) ((Hr10.out.ch (Ch.of_below (S := fun _ => False) hf11.2.1) (fun _ _ h => h)).ch (Ch.alloc (S := fun _ => False) _ _) (fun _ _ h => h)))
                clear hf11 hby hc11
                generalize (encN ns).length = el at *
                go_wp2_with fail
                refine hsm.out.mono ?_
                rintro e w12 ⟨rfl, rfl⟩
                go_wp2_with fail
                refine hlf.out.mono ?_
                rintro e w13 ⟨rfl, rfl⟩
                go_wp2_with fail
                exact hR.out _ _ ⟨rfl, Hb11.out.alloc Hb11.out.size _⟩
end Go.Proofs.Ytoiojkjmldlhcaa
