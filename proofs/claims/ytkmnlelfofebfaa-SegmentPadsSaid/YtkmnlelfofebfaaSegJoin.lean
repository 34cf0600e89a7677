/- Blocks put together: the program's and the reference's walk. -/
import Derived.Test.YtkmnlelfofebfaaSegRef
set_option linter.unusedVariables false
set_option linter.unusedSimpArgs false
namespace Go.Proofs.Ytkmnlelfofebfaa
open Go.RowKit

def joinL (n : Nat) (xss : List (List UInt8)) : List UInt8 := xss.flatten.take n
theorem flat_len {xss : List (List UInt8)} {m : Nat} (h : ∀ b ∈ xss, b.length ≤ m) : xss.flatten.length ≤ xss.length * m := by
  induction xss with
  | nil => simp
  | cons b xss ih =>
    have := ih fun c hc => h c (by simp [hc])
    have := h b (by simp)
    rw [List.flatten_cons, List.length_append, List.length_cons, Nat.add_mul]; omega
theorem flat_eq {xss : List (List UInt8)} {m : Nat} (h : ∀ b ∈ xss, b.length = m) : xss.flatten.length = xss.length * m := by
  induction xss with
  | nil => simp
  | cons b xss ih =>
    have := ih fun c hc => h c (by simp [hc])
    have := h b (by simp)
    rw [List.flatten_cons, List.length_append, List.length_cons, Nat.add_mul]; omega
theorem flat_succ (xss : List (List UInt8)) (k : Nat) (hk : k < xss.length) : (xss.take (k + 1)).flatten = (xss.take k).flatten ++ xss[k] := by
  rw [List.take_succ_eq_append_getElem hk, List.flatten_append]; simp
theorem take_more {P b : List UInt8} {j n : Nat} (h : n ≤ (P ++ b.take j).length) : (P ++ b).take n = (P ++ b.take j).take n := by
  have e : P ++ b = (P ++ b.take j) ++ b.drop j := by rw [List.append_assoc, List.take_append_drop]
  rw [e, List.take_append_of_le_length h]
theorem take_step {P b : List UInt8} {j n : Nat} (hj : j < b.length) (h : (P ++ b.take j).length < n) : (P ++ b.take (j + 1)).take n = (P ++ b.take j).take n ++ [b[j]] := by
  rw [List.take_succ_eq_append_getElem hj, ← List.append_assoc, List.take_of_length_le (l := P ++ b.take j) (by omega), List.take_of_length_le (by rw [List.length_append]; simp; simp at h; omega)]
theorem take_bd {L : List UInt8} {n m : Nat} (h : L.length ≤ m) : (L.take n).length ≤ m := by rw [List.length_take]; omega

/-- append of bytes: what it leaves. -/
theorem bytes_step' {w wr w' : World} {e t1 : TypeId} {v v' z : Value} {x : UInt8} {l l' : List UInt8} (hl : l' = l ++ [x]) (hb : Below w.heap.size w wr) (hz : ∀ q, v.ownBlock = some q → w.heap.size ≤ q) (hr : Row wr e v (l.map encB)) (hzx : [z] = [x].map encB)
    (h1 : Row w' e v' (l.map encB ++ [z])) (h2 : (wr.alloc (.cells #[z] t1)).grownBy w' v.ownBlock) (h3 : v'.ownBlock = v.ownBlock ∨ v'.ownBlock = some (wr.alloc (.cells #[z] t1)).heap.size) :
    Row w' e v' (l'.map encB) ∧ Below w.heap.size w w' ∧ (∀ q, v'.ownBlock = some q → w.heap.size ≤ q) := bytes_step hl hb hz hr hzx h1 h2 h3
set_option maxHeartbeats 1000000 in
theorem refjoin_calls (n : Nat) (A : Option Addr) (xss : List (List UInt8)) (c : Nat) (w : World) (hn : n ≤ 9223372036854775807) (hx : xss.length ≤ 1000) (hb : ∀ b ∈ xss, b.length ≤ 1000) (h : RdL (Kd.sl Kd.byte) (· < w.heap.size) w A xss) :
    Calls Try.prog 13 #[.int .i64 (n : Int), .slice A xss.length c] w fun e w' => ∃ v, e = .returned v ∧ Row w' 5 v ((joinL n xss).map encB) ∧ (∀ q, v.ownBlock = some q → w.heap.size ≤ q) ∧ Below w.heap.size w w' := by
  refine cps fun R hR => ?_
  have Hx := hide h
  have Hb := hide hb
  clear h hb
  go_enter Try.func13, Try.ntmps13
  go_wp2_with fail
  have hl0 := hide (Row.lit (w := w) (e := 5) [] (by simp))
  go_loopw [5, 6] (fun v i wr => ∃ k : Nat, k ≤ xss.length ∧ i = .int .i64 (k : Int) ∧ Row wr 5 v (((xss.take k).flatten.take n).map encB) ∧ Below w.heap.size w wr ∧ (∀ q, v.ownBlock = some q → w.heap.size ≤ q)) (fun _ i _ => xss.length - (intOf i).toNat)
  case atStart => exact ⟨0, Nat.zero_le _, rfl, by simpa using hl0.out, balloc _ _, fun q hq => by simp [Value.ownBlock] at hq; omega⟩
  case round =>
    obtain ⟨k, hk, rfl, hrow, hbr, hzo⟩ := hrel
    by_cases hlt : k < xss.length
    · have hfs := hide (flat_succ xss k hlt)
      have hbk := Hb.out xss[k] (List.getElem_mem hlt)
      have hPl : (xss.take k).flatten.length ≤ 1000 * 1000 := by
        have h1 := flat_len (xss := xss.take k) (m := 1000) fun b hb => Hb.out b (List.mem_of_mem_take hb)
        have h2 : (xss.take k).length * 1000 ≤ 1000 * 1000 := Nat.mul_le_mul (by rw [List.length_take]; omega) (Nat.le_refl _)
        exact Nat.le_trans h1 h2
      have hst := hide (And.intro hrow (And.intro hbr hzo))
      generalize hbe : xss[k] = b at hfs hbk
      have Hbe := hide hbe
      generalize (xss.take k).flatten = P at hst hfs hPl
      have hPl' := hide hPl
      clear hrow hbr hzo hPl hbe
      go_wp2_with fail
      obtain ⟨wo, rfl⟩ : ∃ wo : World, wo = wr := ⟨_, rfl⟩
      go_loopw [5, 7] (fun v i wr => ∃ j : Nat, j ≤ b.length ∧ i = .int .i64 (j : Int) ∧ Row wr 5 v (((P ++ b.take j).take n).map encB) ∧ Below w.heap.size w wr ∧ (∀ q, v.ownBlock = some q → w.heap.size ≤ q)) (fun _ i _ => b.length - (intOf i).toNat)
      case atStart => exact ⟨0, Nat.zero_le _, rfl, by simpa using hst.out.1, hst.out.2⟩
      case round =>
        obtain ⟨j, hj, rfl, hrow, hbr, hzo⟩ := hrel
        have hLl := hide (show (P ++ b.take j).length ≤ 1001000 by rw [List.length_append, List.length_take]; have := hPl'.out; omega)
        have hol := hide (take_bd (n := n) hLl.out)
        have hbw := hide (Hx.out.below hbr)
        obtain ⟨ba, oa, u, rfl, hs1, hu1, hcl1⟩ := hbw.out.at1 rfl hlt
        rw [Hbe.out] at hu1
        obtain ⟨A1, c1, rfl, hc1, hm1, hr1⟩ := Kd.sl_cell hu1
        obtain ⟨Av, cv, rfl, hcv, hmv, hkd⟩ := hrow.kd
        have Hrow := hide hrow
        have Hbr := hide hbr
        have Hzo := hide hzo
        clear hrow hbr hzo hu1 hkd hst
        by_cases hjl : j < b.length
        · obtain ⟨bb, ob, u2, rfl, hs2, hu2, hcl2⟩ := hr1.at1 rfl hjl
          obtain rfl := Kd.byte_cell hu2
          clear hr1 hu2
          by_cases hful : ((P ++ b.take j).take n).length < n
          · have hstp := hide (take_step (P := P) (n := n) hjl (by rw [List.length_take] at hful; omega))
            have hful' : ((((P ++ b.take j).take n).length : Nat) : Int) < (n : Int) := by omega
            have hLt := hol.out
            generalize b[j] = x at hcl2 hstp
            generalize (P ++ b.take j).take n = L at *
            have hsrc := hide (Src.lit1 wr (.int .u8 (x.toNat : Int)) 5)
            have hr1 := hide (Hrow.out.keep (w' := wr.alloc (.cells #[.int .u8 (x.toNat : Int)] 5)) fun q hq => Below.heap_alloc wr _ q (Hrow.out.lt hq))
            go_wp2_with (at_builtin; with_reducible refine wp_app 39 rfl rfl (.tmp 30) (.tmp 38) 24 rfl Try.underlying24 infoB ?_ (us := L.map encB) ?_ hr1.out (A := some ⟨wr.heap.size, 0, none⟩) (c := 1) (news := [.int .u8 (x.toNat : Int)]) ?_ hsrc.out ?_ ?_ ?_ ?_)
            case refine_1 => rfl
            case refine_2 => rfl
            case refine_3 => rfl
            case refine_4 => intro u hu; simp at hu; subst hu; rfl
            case refine_5 => simp; omega
            case refine_6 => simp [maxLen]; omega
            intro v' w' h1 h2 h3
            have hfin := hide (bytes_step' hstp.out Hbr.out Hzo.out Hrow.out (encB_lit x) h1 h2 h3)
            clear h1 h2 h3
            go_wp2_with fail
            go_roundw
            case rel => exact ⟨j + 1, by omega, by go_num, hfin.out⟩
            case measure => simp [intOf]; omega
          · have he := hide (take_more (P := P) (b := b) (j := j) (n := n) (by rw [List.length_take] at hful; omega))
            have hful' : ¬ ((((P ++ b.take j).take n).length : Nat) : Int) < (n : Int) := by omega
            generalize (P ++ b.take j).take n = L at *
            go_wp2_with fail
            go_roundw
            case rel => exact ⟨k + 1, by omega, by go_num, by rw [hfs.out, he.out]; exact Hrow.out, Hbr.out, Hzo.out⟩
            case measure => simp [intOf]; omega
        · obtain rfl : j = b.length := by omega
          have he := hide (show (P ++ b.take b.length).take n = (P ++ b).take n by rw [List.take_length])
          generalize (P ++ b.take b.length).take n = L at *
          clear hr1
          go_wp2_with fail
          go_roundw
          case rel => exact ⟨k + 1, by omega, by go_num, by rw [hfs.out, ← he.out]; exact Hrow.out, Hbr.out, Hzo.out⟩
          case measure => simp [intOf]; omega
    · obtain rfl : k = xss.length := by omega
      rw [List.take_length] at hrow
      have Hrow := hide hrow
      clear hrow
      go_wp2_with fail
      exact hR.out _ _ ⟨_, rfl, Hrow.out, hzo, hbr⟩

theorem join_bad (N B Q E F len : Int) (A : Option Addr) (n c : Nat) (w : World) (h : mayB N B Q E F = false) :
    Calls Try.prog 12 #[pV N B Q E F, .int .i64 len, .slice A n c] w fun e w' => e = .returned (.tuple #[.slice none 0 0, .int .i64 1]) ∧ Below w.heap.size w w' := by
  refine cps fun R hR => ?_
  have hc := fun w => check_calls N B Q E F w
  rw [h] at hc
  have Hc := hide hc
  clear hc h
  go_enter Try.func12, Try.ntmps12
  go_wp2_with fail
  refine (Hc.out _).mono ?_
  rintro e w1 ⟨rfl, hb1⟩
  have hb := (balloc w (.cells #[.int .i64 N, .int .i64 B, .int .i64 Q, .int .i64 E, .int .i64 F] 23)).trans (hb1.mono (by simp))
  go_wp2_with fail
  exact hR.out _ _ ⟨rfl, hb⟩

theorem join_step {P b : List UInt8} {n B : Nat} (hb : b.length = B) (h : 0 < min (n - (P.take n).length) B) : (P ++ b).take n = P.take n ++ b.take (min (n - (P.take n).length) B) := by
  rw [List.length_take] at h ⊢
  have hP : P.length ≤ n := by omega
  rw [List.take_of_length_le hP, List.take_append, List.take_of_length_le hP, show min n P.length = P.length by omega]
  by_cases e : n - P.length ≤ B
  · rw [show min (n - P.length) B = n - P.length by omega]
  · rw [show min (n - P.length) B = B by omega, List.take_of_length_le (by omega), List.take_of_length_le (by omega)]
theorem join_stay {P b : List UInt8} {n B : Nat} (hb : b.length = B) (h : min (n - (P.take n).length) B = 0) : (P ++ b).take n = P.take n := by
  rw [List.length_take] at h
  by_cases e : B = 0
  · rw [List.eq_nil_of_length_eq_zero (hb.trans e), List.append_nil]
  · rw [List.take_append_of_le_length (by omega)]

set_option maxHeartbeats 1000000 in
/-- What can be put together, and what it is. -/
theorem join_calls (N B : Nat) (Q E F len : Int) (A : Option Addr) (xss : List (List UInt8)) (c : Nat) (w : World) (h : mayB N B Q E F = true) (hx : xss.length ≤ 1000) (hb : ∀ b ∈ xss, b.length ≤ 1000) (hlen : len ≤ 9223372036854775807)
    (hA : RdL (Kd.sl Kd.byte) (· < w.heap.size) w A xss) :
    Calls Try.prog 12 #[pV N B Q E F, .int .i64 len, .slice A xss.length c] w fun e w' => ((∃ v, e = .returned (.tuple #[v, .int .i64 0]) ∧ (xss.length = N ∧ 0 ≤ len ∧ len ≤ (N : Int) * (B : Int) ∧ ∀ b ∈ xss, b.length = B) ∧ Row w' 5 v ((joinL len.toNat xss).map encB) ∧ ∀ q, v.ownBlock = some q → w.heap.size ≤ q) ∨
      (e = .returned (.tuple #[.slice none 0 0, .int .i64 2]) ∧ ¬ (xss.length = N ∧ 0 ≤ len ∧ len ≤ (N : Int) * (B : Int) ∧ ∀ b ∈ xss, b.length = B))) ∧ Below w.heap.size w w' := by
  refine cps fun R hR => ?_
  obtain ⟨hN1, hN2, hB1, hB2, -⟩ := may_bd h
  have hc := fun w => check_calls N B Q E F w
  rw [h] at hc
  have Hc := hide hc
  have Hm := hide (fun w => most_calls N B Q E F w (by omega) hN2 (by omega) hB2)
  have HA := hide hA
  have Hb := hide hb
  clear hc h hA hb
  by_cases h1 : xss.length = N
  · by_cases h2 : len < 0
    · have b1 : ((xss.length : Int) != (N : Int)) = false := by simp; omega
      have Hn := hide (show ¬ (xss.length = N ∧ 0 ≤ len ∧ len ≤ (N : Int) * (B : Int) ∧ ∀ b ∈ xss, b.length = B) from fun e => by omega)
      clear h1
      go_enter Try.func12, Try.ntmps12
      go_wp2_with fail
      refine (Hc.out _).mono ?_
      rintro e w1 ⟨rfl, hb1⟩
      obtain ⟨W, hW, hb, hs, ⟨c0, c1, c2, c3, c4⟩⟩ := box5 w N B Q E F 23
      rw [← hW] at hb1
      replace c0 := (hb1.cell (by simpa using hs)).trans c0
      replace c1 := (hb1.cell (by simpa using hs)).trans c1
      replace c2 := (hb1.cell (by simpa using hs)).trans c2
      replace c3 := (hb1.cell (by simpa using hs)).trans c3
      replace c4 := (hb1.cell (by simpa using hs)).trans c4
      have hb1' := hb.trans (hb1.mono hb.size)
      have hs1 := Nat.lt_of_lt_of_le hs hb1.size
      clear hW hb hb1 hs
      go_wp2_with fail
      exact hR.out _ _ ⟨.inr ⟨rfl, Hn.out⟩, hb1'⟩
    · have b1 : ((xss.length : Int) != (N : Int)) = false := by simp; omega
      obtain ⟨n, rfl⟩ := Int.eq_ofNat_of_zero_le (show 0 ≤ len by omega)
      obtain ⟨M, hM⟩ : ∃ M, M = N * B := ⟨_, rfl⟩
      have eM : (N : Int) * (B : Int) = (M : Int) := by rw [hM]; simp
      rw [eM] at Hm hR
      have hMb : M ≤ 1048576 * 65535 := by rw [hM]; exact Nat.mul_le_mul (by omega) (by omega)
      have h1' := hide h1
      clear hM eM h1
      by_cases h3 : M < n
      · have Hn := hide (show ¬ (xss.length = N ∧ 0 ≤ (n : Int) ∧ (n : Int) ≤ (M : Int) ∧ ∀ b ∈ xss, b.length = B) from fun e => by omega)
        go_enter Try.func12, Try.ntmps12
        go_wp2_with fail
        refine (Hc.out _).mono ?_
        rintro e w1 ⟨rfl, hb1⟩
        obtain ⟨W, hW, hb, hs, ⟨c0, c1, c2, c3, c4⟩⟩ := box5 w N B Q E F 23
        rw [← hW] at hb1
        replace c0 := (hb1.cell (by simpa using hs)).trans c0
        replace c1 := (hb1.cell (by simpa using hs)).trans c1
        replace c2 := (hb1.cell (by simpa using hs)).trans c2
        replace c3 := (hb1.cell (by simpa using hs)).trans c3
        replace c4 := (hb1.cell (by simpa using hs)).trans c4
        have hb1' := hb.trans (hb1.mono hb.size)
        have hs1 := Nat.lt_of_lt_of_le hs hb1.size
        clear hW hb hb1 hs
        go_wp2_with fail
        refine (Hm.out _).mono ?_
        rintro e w2 ⟨rfl, hb2⟩
        have hb2' := hb1'.trans (hb2.mono hb1'.size)
        clear hb2
        go_wp2_with fail
        exact hR.out _ _ ⟨.inr ⟨rfl, Hn.out⟩, hb2'⟩
      · have hMn : decide (M < n) = false := by simpa using h3
        have hn0 : decide ((n : Int) < 0) = false := by simp
        go_enter Try.func12, Try.ntmps12
        go_wp2_with fail
        refine (Hc.out _).mono ?_
        rintro e w1 ⟨rfl, hb1⟩
        obtain ⟨W, hW, hb, hs, ⟨c0, c1, c2, c3, c4⟩⟩ := box5 w N B Q E F 23
        rw [← hW] at hb1
        replace c0 := (hb1.cell (by simpa using hs)).trans c0
        replace c1 := (hb1.cell (by simpa using hs)).trans c1
        replace c2 := (hb1.cell (by simpa using hs)).trans c2
        replace c3 := (hb1.cell (by simpa using hs)).trans c3
        replace c4 := (hb1.cell (by simpa using hs)).trans c4
        have hb1' := hb.trans (hb1.mono hb.size)
        have hs1 := Nat.lt_of_lt_of_le hs hb1.size
        clear hW hb hb1 hs
        go_wp2_with fail
        refine (Hm.out _).mono ?_
        rintro e w2 ⟨rfl, hb2⟩
        have hb2' := hide (hb1'.trans (hb2.mono hb1'.size))
        replace c0 := (hb2.cell (by simpa using hs1)).trans c0
        replace c1 := (hb2.cell (by simpa using hs1)).trans c1
        have hs2 := Nat.lt_of_lt_of_le hs1 hb2.size
        clear hb2 hb1' c2 c3 c4 hs1
        go_wp2_with fail
        go_loopw [9, 35] (fun v i wr => ∃ k : Nat, k ≤ xss.length ∧ i = .int .i64 (k : Int) ∧ Row wr 5 v (((xss.take k).flatten.take n).map encB) ∧ Below w2.heap.size w2 wr ∧ (∀ q, v.ownBlock = some q → w2.heap.size ≤ q) ∧ (∀ b ∈ xss.take k, b.length = B)) (fun _ i _ => xss.length - (intOf i).toNat)
        case atStart => exact ⟨0, Nat.zero_le _, rfl, by simpa using Row.nil, Below.refl _ _, fun q hq => by simp [Value.ownBlock] at hq, by simp⟩
        case round =>
          obtain ⟨k, hk, rfl, hrow, hbr, hzo, hall⟩ := hrel
          have hb2w := hide (hb2'.out.trans (hbr.mono hb2'.out.size))
          by_cases hlt : k < xss.length
          · have d1 := (hbr.cell hs2).trans c1
            have hbw := hide (HA.out.below hb2w.out)
            obtain ⟨ba, oa, u, rfl, hs3, hu1, hcl1⟩ := hbw.out.at1 rfl hlt
            obtain ⟨A1, c1', rfl, hc1, hm1, hr1⟩ := Kd.sl_cell hu1
            have hbk := Hb.out xss[k] (List.getElem_mem hlt)
            have hfs := hide (flat_succ xss k hlt)
            have hpl := hide (flat_len (xss := xss.take k) (m := 1000) fun b hb => Hb.out b (List.mem_of_mem_take hb))
            by_cases hBk : xss[k].length = B
            · have hall' := hide (show ∀ b ∈ xss.take (k + 1), b.length = B by
                rw [List.take_succ_eq_append_getElem hlt]
                intro b hb
                rcases List.mem_append.1 hb with hb | hb
                · exact hall b hb
                · simp at hb; rw [hb]; exact hBk)
              have hPl : (xss.take k).flatten.length ≤ 1000000 := by
                have := hpl.out
                have h2 : (xss.take k).length * 1000 ≤ 1000 * 1000 := Nat.mul_le_mul (by rw [List.length_take]; omega) (Nat.le_refl _)
                exact Nat.le_trans this h2
              have HB := hide hBk
              have hst := hide (And.intro hrow hzo)
              have Hbr := hide hbr
              have hr1' := hide hr1
              have hm1' := hide hm1
              rw [hBk] at hcl1 hc1
              generalize xss[k] = b at hfs hr1' HB hbk
              generalize (xss.take k).flatten = P at hst hfs hPl
              have hrow' := hst.out.1
              have hol := take_bd (n := n) hPl
              have hle := List.length_take_le n P
              clear hall hBk hrow hzo hr1 hu1 hbr hpl hm1 hPl
              obtain ⟨r, hr⟩ : ∃ r, r = n - (P.take n).length := ⟨_, rfl⟩
              have er : (n : Int) - ((P.take n).length : Int) = (r : Int) := by omega
              obtain ⟨Av, cv, rfl, hcv, hmv, -⟩ := hrow'.kd
              by_cases hq : 0 < min r B
              · have hstp := hide (join_step (P := P) (n := n) HB.out (by rw [← hr]; exact hq))
                have hnl := hide (show (b.take (min r B)).length = min r B by rw [List.length_take, HB.out]; omega)
                rw [← hr] at hstp
                clear hr
                generalize P.take n = L at *
                rcases (by omega : r ≤ B ∨ B < r) with hrB' | hrB'
                · have hmn := hide (show min r B = r by omega)
                  rw [hmn.out] at hstp hnl
                  have hq0 : 0 < r := by omega
                  have hrB : r ≤ B := by omega
                  have hr57 := hide hrow'
                  have hs57 := hide ((hr1'.out.take r).srcB)
                  have ho57 := hide (encB_one (b.take r))
                  clear hrow' hq
                  go_wp2_with (at_builtin; with_reducible refine wp_app 57 rfl rfl (.tmp 53) (.tmp 56) 24 rfl Try.underlying24 infoB ?_ (us := L.map encB) ?_ hr57.out (A := A1) (c := c1') (news := (b.take r).map encB) ?_ hs57.out ho57.out ?_ ?_ ?_)
                  case refine_1 => rfl
                  case refine_2 => rfl
                  case refine_3 => rw [List.length_map, hnl.out]; rfl
                  case refine_4 => rw [List.length_map, List.length_map, hnl.out]; omega
                  case refine_5 => rw [List.length_map, List.length_map, hnl.out]; simp [maxLen]; omega
                  intro v' w' h1 h2 h3
                  have hfin := hide (show Row w' 5 v' (((P ++ b).take n).map encB) ∧ Below w2.heap.size w2 w' ∧ (∀ q, v'.ownBlock = some q → w2.heap.size ≤ q) from
                    ⟨by rw [hstp.out, List.map_append]; exact h1, Hbr.out.trans ((Ch.of_grown h2).toBelow Hbr.out.size fun b hb => hst.out.2 b hb), fun q hq => by
                      rcases h3 with h3 | h3
                      · exact hst.out.2 q (h3 ▸ hq)
                      · rw [h3] at hq; injection hq with hq; have := Hbr.out.size; omega⟩)
                  clear h1 h2 h3
                  go_wp2_with fail
                  go_roundw
                  case rel => exact ⟨k + 1, by omega, by go_num, by rw [hfs.out]; exact hfin.out.1, hfin.out.2.1, hfin.out.2.2, hall'.out⟩
                  case measure => simp [intOf]; omega
                · have hmn := hide (show min r B = B by omega)
                  rw [hmn.out] at hstp hnl
                  have hq0 : 0 < B := by omega
                  have hrB : B < r := by omega
                  have hr57 := hide hrow'
                  have hs57 := hide ((hr1'.out.take B).srcB)
                  have ho57 := hide (encB_one (b.take B))
                  clear hrow' hq
                  go_wp2_with (at_builtin; with_reducible refine wp_app 57 rfl rfl (.tmp 53) (.tmp 56) 24 rfl Try.underlying24 infoB ?_ (us := L.map encB) ?_ hr57.out (A := A1) (c := c1') (news := (b.take B).map encB) ?_ hs57.out ho57.out ?_ ?_ ?_)
                  case refine_1 => rfl
                  case refine_2 => rfl
                  case refine_3 => rw [List.length_map, hnl.out]; rfl
                  case refine_4 => rw [List.length_map, List.length_map, hnl.out]; omega
                  case refine_5 => rw [List.length_map, List.length_map, hnl.out]; simp [maxLen]; omega
                  intro v' w' h1 h2 h3
                  have hfin := hide (show Row w' 5 v' (((P ++ b).take n).map encB) ∧ Below w2.heap.size w2 w' ∧ (∀ q, v'.ownBlock = some q → w2.heap.size ≤ q) from
                    ⟨by rw [hstp.out, List.map_append]; exact h1, Hbr.out.trans ((Ch.of_grown h2).toBelow Hbr.out.size fun b hb => hst.out.2 b hb), fun q hq => by
                      rcases h3 with h3 | h3
                      · exact hst.out.2 q (h3 ▸ hq)
                      · rw [h3] at hq; injection hq with hq; have := Hbr.out.size; omega⟩)
                  clear h1 h2 h3
                  go_wp2_with fail
                  go_roundw
                  case rel => exact ⟨k + 1, by omega, by go_num, by rw [hfs.out]; exact hfin.out.1, hfin.out.2.1, hfin.out.2.2, hall'.out⟩
                  case measure => simp [intOf]; omega
              · have hstp := hide (join_stay (P := P) (n := n) HB.out (by rw [← hr]; omega))
                have hr0 : r = 0 := by omega
                subst hr0
                clear hr
                generalize P.take n = L at *
                have hfin := hide (show Row wr 5 (.slice Av L.length cv) (((P ++ b).take n).map encB) by rw [hstp.out]; exact hst.out.1)
                have hB0 : (0 : Int) ≤ (B : Int) := by omega
                clear hrow' hq
                go_wp2_with fail
                go_roundw
                case rel => exact ⟨k + 1, by omega, by go_num, by rw [hfs.out]; exact hfin.out, Hbr.out, hst.out.2, hall'.out⟩
                case measure => simp [intOf]; omega
            · have Hn := hide (show ¬ (xss.length = N ∧ 0 ≤ (n : Int) ∧ (n : Int) ≤ (M : Int) ∧ ∀ b ∈ xss, b.length = B) from fun e => hBk (e.2.2.2 _ (List.getElem_mem hlt)))
              have hne : ((xss[k].length : Int) != (B : Int)) = true := by simp; omega
              generalize xss[k].length = lk at hcl1 hne
              have Hbr := hide hbr
              clear hBk hrow hall hzo hfs hpl hr1 hu1 hbr hbk hc1
              go_wp2_with fail
              exact hR.out _ _ ⟨.inr ⟨rfl, Hn.out⟩, hb2w.out⟩
          · obtain rfl : k = xss.length := by omega
            rw [List.take_length] at hrow hall
            have Hrow := hide hrow
            have Hall := hide hall
            have Hzo := hide hzo
            have hs3 := hide hb2'.out.size
            clear hrow hall hzo
            go_wp2_with fail
            exact hR.out _ _ ⟨.inl ⟨_, rfl, ⟨h1'.out, by omega, by omega, Hall.out⟩, Hrow.out, fun q hq => Nat.le_trans hs3.out (Hzo.out q hq)⟩, hb2w.out⟩
  · have b1 : ((xss.length : Int) != (N : Int)) = true := by simp; omega
    have Hn := hide (show ¬ (xss.length = N ∧ 0 ≤ len ∧ len ≤ (N : Int) * (B : Int) ∧ ∀ b ∈ xss, b.length = B) from fun e => h1 e.1)
    clear h1
    go_enter Try.func12, Try.ntmps12
    go_wp2_with fail
    refine (Hc.out _).mono ?_
    rintro e w1 ⟨rfl, hb1⟩
    obtain ⟨W, hW, hb, hs, ⟨c0, c1, c2, c3, c4⟩⟩ := box5 w N B Q E F 23
    rw [← hW] at hb1
    replace c0 := (hb1.cell (by simpa using hs)).trans c0
    have hb1' := hb.trans (hb1.mono hb.size)
    clear hW hb hb1 hs
    go_wp2_with fail
    exact hR.out _ _ ⟨.inr ⟨rfl, Hn.out⟩, hb1'⟩
end Go.Proofs.Ytkmnlelfofebfaa
