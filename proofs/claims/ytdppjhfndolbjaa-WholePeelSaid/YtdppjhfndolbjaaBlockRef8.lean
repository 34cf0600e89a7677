/- The reference of layer 3, walked. -/
import Derived.Test.YtdppjhfndolbjaaBlock8
import Derived.StillTailTactics
set_option linter.unusedVariables false
set_option linter.unusedSimpArgs false
namespace Go.Proofs.Ytdppjhfndolbjaa
open Go.RowKit

theorem refzero_calls (A : Option Addr) (xs : List UInt8) (c : Nat) (S : Nat → Prop) (w : World) (hm : c ≤ maxLen) (hc : xs.length ≤ c) (h : RdL Kd.byte S w A xs) :
    Calls Try.prog 31 #[.slice A xs.length c] w fun e' w' => e' = .returned (.bool (zeroB xs)) ∧ w = w' := by
  refine cps fun R hR => ?_
  unfold maxLen at hm
  have hz : zeroB xs = true ↔ ∀ (k : Nat) (hk : k < xs.length), xs[k] = 0 := by
    unfold zeroB
    rw [List.all_eq_true]
    constructor
    · intro h k hk; simpa using h xs[k] (List.getElem_mem hk)
    · intro h x hx
      obtain ⟨k, hk, rfl⟩ := List.mem_iff_getElem.1 hx
      simpa using h k hk
  have Hz := hide hz
  clear hz
  go_enter Try.func31, Try.ntmps31
  go_wp2_with fail
  go_loop [3] (fun i => ∃ k : Nat, k ≤ xs.length ∧ i = .int .i64 (k : Int) ∧ ∀ (j : Nat) (hj : j < xs.length), j < k → xs[j] = 0) (fun i => xs.length - (intOf i).toNat)
  case atStart => exact ⟨0, Nat.zero_le _, rfl, fun j hj h => absurd h (by omega)⟩
  case round =>
    obtain ⟨k, hk, rfl, hall⟩ := hrel
    have Hall := hide hall
    clear hall
    by_cases hlt : k < xs.length
    · obtain ⟨b, off, u, rfl, hsb, hu, hcell⟩ := h.at1 rfl hlt
      obtain rfl := Kd.byte_cell hu
      clear hu
      by_cases hx : xs[k] = 0
      · have Hx := hide hx
        rw [hx] at hcell
        clear hx
        go_wp2_with fail
        go_round
        case rel =>
          refine ⟨k + 1, by omega, by go_num, fun j hj hjk => ?_⟩
          by_cases e : j = k
          · subst e; exact Hx.out
          · exact Hall.out j hj (by omega)
        case measure => simp [intOf]; omega
      · have hzf : zeroB xs = false := by
          rw [Bool.eq_false_iff]
          intro h
          exact hx (Hz.out.1 h k hlt)
        have hne : ((xs[k].toNat : Int) != 0) = true := by
          rw [bne_iff_ne]
          intro e
          exact hx (UInt8.toNat_inj.1 (by simpa using e))
        generalize xs[k] = x at hcell hne
        have Hzf := hide hzf
        clear hzf hx
        go_wp2_with fail
        exact hR.out _ _ ⟨by rw [Hzf.out], rfl⟩
    · have hzt : zeroB xs = true := Hz.out.2 fun j hj => Hall.out j hj (by omega)
      have Hzt := hide hzt
      clear hzt
      go_wp2_with fail
      exact hR.out _ _ ⟨by rw [Hzt.out], rfl⟩

/-- Are all as long? -/
def fitsB (n : Int) (bss : List (List UInt8)) : Bool := decide (0 ≤ n) && bss.all fun b => decide ((b.length : Int) = n)
theorem fitsB_iff (n : Int) (bss : List (List UInt8)) : fitsB n bss = true ↔ 0 ≤ n ∧ ∀ b ∈ bss, (b.length : Int) = n := by simp [fitsB]

theorem fits_calls (n : Int) (B : Option Addr) (bss : List (List UInt8)) (d : Nat) (S : Nat → Prop) (w : World) (hd : d ≤ maxLen) (hdl : bss.length ≤ d) (hb : RdL (Kd.sl Kd.byte) S w B bss) :
    Calls Try.prog 32 #[.int .i64 n, .slice B bss.length d] w fun e' w' => e' = .returned (.bool (fitsB n bss)) ∧ w = w' := by
  refine cps fun R hR => ?_
  unfold maxLen at hd
  have Hf := hide (fitsB_iff n bss)
  go_enter Try.func32, Try.ntmps32
  go_wp2_with fail
  go_loop [5] (fun i => ∃ k : Nat, k ≤ bss.length ∧ i = .int .i64 (k : Int) ∧ ∀ j (hj : j < bss.length), j < k → (bss[j].length : Int) = n) (fun i => bss.length - (intOf i).toNat)
  case atStart => exact ⟨0, Nat.zero_le _, rfl, fun j hj h => absurd h (by omega)⟩
  case round =>
    obtain ⟨k, hk, rfl, hall⟩ := hrel
    have Hall := hide hall
    clear hall
    by_cases hlt : k < bss.length
    · obtain ⟨b, off, u, rfl, hsb, hu, hcell⟩ := hb.at1 rfl hlt
      obtain ⟨Ab, cb, rfl, -, -, -⟩ := Kd.sl_cell hu
      clear hu
      by_cases hlen : (bss[k].length : Int) = n
      · have Hlen := hide hlen
        have ht : (((bss[k].length : Nat) : Int) != n) = false := by rw [bne_eq_false_iff_eq]; exact hlen
        clear hlen
        generalize bss[k].length = lb at hcell ht
        go_wp2_with fail
        go_round
        case rel =>
          refine ⟨k + 1, by omega, by go_num, fun j hj hjk => ?_⟩
          by_cases e : j = k
          · subst e; exact Hlen.out
          · exact Hall.out j hj (by omega)
        case measure => simp [intOf]; omega
      · have hff : fitsB n bss = false := by
          rw [Bool.eq_false_iff]
          intro h
          exact hlen ((Hf.out.1 h).2 _ (List.getElem_mem hlt))
        have ht : (((bss[k].length : Nat) : Int) != n) = true := by rw [bne_iff_ne]; exact hlen
        have Hff := hide hff
        clear hff hlen
        generalize bss[k].length = lb at hcell ht
        go_wp2_with fail
        exact hR.out _ _ ⟨by rw [Hff.out], rfl⟩
    · have hff : fitsB n bss = decide (0 ≤ n) := by
        rw [Bool.eq_iff_iff, Hf.out, decide_eq_true_eq]
        exact ⟨fun h => h.1, fun h => ⟨h, fun b hb => by
          obtain ⟨j, hj, rfl⟩ := List.mem_iff_getElem.1 hb
          exact Hall.out j hj (by omega)⟩⟩
      have Hff := hide hff
      clear hff
      go_wp2_with fail
      exact hR.out _ _ ⟨by rw [Hff.out], rfl⟩

/-! ### Byte by byte is block by block -/
def zs (n : Nat) : List UInt8 := List.replicate n 0
theorem xorL_getD (ts bs : List UInt8) (hl : bs.length = ts.length) (k : Nat) (hk : k < ts.length) : (xorL ts bs).getD k 0 = ts.getD k 0 ^^^ bs.getD k 0 := by
  have h1 : k < bs.length := by omega
  have h2 : k < (xorL ts bs).length := by rw [xorL_len ts bs hl]; exact hk
  simp only [List.getD_eq_getElem?_getD, List.getElem?_eq_getElem hk, List.getElem?_eq_getElem h1, List.getElem?_eq_getElem h2, Option.getD_some]
  simp [xorL]
/-- out behind k whole bytes, and i blocks put upon byte k. -/
def refK (n k : Nat) (r : List UInt8) : List UInt8 := r.take k ++ zs (n - k)
theorem refK_len (n k : Nat) (r : List UInt8) (hr : r.length = n) (hk : k ≤ n) : (refK n k r).length = n := by
  unfold refK zs
  rw [List.length_append, List.length_take, List.length_replicate]; omega
theorem refK_get? (n k i : Nat) (r : List UInt8) (hr : r.length = n) (hk : k ≤ n) : (refK n k r)[i]? = if i < k then r[i]? else if i < n then some 0 else none := by
  unfold refK zs
  have hlen : (r.take k).length = k := by rw [List.length_take]; omega
  by_cases hi : i < k
  · rw [if_pos hi, List.getElem?_append_left (by omega), List.getElem?_take, if_pos hi]
  · rw [if_neg hi, List.getElem?_append_right (by omega), hlen, List.getElem?_replicate]
    by_cases hn : i < n
    · rw [if_pos hn, if_pos (by omega)]
    · rw [if_neg hn, if_neg (by omega)]
theorem refK_set0 (n k : Nat) (r : List UInt8) (hr : r.length = n) (hk : k < n) : (refK n k r).set k 0 = refK n k r := by
  apply List.ext_getElem?
  intro i
  rw [List.getElem?_set, refK_get? n k i r hr (by omega), refK_len n k r hr (by omega)]
  by_cases e : k = i
  · subst e; simp [hk]
  · rw [if_neg e]
theorem refK_next (n k : Nat) (r : List UInt8) (hr : r.length = n) (hk : k < n) : (refK n k r).set k (r.getD k 0) = refK n (k + 1) r := by
  apply List.ext_getElem?
  intro i
  rw [List.getElem?_set, refK_get? n k i r hr (by omega), refK_get? n (k + 1) i r hr (by omega), refK_len n k r hr (by omega)]
  by_cases e : k = i
  · subst e
    rw [if_pos rfl, if_pos hk, if_pos (by omega)]
    simp [List.getD_eq_getElem?_getD, List.getElem?_eq_getElem (by omega : k < r.length)]
  · rw [if_neg e]
    by_cases hi : i < k
    · rw [if_pos hi, if_pos (by omega)]
    · rw [if_neg hi, if_neg (by omega : ¬ i < k + 1)]
theorem refK_all (n : Nat) (r : List UInt8) (hr : r.length = n) : refK n n r = r := by
  unfold refK zs
  rw [Nat.sub_self, List.replicate_zero, List.append_nil, List.take_of_length_le (by omega)]
theorem refK_zero (n : Nat) (r : List UInt8) : refK n 0 r = zs n := by simp [refK]

theorem refsum_calls (n : Nat) (B : Option Addr) (bss : List (List UInt8)) (d : Nat) (S : Nat → Prop) (w : World)
    (hn : n ≤ 16777216) (hd : d ≤ maxLen) (hdl : bss.length ≤ d) (hl : ∀ b ∈ bss, b.length = n) (hb : RdL (Kd.sl Kd.byte) S w B bss) (hS : ∀ k, S k → k < w.heap.size) :
    Calls Try.prog 33 #[.int .i64 (n : Int), .slice B bss.length d] w fun e' w' => e' = .returned (.slice (some ⟨w.heap.size, 0, none⟩) n n) ∧
      Wr w' (some ⟨w.heap.size, 0, none⟩) w.heap.size [] [] 5 (sumL (zs n) bss) ∧ w.heap.size < w'.heap.size ∧ Below w.heap.size w w' := by
  refine cps fun R hR => ?_
  have hmk := make_bytes n (by omega)
  unfold maxLen at hd
  have hsl : ∀ j, (sumL (zs n) (bss.take j)).length = n := fun j => sumL_len n _ _ (by simp [zs]) (fun b hb => hl b (List.mem_of_mem_take hb))
  have hrl : (sumL (zs n) bss).length = n := sumL_len n _ _ (by simp [zs]) hl
  have Hl := hide hl
  have Hsl := hide hsl
  have Hrl := hide hrl
  have Hsnoc := hide (fun k (hk : k < bss.length) => (by rw [List.take_succ_eq_append_getElem hk] : bss.take (k + 1) = bss.take k ++ [bss[k]]))
  clear hl hsl hrl
  go_enter Try.func33, Try.ntmps33
  go_wp2_with fail
  obtain ⟨W, hW⟩ : ∃ W, W = w.alloc (.cells (madeCells #[.int .u8 0] n) 5) := ⟨_, rfl⟩
  have hwr : Wr W (some ⟨w.heap.size, 0, none⟩) w.heap.size [] [] 5 (zs n) := by rw [hW]; exact Wr.made w n
  have hbl : Below w.heap.size w W := by rw [hW]; exact (Below.refl _ _).alloc (Nat.le_refl _) _
  have hsz : w.heap.size < W.heap.size := by rw [hW]; simp
  rw [← hW]
  clear hW hmk
  generalize hr : sumL (zs n) bss = r at hR Hrl
  have Hr := hide hr
  clear hr
  generalize w.heap.size = g at hwr hsz hR hbl hS ⊢
  go_loopw [6] (fun i wr => ∃ k : Nat, k ≤ n ∧ i = .int .i64 (k : Int) ∧ Wr wr (some ⟨g, 0, none⟩) g [] [] 5 (refK n k r) ∧ Below g w wr ∧ g < wr.heap.size) (fun i _ => n - (intOf i).toNat)
  case atStart => exact ⟨0, Nat.zero_le _, rfl, by rw [refK_zero]; exact hwr, hbl, hsz⟩
  case round =>
    obtain ⟨k, hk, rfl, hwk, hbk, hsk⟩ := hrel
    clear hwr hbl hsz W
    by_cases hkn : k < n
    · have hstart : (refK n k r).set k ((sumL (zs n) (bss.take 0)).getD k 0) = refK n k r := by
        rw [show (sumL (zs n) (bss.take 0)).getD k 0 = 0 by simp [sumL, zs, List.getD_eq_getElem?_getD, List.getElem?_replicate]; split <;> rfl]
        exact refK_set0 n k r Hrl.out hkn
      have Hstart := hide hstart
      clear hstart
      go_wp2_with fail
      go_loopw [7] (fun i wr' => ∃ j : Nat, j ≤ bss.length ∧ i = .int .i64 (j : Int) ∧ Wr wr' (some ⟨g, 0, none⟩) g [] [] 5 ((refK n k r).set k ((sumL (zs n) (bss.take j)).getD k 0)) ∧ Below g w wr' ∧ g < wr'.heap.size) (fun i _ => bss.length - (intOf i).toNat)
      case atStart => exact ⟨0, Nat.zero_le _, rfl, by rw [Hstart.out]; exact hwk, hbk, hsk⟩
      case round =>
        obtain ⟨j, hj, rfl, hwj, hbj, hsj⟩ := hrel
        clear hwk hbk hsk
        rename_i wr'
        by_cases hjl : j < bss.length
        · obtain ⟨b, off, u, rfl, hsb, hu, hcell⟩ := (hb.keep fun m hm => hbj.block m (hS m hm)).at1 rfl hjl
          obtain ⟨Ab, cb, rfl, hcb, hcm, hrd⟩ := Kd.sl_cell hu
          have hlen := Hl.out bss[j] (List.getElem_mem hjl)
          obtain ⟨b2, off2, u2, rfl, hsb2, hu2, hcell2⟩ := hrd.at1 rfl (by omega : k < bss[j].length)
          obtain rfl := Kd.byte_cell hu2
          have hcur : k < ((refK n k r).set k ((sumL (zs n) (bss.take j)).getD k 0)).length := by rw [List.length_set, refK_len n k r Hrl.out hk]; exact hkn
          obtain ⟨-, hc1, hf1⟩ := hwj.cell hcur
          rw [List.getElem_set_self] at hc1
          have hnext := hwj.set hcur ((sumL (zs n) (bss.take j)).getD k 0 ^^^ bss[j][k])
          have hsn : (sumL (zs n) (bss.take (j + 1))).getD k 0 = (sumL (zs n) (bss.take j)).getD k 0 ^^^ bss[j][k] := by
            rw [Hsnoc.out j hjl, sumL_snoc, xorL_getD _ _ (by rw [hlen, Hsl.out]) k (by rw [Hsl.out]; exact hkn)]
            congr 1
            simp [List.getD_eq_getElem?_getD, List.getElem?_eq_getElem (by omega : k < bss[j].length)]
          rw [List.set_set, ← hsn] at hnext
          have hx := xor8 ((sumL (zs n) (bss.take j)).getD k 0) bss[j][k]
          rw [← hsn] at hx
          simp only [List.length_nil, Nat.zero_add] at hc1 hf1 hnext
          rw [hlen] at hcell hcb
          have Hnext := hide hnext
          clear hnext hsn hu hrd hwj hcur hcm
          generalize (sumL (zs n) (bss.take j)).getD k 0 = x at hc1 hx
          generalize hz : (sumL (zs n) (bss.take (j + 1))).getD k 0 = z at hx Hnext
          have Hz := hide hz
          clear hz
          generalize bss[j][k] = y at hcell2 hx hu2
          clear hu2 hlen
          go_wp2_with fail
          go_still_tail 15, (by kernel_rfl)
          go_wp2_with fail
          refine ⟨⟨j + 1, by omega, by go_num, ?_, (hbj.setCell (Nat.le_refl _) _).drew, by simpa using hsj⟩, by simp [intOf]; omega⟩
          rw [Hz.out]; exact Hnext.out
        · obtain rfl : j = bss.length := by omega
          rw [List.take_length, Hr.out, refK_next n k r Hrl.out hkn] at hwj
          have Hwj := hide hwj
          clear hwj
          go_wp2_with fail
          go_roundw
          case rel => exact ⟨k + 1, by omega, by go_num, Hwj.out, hbj, hsj⟩
          case measure => simp [intOf]; omega
    · obtain rfl : k = n := by omega
      rw [refK_all k r Hrl.out] at hwk
      clear Hl Hsl Hsnoc Hr Hrl
      go_wp2_with fail
      exact hR.out _ _ ⟨rfl, hwk, hsk, hbk⟩
end Go.Proofs.Ytdppjhfndolbjaa
