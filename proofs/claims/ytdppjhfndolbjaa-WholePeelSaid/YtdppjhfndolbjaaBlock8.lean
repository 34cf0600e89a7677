/- The block functions, walked. -/
import Derived.Test.YtdppjhfndolbjaaByte
set_option linter.unusedVariables false
set_option linter.unusedSimpArgs false
namespace Go.Proofs.Ytdppjhfndolbjaa
open Go.RowKit

def xorL (ts bs : List UInt8) : List UInt8 := List.zipWith (· ^^^ ·) ts bs
theorem xorL_len (ts bs : List UInt8) (hl : bs.length = ts.length) : (xorL ts bs).length = ts.length := by simp [xorL, hl]
/-- k bytes have been put. -/
def xorK (k : Nat) (ts bs : List UInt8) : List UInt8 := (xorL ts bs).take k ++ ts.drop k
theorem xorK_len (k : Nat) (ts bs : List UInt8) (hl : bs.length = ts.length) : (xorK k ts bs).length = ts.length := by
  unfold xorK
  rw [List.length_append, List.length_take, List.length_drop, xorL_len ts bs hl]; omega
theorem xorK_zero (ts bs : List UInt8) : xorK 0 ts bs = ts := by simp [xorK]
theorem xorK_all (ts bs : List UInt8) (hl : bs.length = ts.length) : xorK ts.length ts bs = xorL ts bs := by
  unfold xorK
  rw [List.drop_length, List.append_nil, List.take_of_length_le (by rw [xorL_len ts bs hl]; exact Nat.le_refl _)]
theorem xorK_get? (k i : Nat) (ts bs : List UInt8) (hl : bs.length = ts.length) (hk : k ≤ ts.length) : (xorK k ts bs)[i]? = if i < k then (xorL ts bs)[i]? else ts[i]? := by
  unfold xorK
  have hlen : ((xorL ts bs).take k).length = k := by rw [List.length_take, xorL_len ts bs hl]; omega
  by_cases hi : i < k
  · rw [if_pos hi, List.getElem?_append_left (by omega), List.getElem?_take, if_pos hi]
  · rw [if_neg hi, List.getElem?_append_right (by omega), hlen, List.getElem?_drop]
    congr 1; omega
theorem xorK_get (k : Nat) (ts bs : List UInt8) (hl : bs.length = ts.length) (hk : k < ts.length) : (xorK k ts bs)[k]'(by rw [xorK_len k ts bs hl]; exact hk) = ts[k] := by
  have h := xorK_get? k k ts bs hl (by omega)
  rw [if_neg (by omega), List.getElem?_eq_getElem hk, List.getElem?_eq_getElem (by rw [xorK_len k ts bs hl]; exact hk)] at h
  exact Option.some.inj h
theorem xorK_succ (k : Nat) (ts bs : List UInt8) (hl : bs.length = ts.length) (hk : k < ts.length) : xorK (k + 1) ts bs = (xorK k ts bs).set k (ts[k] ^^^ bs[k]) := by
  apply List.ext_getElem?
  intro i
  rw [xorK_get? (k + 1) i ts bs hl (by omega), List.getElem?_set, xorK_get? k i ts bs hl (by omega)]
  by_cases hik : k = i
  · subst hik
    rw [if_pos (by omega), if_pos rfl, if_pos (by rw [xorK_len k ts bs hl]; exact hk)]
    unfold xorL
    rw [List.getElem?_zipWith, List.getElem?_eq_getElem hk, List.getElem?_eq_getElem (by omega : k < bs.length)]
  · rw [if_neg hik]
    by_cases hi : i < k
    · rw [if_pos hi, if_pos (by omega)]
    · rw [if_neg hi, if_neg (by omega)]

theorem xor_calls (A : Option Addr) (g : Nat) (pre post : List Value) (e : TypeId) (ts : List UInt8) (c : Nat) (B : Option Addr) (bs : List UInt8) (d : Nat) (S : Nat → Prop) (w : World)
    (hm : c ≤ maxLen) (hc : ts.length ≤ c) (hd : d ≤ maxLen) (hdl : bs.length ≤ d) (hw : Wr w A g pre post e ts) (hl : bs.length = ts.length) (hb : RdL Kd.byte S w B bs) (hS : ∀ k, S k → k < w.heap.size ∧ k ≠ g) :
    Calls Try.prog 38 #[.slice A ts.length c, .slice B bs.length d] w fun e' w' => e' = .returned (.tuple #[]) ∧ Wr w' A g pre post e (xorL ts bs) ∧ w.grownBy w' (some g) := by
  refine cps fun R hR => ?_
  unfold maxLen at hm hd
  have Hl := hide hl
  have hle : bs.length ≤ ts.length := by omega
  have hge : ts.length ≤ bs.length := by omega
  clear hl
  go_enter Try.func38, Try.ntmps38
  go_wp2_with fail
  go_loopw [8] (fun i wr => ∃ k : Nat, k ≤ bs.length ∧ i = .int .i64 (k : Int) ∧ Wr wr A g pre post e (xorK k ts bs) ∧ w.grownBy wr (some g)) (fun i _ => bs.length - (intOf i).toNat)
  case atStart => exact ⟨0, Nat.zero_le _, rfl, by rw [xorK_zero]; exact hw, World.grownBy.refl w _⟩
  case round =>
    obtain ⟨k, hk, rfl, hwr, hgr⟩ := hrel
    by_cases hlt : k < bs.length
    · have hkt : k < ts.length := by omega
      obtain ⟨b, off, u, rfl, hsb, hu, hcell⟩ := (hb.keep fun j hj => hgr.block j (hS j hj).1 (fun e => (hS j hj).2 (by injection e))).at1 rfl hlt
      obtain rfl := Kd.byte_cell hu
      have hkk : k < (xorK k ts bs).length := by rw [xorK_len k ts bs Hl.out]; exact hkt
      obtain ⟨hA, hc1, hf1⟩ := hwr.cell hkk
      rw [xorK_get k ts bs Hl.out hkt] at hc1
      have hnext := hwr.set hkk (ts[k] ^^^ bs[k])
      rw [← xorK_succ k ts bs Hl.out hkt] at hnext
      have hgn := grown_set' hgr (p := ⟨g, pre.length + k, none⟩) rfl (.int .u8 ((ts[k] ^^^ bs[k]).toNat : Int))
      have hx := xor8 ts[k] bs[k]
      subst hA
      generalize ts[k] ^^^ bs[k] = z at hnext hgn hx
      generalize ts[k] = x at hc1 hx
      generalize bs[k] = y at hcell hx hu
      have Hn := hide hnext
      have Hg := hide hgn
      clear hnext hgn hu hwr
      go_wp2_with fail
      go_roundw
      case rel => exact ⟨k + 1, by omega, by go_num, Hn.out, Hg.out⟩
      case measure => simp [intOf]; omega
    · have hk' : k = ts.length := by omega
      subst hk'
      have hfin := xorK_all ts bs Hl.out
      rw [hfin] at hwr
      have Hw := hide hwr
      clear hwr hfin
      go_wp2_with fail
      go_end0
      exact hR.out _ _ ⟨rfl, Hw.out, hgr⟩

def sumL (ts : List UInt8) (bss : List (List UInt8)) : List UInt8 := bss.foldl xorL ts
theorem sumL_len (n : Nat) : ∀ (bss : List (List UInt8)) (ts : List UInt8), ts.length = n → (∀ b ∈ bss, b.length = n) → (sumL ts bss).length = n := by
  intro bss
  induction bss with
  | nil => intro ts h _; exact h
  | cons b r ih =>
    intro ts h hb
    exact ih _ (by rw [xorL_len ts b (by rw [h, hb b (by simp)])]; exact h) (fun c hc => hb c (by simp [hc]))
theorem sumL_snoc (ts : List UInt8) (bss : List (List UInt8)) (b : List UInt8) : sumL ts (bss ++ [b]) = xorL (sumL ts bss) b := by simp [sumL, List.foldl_append]

theorem xorall_yes (A : Option Addr) (g : Nat) (pre post : List Value) (e : TypeId) (ts : List UInt8) (c : Nat) (B : Option Addr) (bss : List (List UInt8)) (d : Nat) (S : Nat → Prop) (w : World)
    (hm : c ≤ maxLen) (hc : ts.length ≤ c) (hd : d ≤ maxLen) (hdl : bss.length ≤ d) (hw : Wr w A g pre post e ts) (hl : ∀ b ∈ bss, b.length = ts.length) (hb : RdL (Kd.sl Kd.byte) S w B bss) (hS : ∀ k, S k → k < w.heap.size ∧ k ≠ g) :
    Calls Try.prog 35 #[.slice A ts.length c, .slice B bss.length d] w fun e' w' => e' = .returned (.bool true) ∧ Wr w' A g pre post e (sumL ts bss) ∧ w.grownBy w' (some g) := by
  refine cps fun R hR => ?_
  have hm' := hm
  have hd' := hd
  unfold maxLen at hm' hd'
  have Hl := hide hl
  clear hl
  have Hsnoc := hide (fun k (hk : k < bss.length) => (by rw [List.take_succ_eq_append_getElem hk] : bss.take (k + 1) = bss.take k ++ [bss[k]]))
  go_enter Try.func35, Try.ntmps35
  go_wp2_with fail
  go_loop [11] (fun i => ∃ k : Nat, k ≤ bss.length ∧ i = .int .i64 (k : Int)) (fun i => bss.length - (intOf i).toNat)
  case atStart => exact ⟨0, Nat.zero_le _, rfl⟩
  case round =>
    obtain ⟨k, hk, rfl⟩ := hrel
    by_cases hlt : k < bss.length
    · obtain ⟨b, off, u, rfl, hsb, hu, hcell⟩ := hb.at1 rfl hlt
      obtain ⟨Ab, cb, rfl, -, -, -⟩ := Kd.sl_cell hu
      have hlen := Hl.out bss[k] (List.getElem_mem hlt)
      rw [hlen] at hcell hu
      clear hu hlen
      go_wp2_with fail
      go_round
      case rel => exact ⟨k + 1, by omega, by go_num⟩
      case measure => simp [intOf]; omega
    · clear hk
      go_wp2_with fail
      go_loopw [23] (fun i wr => ∃ k : Nat, k ≤ bss.length ∧ i = .int .i64 (k : Int) ∧ Wr wr A g pre post e (sumL ts (bss.take k)) ∧ w.grownBy wr (some g)) (fun i _ => bss.length - (intOf i).toNat)
      case atStart => exact ⟨0, Nat.zero_le _, rfl, hw, World.grownBy.refl w _⟩
      case round =>
        obtain ⟨j, hj, rfl, hwr, hgr⟩ := hrel
        by_cases hjl : j < bss.length
        · have hSr : ∀ k, S k → wr.heap[k]? = w.heap[k]? := fun k hk => hgr.block k (hS k hk).1 (fun e => (hS k hk).2 (by injection e))
          obtain ⟨b, off, u, rfl, hsb, hu, hcell⟩ := (hb.keep hSr).at1 rfl hjl
          obtain ⟨Ab, cb, rfl, hcb, hcm, hrd⟩ := Kd.sl_cell hu
          have hlen := Hl.out bss[j] (List.getElem_mem hjl)
          have hts : (sumL ts (bss.take j)).length = ts.length := sumL_len ts.length _ ts rfl (fun b hb => Hl.out b (List.mem_of_mem_take hb))
          have hcall := xor_calls A g pre post e (sumL ts (bss.take j)) c Ab bss[j] cb S wr hm (by omega) hcm hcb hwr (by omega) hrd (fun k hk => ⟨Nat.lt_of_lt_of_le (hS k hk).1 hgr.size, (hS k hk).2⟩)
          rw [← sumL_snoc, ← Hsnoc.out j hjl, hts, hlen] at hcall
          rw [hlen] at hcell
          have Hcall := hide hcall
          clear hcall hwr hrd hu hts hlen hcb hcm
          go_wp2_with fail
          refine Hcall.out.mono ?_
          rintro e' w1 ⟨rfl, hw1, hg1⟩
          have hgr1 := hgr.trans hg1
          go_wp2_with fail
          go_roundw
          case rel => exact ⟨j + 1, by omega, by go_num, hw1, hgr1⟩
          case measure => simp [intOf]; omega
        · obtain rfl : j = bss.length := by omega
          rw [List.take_length] at hwr
          go_wp2_with fail
          exact hR.out _ _ ⟨rfl, hwr, hgr⟩

theorem xorall_no (A : Option Addr) (ts : List UInt8) (c : Nat) (B : Option Addr) (bss : List (List UInt8)) (d : Nat) (S : Nat → Prop) (w : World)
    (hm : c ≤ maxLen) (hc : ts.length ≤ c) (hd : d ≤ maxLen) (hdl : bss.length ≤ d) (hno : ¬ ∀ b ∈ bss, b.length = ts.length) (hb : RdL (Kd.sl Kd.byte) S w B bss) :
    Calls Try.prog 35 #[.slice A ts.length c, .slice B bss.length d] w fun e' w' => e' = .returned (.bool false) ∧ w = w' := by
  refine cps fun R hR => ?_
  unfold maxLen at hm hd
  have Hno := hide hno
  clear hno
  go_enter Try.func35, Try.ntmps35
  go_wp2_with fail
  go_loop [11] (fun i => ∃ k : Nat, k ≤ bss.length ∧ i = .int .i64 (k : Int) ∧ ∀ j (hj : j < bss.length), j < k → bss[j].length = ts.length) (fun i => bss.length - (intOf i).toNat)
  case atStart => exact ⟨0, Nat.zero_le _, rfl, fun j hj h => absurd h (by omega)⟩
  case round =>
    obtain ⟨k, hk, rfl, hall⟩ := hrel
    by_cases hlt : k < bss.length
    · obtain ⟨b, off, u, rfl, hsb, hu, hcell⟩ := hb.at1 rfl hlt
      obtain ⟨Ab, cb, rfl, -, -, -⟩ := Kd.sl_cell hu
      have Hall := hide hall
      clear hall
      by_cases hlen : bss[k].length = ts.length
      · have Hlen := hide hlen
        rw [hlen] at hcell
        clear hu hlen
        go_wp2_with fail
        go_round
        case rel =>
          refine ⟨k + 1, by omega, by go_num, fun j hj hjk => ?_⟩
          by_cases e : j = k
          · subst e; exact Hlen.out
          · exact Hall.out j hj (by omega)
        case measure => simp [intOf]; omega
      · clear hu
        generalize bss[k].length = lb at hcell hlen
        go_wp2_with fail
        exact hR.out _ _ ⟨rfl, rfl⟩
    · exact absurd (fun b hb => by
        obtain ⟨j, hj, rfl⟩ := List.mem_iff_getElem.1 hb
        exact hall j hj (by omega)) Hno.out

def zeroB (xs : List UInt8) : Bool := xs.all (· == 0)
def orL (xs : List UInt8) : UInt8 := xs.foldl (· ||| ·) 0
theorem orL_snoc (xs : List UInt8) (x : UInt8) : orL (xs ++ [x]) = orL xs ||| x := by simp [orL, List.foldl_append]
theorem or_zero (a b : UInt8) : a ||| b = 0 ↔ a = 0 ∧ b = 0 := by
  rw [← UInt8.toNat_inj, ← UInt8.toNat_inj, ← UInt8.toNat_inj, UInt8.toNat_or]
  simp
theorem orL_zero (xs : List UInt8) : (orL xs == 0) = zeroB xs := by
  have h : ∀ (l : List UInt8) (a : UInt8), l.foldl (· ||| ·) a = 0 ↔ a = 0 ∧ ∀ x ∈ l, x = 0 := by
    intro l
    induction l with
    | nil => intro a; simp
    | cons y r ih => intro a; rw [List.foldl_cons, ih, or_zero]; simp [and_assoc]
  rw [Bool.eq_iff_iff, beq_iff_eq]
  unfold orL zeroB
  rw [h]; simp

theorem zero_calls (A : Option Addr) (xs : List UInt8) (c : Nat) (S : Nat → Prop) (w : World) (hm : c ≤ maxLen) (hc : xs.length ≤ c) (h : RdL Kd.byte S w A xs) :
    Calls Try.prog 26 #[.slice A xs.length c] w fun e' w' => e' = .returned (.bool (zeroB xs)) ∧ w = w' := by
  refine cps fun R hR => ?_
  unfold maxLen at hm
  have Hsnoc := hide (fun k (hk : k < xs.length) => (by rw [List.take_succ_eq_append_getElem hk] : xs.take (k + 1) = xs.take k ++ [xs[k]]))
  go_enter Try.func26, Try.ntmps26
  go_wp2_with fail
  go_loop [3, 8] (fun o i => ∃ k : Nat, k ≤ xs.length ∧ i = .int .i64 (k : Int) ∧ o = .int .u8 ((orL (xs.take k)).toNat : Int)) (fun _ i => xs.length - (intOf i).toNat)
  case atStart => exact ⟨0, Nat.zero_le _, rfl, rfl⟩
  case round =>
    obtain ⟨k, hk, rfl, rfl⟩ := hrel
    by_cases hlt : k < xs.length
    · obtain ⟨b, off, u, rfl, hsb, hu, hcell⟩ := h.at1 rfl hlt
      obtain rfl := Kd.byte_cell hu
      have hn := orL_snoc (xs.take k) xs[k]
      rw [← Hsnoc.out k hlt] at hn
      have ho := or8 (orL (xs.take k)) xs[k]
      rw [← hn] at ho
      have Hn := hide ho
      clear ho hn hu
      generalize orL (xs.take k) = a at Hn ⊢
      generalize xs[k] = x at Hn hcell
      go_wp2_with fail
      go_round
      case rel => exact ⟨k + 1, by omega, by go_num, by rw [Hn.out]⟩
      case measure => simp [intOf]; omega
    · obtain rfl : k = xs.length := by omega
      rw [List.take_length]
      have hz := orL_zero xs
      have he := eq8 (orL xs) 0
      rw [hz] at he
      have he' : (((orL xs).toNat : Int) == 0) = zeroB xs := he
      generalize orL xs = a at he' ⊢
      clear he hz
      go_wp2_with fail
      exact hR.out _ _ ⟨rfl, rfl⟩

theorem infoB : (Try.prog.info? 5).map (fun i => (i.zero, i.size, i.bytes)) = some (some (.int .u8 0), 1, 1) := by kernel_rfl
/-- make([]byte, n). -/
theorem make_bytes (n : Nat) (hn : n ≤ 281474976710656) (w : World) : (Instr.makeSlice 38 (.int .i64 (n : Int)) (.int .i64 (n : Int))).run Try.prog w = .ok (.slice (some ⟨w.heap.size, 0, none⟩) n n) (w.alloc (.cells (madeCells #[.int .u8 0] n) 5)) :=
  run_make_row' 38 5 (.int .u8 0) 1 Try.underlying38 infoB rfl .i64 .i64 n (by omega) (by omega) w
theorem made_cells (n : Nat) : madeCells #[.int .u8 0] n = ((List.replicate n (0 : UInt8)).map encB).toArray := by
  rw [List.map_replicate, ← Array.toList_inj, toList_madeCells_one]; rfl
theorem Row.made (w : World) (n : Nat) (hn : n ≤ 281474976710656) : Row (w.alloc (.cells (madeCells #[.int .u8 0] n) 5)) 5 (.slice (some ⟨w.heap.size, 0, none⟩) n n) ((List.replicate n (0 : UInt8)).map encB) := by
  rw [made_cells]
  have h := Row.lit (w := w) (e := 5) ((List.replicate n (0 : UInt8)).map encB) (by simp [maxLen]; omega)
  simpa using h
/-- What was written is a row still. -/
theorem Wr.row {w : World} {g : Nat} {post : List Value} {e : TypeId} {ts : List UInt8} {c : Nat} (h : Wr w (some ⟨g, 0, none⟩) g [] post e ts) (hp : 0 < ts.length) (hc : post.length + ts.length = c) (hm : c ≤ maxLen) : Row w e (.slice (some ⟨g, 0, none⟩) ts.length c) (ts.map encB) := by
  obtain ⟨_, hh⟩ := h hp
  exact ⟨by simp, .inr ⟨g, c, _, by simp, Nat.zero_le _, hh, by simp; omega, hm, by simp; omega, by simp⟩⟩
/-- The bytes of a new block are written from its head. -/
theorem Wr.made (w : World) (n : Nat) : Wr (w.alloc (.cells (madeCells #[.int .u8 0] n) 5)) (some ⟨w.heap.size, 0, none⟩) w.heap.size [] [] 5 (List.replicate n (0 : UInt8)) := fun hp => by
  refine ⟨rfl, ?_⟩
  rw [made_cells]
  simpa using heap_alloc_new w (.cells ((List.replicate n (0 : UInt8)).map encB).toArray 5 (0, 0))

end Go.Proofs.Ytdppjhfndolbjaa
