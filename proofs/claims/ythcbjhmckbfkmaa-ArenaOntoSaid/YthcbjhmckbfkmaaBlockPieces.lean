/- BlockPieces, walked. -/
import Derived.Test.YthcbjhmckbfkmaaBlockTwice
import Derived.Test.YthcbjhmckbfkmaaNew
import Derived.Deep.RegionHeld
import Derived.StillTailTactics
import Derived.Deep.RegionHeldLaw
import Derived.Deep.Cut
import Derived.Deep.CutRange
set_option linter.unusedVariables false
set_option linter.unusedSimpArgs false
namespace Go.Proofs.Ythcbjhmckbfkmaa
open Go.RowKit

theorem run_min2 (P : Program) (w : World) (ts : Array TypeId) (t : TypeId) (a b : Nat) : (Builtin.min_ ts t #[.int .i64 (a : Int), .int .i64 (b : Int)]).run P w = .ok (.int .i64 ((min a b : Nat) : Int)) w := by
  have e : ((min a b : Nat) : Int) = if (b : Int) < (a : Int) then (b : Int) else a := by
    split
    all_goals omega
  rw [e]
  simp [Builtin.min_, Builtin.min2]

theorem held_alloc {w x : World} {o : Obj} (h : Hid (Below w.heap.size w x)) : Hid (Below w.heap.size w (x.alloc o)) := hide (h.out.alloc h.out.size o)
theorem held_drew {w x : World} (h : Hid (Below w.heap.size w x)) : Hid (Below w.heap.size w x.drew) := hide h.out.drew
theorem held_new {w x y : World} (hb : Below x.heap.size x y) (h : Hid (Below w.heap.size w x)) : Hid (Below w.heap.size w y) := hide (h.out.trans (hb.mono h.out.size))

theorem two_fin {w1 W1 wv1 W2 wv2 : World} {n : Nat} {xs : List UInt8} {A1 A2 : Option Addr} {g1 g2 c1 c2 : Nat} {post1 post2 : List Value} (hl : xs.length = n) (h0 : Below w1.heap.size w1 W1) (hb1 : Below W1.heap.size W1 wv1) (h12 : Below wv1.heap.size wv1 W2) (hb2 : Below W2.heap.size W2 wv2)
    (hle1 : xs.length ≤ c1) (hm1 : c1 ≤ maxLen) (hgl1 : W1.heap.size ≤ g1) (hg1 : 0 < xs.length → g1 < wv1.heap.size ∧ post1.length + xs.length = c1) (hwr1 : ∀ x, Below wv1.heap.size wv1 x → Wr x A1 g1 [] post1 5 xs)
    (hle2 : xs.length ≤ c2) (hm2 : c2 ≤ maxLen) (hgl2 : W2.heap.size ≤ g2) (hg2 : 0 < xs.length → g2 < wv2.heap.size ∧ post2.length + xs.length = c2) (hwr2 : ∀ x, Below wv2.heap.size wv2 x → Wr x A2 g2 [] post2 5 xs) :
    Value.int .i64 0 = Value.int .i64 0 ∧ Below w1.heap.size w1 wv2 ∧ ∃ A1' g1 post1 c1' A2' g2 post2 c2', Value.slice A1 n c1 = .slice A1' n c1' ∧ n ≤ c1' ∧ c1' ≤ maxLen ∧ Value.slice A2 n c2 = .slice A2' n c2' ∧ n ≤ c2' ∧ c2' ≤ maxLen ∧
      w1.heap.size ≤ g1 ∧ w1.heap.size ≤ g2 ∧ (0 < n → g1 < wv2.heap.size ∧ g2 < wv2.heap.size ∧ g1 ≠ g2) ∧ Wr wv2 A1' g1 [] post1 5 xs ∧ Wr wv2 A2' g2 [] post2 5 xs := by
  subst hl
  have s0 := h0.size
  have s1 := hb1.size
  have s2 := h12.size
  have s3 := hb2.size
  have e1 := h0.trans (hb1.mono s0)
  have e2 := e1.trans (h12.mono e1.size)
  have e3 := e2.trans (hb2.mono e2.size)
  have f2 := h12.trans (hb2.mono s2)
  exact ⟨rfl, e3, A1, g1, post1, c1, A2, g2, post2, c2, rfl, hle1, hm1, rfl, hle2, hm2, Nat.le_trans s0 hgl1, by omega, fun hp => by have := hg1 hp; have := hg2 hp; omega, hwr1 _ f2, hwr2 _ (Below.refl _ _)⟩

theorem step_num (x : UInt8) : wrap64 (1 + (wrap64 (x.toNat : Int)).tmod 20) = ((1 + x.toNat % 20 : Nat) : Int) := by
  have hx : x.toNat < 256 := x.toNat_lt
  have h1 : wrap64 (x.toNat : Int) = x.toNat := by unfold wrap64; omega
  rw [h1, Int.tmod_eq_emod_of_nonneg (by omega)]
  unfold wrap64; omega

/-! ### A piece of a row -/
theorem RdL.seg {α : Type} {dd : Kd α} {S : Nat → Prop} {w : World} {b off : Nat} {xs : List α} (h : RdL dd S w (some ⟨b, off, none⟩) xs) (h1 : dd.sz = 1) (j k : Nat) (hjk : j + k ≤ xs.length) : RdL dd S w (some ⟨b, off + j, none⟩) ((xs.drop j).take k) := fun hp => by
  rw [List.length_take, List.length_drop] at hp
  obtain ⟨b', off', e, hs, hc⟩ := h (by omega)
  injection e with e
  injection e with e1 e2 _
  subst e1; subst e2
  refine ⟨b, off + j, rfl, hs, fun i x hx => ?_⟩
  rw [List.getElem?_take] at hx
  split at hx
  · rw [List.getElem?_drop] at hx
    obtain ⟨cs, hr, hcell⟩ := hc _ x hx
    refine ⟨cs, hr, fun q u hu => ?_⟩
    have := hcell q u hu
    rw [h1] at this ⊢
    rw [show off + j + (i * 1 + q) = off + ((j + i) * 1 + q) by omega]
    exact this
  · cases hx
theorem Wr.seg {w : World} {g : Nat} {post : List Value} {e : TypeId} {ts : List UInt8} (h : Wr w (some ⟨g, 0, none⟩) g [] post e ts) (j k : Nat) (hjk : j + k ≤ ts.length) :
    Wr w (some ⟨g, j, none⟩) g ((ts.take j).map encB) ((ts.drop (j + k)).map encB ++ post) e ((ts.drop j).take k) := fun hp => by
  rw [List.length_take, List.length_drop] at hp
  obtain ⟨_, hh⟩ := h (by omega)
  refine ⟨by rw [List.length_map, List.length_take, Nat.min_eq_left (by omega)], ?_⟩
  rw [hh]
  congr 2
  rw [List.nil_append, ← List.append_assoc, ← List.append_assoc, ← List.map_append, ← List.map_append]
  congr 3
  rw [List.append_assoc, ← List.drop_drop, List.take_append_drop, List.take_append_drop]
theorem Wr.unseg {w : World} {g : Nat} {post : List Value} {e : TypeId} {ts seg : List UInt8} (j k : Nat) (hjk : j + k ≤ ts.length) (hk : 0 < k) (hl : seg.length = k)
    (h : Wr w (some ⟨g, j, none⟩) g ((ts.take j).map encB) ((ts.drop (j + k)).map encB ++ post) e seg) : Wr w (some ⟨g, 0, none⟩) g [] post e (ts.take j ++ seg ++ ts.drop (j + k)) := fun hp => by
  obtain ⟨_, hh⟩ := h (by omega)
  refine ⟨rfl, ?_⟩
  rw [hh]
  congr 2
  rw [List.nil_append, ← List.append_assoc, ← List.append_assoc, ← List.map_append, ← List.map_append]
theorem xorK_piece (j k : Nat) (ts bs : List UInt8) (hl : bs.length = ts.length) (hjk : j + k ≤ ts.length) : (xorK j ts bs).take j ++ xorL (((xorK j ts bs).drop j).take k) ((bs.drop j).take k) ++ (xorK j ts bs).drop (j + k) = xorK (j + k) ts bs := by
  have hx : (xorL ts bs).length = ts.length := xorL_len ts bs hl
  have hlen : ((xorL ts bs).take j).length = j := by rw [List.length_take, hx]; omega
  have h1 : (xorK j ts bs).take j = (xorL ts bs).take j := by
    unfold xorK
    rw [List.take_append_of_le_length (by omega), List.take_take, Nat.min_self]
  have h2 : (xorK j ts bs).drop j = ts.drop j := by
    unfold xorK
    rw [List.drop_append_of_le_length (by omega), List.drop_eq_nil_of_le (by omega), List.nil_append]
  have h3 : (xorK j ts bs).drop (j + k) = ts.drop (j + k) := by
    rw [← List.drop_drop, h2, List.drop_drop]
  have h4 : xorL ((ts.drop j).take k) ((bs.drop j).take k) = ((xorL ts bs).drop j).take k := by
    unfold xorL
    rw [List.drop_zipWith, List.take_zipWith]
  rw [h1, h2, h3, h4]
  unfold xorK
  rw [List.take_add]
theorem piece_xor {w1 wr : World} {g c : Nat} {post : List Value} {ts bs : List UInt8} {bb off d j k n : Nat} (hts : ts.length = n) (hbs : bs.length = n) (hjk : j + k ≤ n) (hk : 0 < k) (hc : n ≤ c) (hm : c ≤ maxLen) (hd : n ≤ d) (hdm : d ≤ maxLen)
    (hw : Wr wr (some ⟨g, 0, none⟩) g [] post 5 ts) (hb : RdL Kd.byte (· < w1.heap.size) wr (some ⟨bb, off, none⟩) bs) (hg1 : w1.heap.size ≤ g) (hg2 : g < wr.heap.size) (hbel : Below w1.heap.size w1 wr) {o : Obj} (ho : o = .cells #[.slice (some ⟨bb, off + j, none⟩) k (d - j)] 22) :
    Calls Try.prog 14 #[.slice (some ⟨g, j, none⟩) k (c - j), .slice (some ⟨wr.heap.size, 0, none⟩) 1 1] (wr.alloc o).drew fun e' w' => e' = .returned (.bool true) ∧
      Wr w' (some ⟨g, 0, none⟩) g [] post 5 (ts.take j ++ xorL ((ts.drop j).take k) ((bs.drop j).take k) ++ ts.drop (j + k)) ∧ Below w1.heap.size w1 w' ∧ wr.heap.size ≤ w'.heap.size ∧ ∀ b, b < wr.heap.size → b ≠ g → w'.heap[b]? = wr.heap[b]? := by
  have lseg : ((bs.drop j).take k).length = k := by rw [List.length_take, List.length_drop]; omega
  have tseg : ((ts.drop j).take k).length = k := by rw [List.length_take, List.length_drop]; omega
  obtain ⟨W, hW, hL, hbW, hsW, hkW⟩ := lit_row1 hbel hbel.size (xs := (bs.drop j).take k) (c := d - j) (by rw [lseg]; omega) (by omega) (hb.seg rfl j k (by omega)) (fun q hq => Nat.lt_of_lt_of_le hq hbel.size) (o := .cells #[.slice (some ⟨bb, off + j, none⟩) k (d - j)] 22) (by rw [lseg])
  subst ho
  rw [← hW]
  have hL' : RdL (Kd.sl Kd.byte) (fun q => q < w1.heap.size ∨ q = wr.heap.size) W.drew (some ⟨wr.heap.size, 0, none⟩) [(bs.drop j).take k] := hL.keep fun _ _ => rfl
  have hseg : Wr W.drew (some ⟨g, j, none⟩) g ((ts.take j).map encB) ((ts.drop (j + k)).map encB ++ post) 5 ((ts.drop j).take k) := ((hw.keep (hkW.block _ hg2)).seg j k (by omega)).keep rfl
  have hx := xorall_yes (some ⟨g, j, none⟩) g ((ts.take j).map encB) ((ts.drop (j + k)).map encB ++ post) 5 ((ts.drop j).take k) (c - j) _ [(bs.drop j).take k] 1 _ W.drew (by omega) (by rw [tseg]; omega) (by unfold maxLen; omega) (by simp) hseg (by simp [lseg, tseg]) hL' (fun q hq => by
    have hq' : q < w1.heap.size ∨ q = wr.heap.size := hq
    have hs : W.drew.heap.size = wr.heap.size + 1 := hsW
    have := hbel.size
    constructor <;> rcases hq' with hq' | hq' <;> omega)
  rw [tseg] at hx
  refine hx.mono ?_
  rintro e w' ⟨rfl, h1, h2⟩
  have hs : W.drew.heap.size = wr.heap.size + 1 := hsW
  refine ⟨rfl, Wr.unseg j k (by omega) hk (by show (xorL _ _).length = k; rw [xorL_len _ _ (by rw [lseg, tseg]), tseg]) h1, hbW.drew.grown h2 (by have := hbel.size; omega) (fun q hq => by injection hq with hq; omega), by have := h2.size; omega, fun b hb hbg => ?_⟩
  rw [h2.block b (by omega) (fun e => hbg (by injection e)), ← hkW.block b hb]
  rfl

set_option maxHeartbeats 1000000 in
theorem pieces_calls (A : Option Addr) (ts : List UInt8) (c : Nat) (B : Option Addr) (bs : List UInt8) (d : Nat) (C : Option Addr) (cu : List UInt8) (f : Nat) (w : World)
    (ham : c ≤ maxLen) (hal : ts.length ≤ c) (har : RdL Kd.byte (· < w.heap.size) w A ts) (hbm : d ≤ maxLen) (hbl : bs.length ≤ d) (hbr : RdL Kd.byte (· < w.heap.size) w B bs) (hcm : f ≤ maxLen) (hcl : cu.length ≤ f) (hcr : RdL Kd.byte (· < w.heap.size) w C cu) :
    Calls Try.prog 4 #[.slice A ts.length c, .slice B bs.length d, .slice C cu.length f] w fun e w' => e = .returned (.bool true) ∧ Below w.heap.size w w' := by
  refine cps fun R hR => ?_
  have ham' := ham
  have hbm' := hbm
  have hcm' := hcm
  unfold maxLen at ham' hbm' hcm'
  go_enter Try.func4, Try.ntmps4
  go_wp2_with fail
  refine (speaks_calls w).mono ?_
  rintro e w1 ⟨rfl, hb1⟩
  replace har := (har.below hb1).mono fun k h => Nat.lt_of_lt_of_le h hb1.size
  replace hbr := (hbr.below hb1).mono fun k h => Nat.lt_of_lt_of_le h hb1.size
  replace hcr := (hcr.below hb1).mono fun k h => Nat.lt_of_lt_of_le h hb1.size
  by_cases h300 : 300 < ts.length
  · clear har hbr hcr
    go_wp2_with fail
    exact hR.out _ _ ⟨rfl, hb1⟩
  by_cases h100 : 100 < cu.length
  · clear har hbr hcr
    go_wp2_with fail
    exact hR.out _ _ ⟨rfl, hb1⟩
  have hmin := run_min2 Try.prog w1 #[3, 3] 3 ts.length bs.length
  generalize hn : min ts.length bs.length = n at hmin
  have na : n ≤ ts.length := by omega
  have nb : n ≤ bs.length := by omega
  clear hn
  have i0 : (0 : Int) ≤ (n : Int) := by omega
  have i1 : (n : Int) ≤ (c : Int) := by omega
  have i2 : (n : Int) ≤ (d : Int) := by omega
  go_upto_region 6 with fail
  have Hs := hide (show ∀ x, Below w1.heap.size w1 x → Src x A ((ts.take n).map encB) from fun x hx => ((har.below hx).take n).srcB)
  have lt : ((ts.take n).map encB).length = n := by rw [List.length_map, List.length_take]; omega
  have h1w : Hid (Below w1.heap.size w1 w1.drew) := hide (Below.refl _ _).drew
  go_cut [8, 9, 10] from 28 to 37 (fun x y z wx => z = .int .i64 0 ∧ Below w1.heap.size w1 wx ∧ ∃ A1 g1 post1 c1 A2 g2 post2 c2, x = .slice A1 n c1 ∧ n ≤ c1 ∧ c1 ≤ maxLen ∧ y = .slice A2 n c2 ∧ n ≤ c2 ∧ c2 ≤ maxLen ∧
    w1.heap.size ≤ g1 ∧ w1.heap.size ≤ g2 ∧ (0 < n → g1 < wx.heap.size ∧ g2 < wx.heap.size ∧ g1 ≠ g2) ∧ Wr wx A1 g1 [] post1 5 (ts.take n) ∧ Wr wx A2 g2 [] post2 5 (ts.take n))
  case first =>
    go_region_held_law (fun x => Hid (Below w1.heap.size w1 x)) (repeat (first | assumption | exact hide (Below.refl _ _) | refine held_alloc ?_ | refine held_drew ?_ | refine held_new (by assumption) ?_)) (first
      | (rw [if_pos (by rfl)]
         refine op_app_lit 32 rfl (.tmp 28) (.tmp 31) 22 rfl Try.underlying22 infoB rfl (news := (ts.take n).map encB) rfl (by rw [lt]; rfl) (Hs.out _ (Hid.out (by assumption))) (encB_one _) (by rw [lt]; omega) (by rw [lt]; unfold maxLen; omega) ?_
         intro v1 wv1 hn1
         obtain ⟨A1, g1, post1, c1, rfl, hle1, hm1, hbel1, hgl1, hg1, hwr1⟩ := hn1.wr
         clear hn1)
      | (rw [if_pos (by rfl)]
         refine op_app_lit 37 rfl (.tmp 33) (.tmp 36) 22 rfl Try.underlying22 infoB rfl (news := (ts.take n).map encB) rfl (by rw [lt]; rfl) (Hs.out _ (Hid.out (by assumption))) (encB_one _) (by rw [lt]; omega) (by rw [lt]; unfold maxLen; omega) ?_
         intro v2 wv2 hn2
         obtain ⟨A2, g2, post2, c2, rfl, hle2, hm2, hbel2, hgl2, hg2, hwr2⟩ := hn2.wr
         clear hn2))
    all_goals (go_wp2_with fail; go_meet)
    all_goals exact two_fin (by simpa using lt) (Hid.out (by repeat (first | exact hide (Below.refl _ _) | refine held_drew ?_ | refine held_alloc ?_))) hbel1 (Hid.out (by repeat (first | exact hide (Below.refl _ _) | refine held_drew ?_ | refine held_alloc ?_))) hbel2 hle1 hm1 hgl1 hg1 hwr1 hle2 hm2 hgl2 hg2 hwr2
  case rest =>
  obtain ⟨rfl, hbc, A1, g1, post1, c1, A2, g2, post2, c2, rfl, hc1, hm1, rfl, hc2, hm2, hgl1, hgl2, hgs, hw1, hw2⟩ := hcut
  have hbw := hb1.trans (hbc.mono hb1.size)
  have Hbr := hide hbr
  have Hbz := hide (hbr.take n)
  have Hcr := hide hcr
  have hbr' := (hbr.below hbc).take n
  have lb : (bs.take n).length = n := by rw [List.length_take]; omega
  have lt' : (ts.take n).length = n := by rw [List.length_take]; omega
  have Hmin := hide hmin
  clear har hmin Hs h1w lt hbr hcr
  generalize ts.take n = xs at hw1 hw2 lt'
  go_wp2_with fail
  have Hxor := (show ∀ W', W' = wc.alloc (.cells #[.slice B n d] 22) → Calls Try.prog 14 #[.slice A1 n c1, .slice (some ⟨wc.heap.size, 0, none⟩) 1 1] W' fun e' w' => e' = .returned (.bool true) ∧ Wr w' A1 g1 [] post1 5 (xorL xs (bs.take n)) ∧ Wr w' A2 g2 [] post2 5 xs ∧ Below w1.heap.size w1 w' ∧ wc.heap.size ≤ w'.heap.size from fun W' e => by
    obtain ⟨W, hW, hL, hbW, hsW, hkW⟩ := lit_row1 hbc hbc.size (xs := bs.take n) (c := d) (by rw [lb]; omega) hbm (hbr'.mono fun k h => h) (fun k hk => Nat.lt_of_lt_of_le hk hbc.size) (o := .cells #[.slice B n d] 22) (by rw [lb])
    rw [← hW] at e
    subst e
    have hk1 : Wr W' A1 g1 [] post1 5 xs := by
      rcases Nat.eq_zero_or_pos n with h0 | h0
      · intro hp; omega
      · exact hw1.keep (hkW.block _ (hgs h0).1)
    have hk2 : Wr W' A2 g2 [] post2 5 xs := by
      rcases Nat.eq_zero_or_pos n with h0 | h0
      · intro hp; omega
      · exact hw2.keep (hkW.block _ (hgs h0).2.1)
    obtain ⟨G, hG1, hG2, hWr, hback, hne⟩ : ∃ G, w1.heap.size ≤ G ∧ G ≠ wc.heap.size ∧ Wr W' A1 G [] post1 5 xs ∧ (∀ w' ys, ys.length = n → Wr w' A1 G [] post1 5 ys → Wr w' A1 g1 [] post1 5 ys) ∧ (0 < n → G = g1) := by
      rcases Nat.eq_zero_or_pos n with h0 | h0
      · exact ⟨wc.heap.size + 1, Nat.le_succ_of_le hbc.size, by omega, fun hp => by omega, fun w' ys hy _ hp => by omega, fun h => by omega⟩
      · exact ⟨g1, hgl1, by have := (hgs h0).1; omega, hk1, fun w' ys hy h => h, fun _ => rfl⟩
    have hx := xorall_yes A1 G [] post1 5 xs c1 _ [bs.take n] 1 _ W' hm1 (by omega) (by unfold maxLen; omega) (by simp) hWr (by simp [lb, lt']) hL (fun k hk => by
      have := hbc.size
      have hk' : k < w1.heap.size ∨ k = wc.heap.size := hk
      constructor
      · omega
      · rcases hk' with hk' | hk' <;> omega)
    rw [lt'] at hx
    refine hx.mono ?_
    rintro e w' ⟨rfl, h1, h2⟩
    refine ⟨rfl, hback _ _ (by rw [xorL_len _ _ (by rw [lb, lt'])]; exact lt') h1, ?_, hbW.grown h2 (by have := hbc.size; omega) (fun k hk => by injection hk with hk; omega), by have := h2.size; omega⟩
    rcases Nat.eq_zero_or_pos n with h0 | h0
    · intro hp; omega
    · have := hgs h0
      have := hne h0
      exact hk2.keep (h2.block _ (by omega) (fun e => by injection e with e; omega)))
  refine (Hxor _ rfl).mono ?_
  rintro e w2 ⟨rfl, hx1, hx2, hb2, hs2⟩
  have hgs' : 0 < n → g1 < w2.heap.size ∧ g2 < w2.heap.size ∧ g1 ≠ g2 := fun h => by have := hgs h; omega
  have Hgs := hide hgs'
  clear Hxor hw1 hw2 hgs hgs' hbr'
  have hk0 := xorK_zero xs (bs.take n)
  have Hfin := hide (xorK_all xs (bs.take n) (by rw [lb, lt']))
  have Hlb := hide lb
  have Hlt := hide lt'
  clear lb lt'
  generalize bs.take n = zs' at hx1 hk0 Hfin Hlb Hbz
  generalize xorL xs zs' = r at hx1 Hfin
  go_wp2_with fail
  go_loopg [10, 11] n (fun q at' i wr => ∃ (j m : Nat), j ≤ n ∧ m ≤ j ∧ q = n - j ∧ at' = .int .i64 (j : Int) ∧ i = .int .i64 (m : Int) ∧ Wr wr A1 g1 [] post1 5 r ∧ Wr wr A2 g2 [] post2 5 (xorK j xs zs') ∧ Below w1.heap.size w1 wr ∧ w2.heap.size ≤ wr.heap.size)
  case atStart => exact ⟨0, 0, Nat.zero_le _, Nat.le_refl _, rfl, rfl, rfl, hx1, by rw [hk0]; exact hx2, hb2, Nat.le_refl _⟩
  case round =>
    obtain ⟨j, m, hj, hm, rfl, rfl, rfl, hr1, hr2, hbr, hsr⟩ := hrel
    by_cases hjn : j < n
    · go_upto_if 56 with fail
      go_cut [12] from 45 to 83 (fun s12 wx => wr = wx ∧ ∃ k : Nat, 1 ≤ k ∧ j + k ≤ n ∧ s12 = .int .i64 (k : Int))
      case first =>
        by_cases hi : m < cu.length
        · obtain ⟨b, off, u, rfl, hsb, hu, hcell⟩ := (Hcr.out.below hbr).at1 rfl hi
          obtain rfl := Kd.byte_cell hu
          clear hu
          generalize cu[m] = x at hcell
          have hq := step_num x
          have hq1 : 1 ≤ 1 + x.toNat % 20 := by omega
          have hq2 : 1 + x.toNat % 20 ≤ 20 := by omega
          generalize 1 + x.toNat % 20 = q at hq hq1 hq2
          by_cases hqn : q < n - j
          · go_wp2_with fail
            go_meet
            exact ⟨rfl, q, by omega, by omega, rfl⟩
          · go_wp2_with fail
            go_meet
            exact ⟨rfl, n - j, by omega, by omega, by simp; omega⟩
        · go_wp2_with fail
          go_meet
          exact ⟨rfl, n - j, by omega, by omega, by simp; omega⟩
      case rest =>
      obtain ⟨rfl, k, hk1, hk2, rfl⟩ := hcut
      have hp : 0 < (xorK j xs zs').length := by rw [xorK_len j xs zs' (by rw [Hlb.out, Hlt.out]), Hlt.out]; omega
      obtain ⟨rfl, -⟩ := hr2 hp
      have Hrb := Hbz.out.below hbr
      obtain ⟨bb, off, rfl, hbb, -⟩ := Hrb (by rw [Hlb.out]; omega)
      obtain ⟨e, he⟩ : ∃ e, e = j + k := ⟨_, rfl⟩
      have e0 : IntKind.i64.wrap ((j : Int) + (k : Int)) = (e : Int) := by rw [he, IntKind.wrap_i64]; omega
      have e1 : j ≤ e := by omega
      have e2 : (e : Int) ≤ (c2 : Int) := by omega
      have e3 : (e : Int) ≤ (d : Int) := by omega
      have e4 : e - j = k := by omega
      have e5 : ¬ c2 = j := by omega
      have e6 : ¬ d = j := by omega
      have hlc : (xorK j xs zs').length = n := by rw [xorK_len j xs zs' (by rw [Hlb.out, Hlt.out]), Hlt.out]
      have hg := Hgs.out (by omega)
      have Hcall := hide (piece_xor hlc Hlb.out hk2 (by omega) hc2 hm2 (by omega : n ≤ d) hbm hr2 Hrb hgl2 (by omega) hbr (o := .cells #[.slice (some ⟨bb, off + j, none⟩) k (d - j)] 22) rfl)
      have hpc := xorK_piece j k xs zs' (by rw [Hlb.out, Hlt.out]) (by rw [Hlt.out]; omega)
      have He := hide he
      clear he Hrb hp
      rw [hpc] at Hcall
      have hs1 := Nat.lt_of_lt_of_le hg.1 hsr
      have hr1' := hide hr1
      clear hpc hlc hr2 hr1 hbr
      go_wp2_with fail
      go_region_held (fun _ => True) (trivial) (first
        | (go_at_call 14
           refine Hcall.out.mono ?_
           rintro e' w3 ⟨rfl, hy2, hb3, hs3, hk3⟩
           have hy1 := hr1'.out.keep (hk3 g1 hs1 hg.2.2)
           clear hk3 Hcall hr1'))
      go_wp2_with fail
      go_roundg (n - e)
      case measure => have := He.out; omega
      case rel =>
        have he := He.out
        rw [← he] at hy2
        exact ⟨e, m + 1, by omega, by omega, rfl, rfl, by go_num, hy1, hy2, hb3, Nat.le_trans hsr hs3⟩
    · obtain rfl : j = n := by omega
      have hf := Hfin.out
      rw [Hlt.out] at hf
      rw [hf] at hr2
      have lr : r.length = j := by rw [← hf, xorK_len _ _ _ (by rw [Hlb.out, Hlt.out]), Hlt.out]
      have s1 := run_str (P := Try.prog) (w := wr) Try.underlying22 Try.underlying5 Try.underlying9 hr1.src c1
      have s2 := run_str (P := Try.prog) (w := wr) Try.underlying22 Try.underlying5 Try.underlying9 hr2.src c2
      rw [lr] at s1 s2
      have hend := hb1.trans (hbr.mono hb1.size)
      clear hr1 hr2 hf lr
      generalize bstr r = str at s1 s2
      go_wp2_with fail
      exact hR.out _ _ ⟨rfl, hend⟩
end Go.Proofs.Ythcbjhmckbfkmaa
