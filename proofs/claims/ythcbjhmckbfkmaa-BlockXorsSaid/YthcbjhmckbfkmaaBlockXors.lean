/- BlockXors, walked. -/
import Derived.Test.YthcbjhmckbfkmaaBlockPieces
import Derived.Test.YthcbjhmckbfkmaaZeros
import Derived.Test.YthcbjhmckbfkmaaOwn
set_option linter.unusedVariables false
set_option linter.unusedSimpArgs false
namespace Go.Proofs.Ythcbjhmckbfkmaa
open Go.RowKit

theorem infoSB : (Try.prog.info? 22).map (fun i => (i.zero, i.size, i.bytes)) = some (some (.slice none 0 0), 1, 24) := by kernel_rfl

theorem Wr.front {w : World} {A : Option Addr} {g : Nat} {post : List Value} {e : TypeId} {ts rest : List UInt8} (h : Wr w A g [] post e (ts ++ rest)) : Wr w A g [] (rest.map encB ++ post) e ts := fun hp => by
  obtain ⟨hA, hh⟩ := h (by rw [List.length_append]; omega)
  refine ⟨hA, ?_⟩
  rw [hh, List.map_append, List.append_assoc]
theorem Wr.unfront {w : World} {A : Option Addr} {g : Nat} {post : List Value} {e : TypeId} {ts rest : List UInt8} (h0 : 0 < ts.length) (h : Wr w A g [] (rest.map encB ++ post) e ts) : Wr w A g [] post e (ts ++ rest) := fun hp => by
  obtain ⟨hA, hh⟩ := h h0
  refine ⟨hA, ?_⟩
  rw [hh, List.map_append, List.append_assoc]
def xorsR (ts : List UInt8) (l : List (List UInt8)) : List UInt8 := if fitsB ts.length l then sumL ts l else ts
theorem fits_len {ts : List UInt8} {l : List (List UInt8)} (h : fitsB ts.length l = true) : ∀ b ∈ l, b.length = ts.length := fun b hb => by
  have := ((fitsB_iff _ _).1 h).2 b hb; omega
theorem xorsR_len (ts : List UInt8) (l : List (List UInt8)) : (xorsR ts l).length = ts.length := by
  unfold xorsR
  split
  · rename_i h; exact sumL_len _ _ _ rfl (fits_len h)
  · rfl
theorem xor_front {w : World} {A : Option Addr} {g B n : Nat} {post : List Value} {e : TypeId} {ts rest : List UInt8} (hn : ts.length = n) (hnm : n ≤ maxLen) (hw : Wr w A g [] post e (ts ++ rest)) (hg : g < w.heap.size) (hgB : g < B)
    {Bo : Option Addr} {l : List (List UInt8)} {k d : Nat} (hk : l.length = k) (hd : d ≤ maxLen) (hdl : k ≤ d) (hb : RdL (Kd.sl Kd.byte) (fun k => B ≤ k ∧ k < w.heap.size) w Bo l) :
    Calls Try.prog 14 #[.slice A n n, .slice Bo k d] w fun e' w' => e' = .returned (.bool (fitsB (n : Int) l)) ∧ Wr w' A g [] post e (xorsR ts l ++ rest) ∧ w.grownBy w' (some g) := by
  subst hn
  subst hk
  unfold xorsR
  by_cases hf : fitsB ts.length l = true
  · have hl := fits_len hf
    rw [if_pos hf, hf]
    rcases Nat.eq_zero_or_pos ts.length with h0 | h0
    · have ht : ts = [] := List.eq_nil_of_length_eq_zero h0
      subst ht
      have hs : sumL [] l = [] := List.eq_nil_of_length_eq_zero (sumL_len 0 l [] rfl hl)
      refine (xorall_yes A w.heap.size [] [] e [] 0 Bo l d _ w hnm (Nat.le_refl _) hd hdl (fun hp => absurd hp (by simp)) hl hb (fun k hk => ⟨hk.2, by have := hk.2; omega⟩)).mono ?_
      rintro e' w' ⟨rfl, _, h2⟩
      rw [hs]
      exact ⟨rfl, hw.keep (h2.block g hg (fun e => by injection e; omega)), h2.os, h2.tape, h2.output, h2.size, fun i hi _ => h2.block i hi (fun e => by injection e; omega)⟩
    · refine (xorall_yes A g [] (rest.map encB ++ post) e ts ts.length Bo l d _ w hnm (Nat.le_refl _) hd hdl hw.front hl hb (fun k hk => ⟨hk.2, by have := hk.1; omega⟩)).mono ?_
      rintro e' w' ⟨rfl, h1, h2⟩
      exact ⟨rfl, Wr.unfront (by rw [sumL_len ts.length l ts rfl hl]; exact h0) h1, h2⟩
  · have hf' : fitsB ts.length l = false := by simpa using hf
    rw [if_neg hf, hf']
    refine (xorall_no A ts ts.length Bo l d _ w hnm (Nat.le_refl _) hd hdl (fun h => hf ((fitsB_iff _ _).2 ⟨by omega, fun b hb => by rw [h b hb]⟩)) hb).mono ?_
    rintro e' w' ⟨rfl, rfl⟩
    exact ⟨rfl, hw, World.grownBy.refl w _⟩
theorem zero_xor (ts : List UInt8) : xorL (zs ts.length) ts = ts := by
  apply List.ext_getElem
  · simp [xorL, zs]
  · intro i h1 h2
    simp [xorL, zs]
theorem sum_front (ts : List UInt8) (l : List (List UInt8)) : sumL (zs ts.length) (ts :: l) = sumL ts l := by
  show sumL (xorL (zs ts.length) ts) l = _
  rw [zero_xor]
/-- What stands behind the first two appends. -/
theorem room_fin {w1 w3 w4 : World} {A : Option Addr} {v3 v4 : Value} {ts : List UInt8} {m : Nat} (h3 : Row w3 5 v3 ([] ++ ts.map encB)) (g3 : (w1.alloc (.cells #[] 5)).grownBy w3 (Value.slice (some ⟨w1.heap.size, 0, none⟩) 0 0).ownBlock)
    (a3 : v3.ownBlock = (Value.slice (some ⟨w1.heap.size, 0, none⟩) 0 0).ownBlock ∨ v3.ownBlock = some (w1.alloc (.cells #[] 5)).heap.size) (h4 : Row w4 5 v4 ([] ++ ts.map encB ++ List.replicate m (.int .u8 0))) (g4 : w3.grownBy w4 v3.ownBlock) (a4 : v4.ownBlock = v3.ownBlock ∨ v4.ownBlock = some w3.heap.size) :
    ∃ A4 c4 g post, v4 = .slice A4 (ts.length + m) c4 ∧ ts.length + m ≤ c4 ∧ c4 ≤ maxLen ∧ w1.heap.size ≤ g ∧ g < w4.heap.size ∧ Wr w4 A4 g [] post 5 (ts ++ zs m) ∧ Below w1.heap.size w1 w4 := by
  have hs1 : (w1.alloc (.cells #[] 5)).heap.size = w1.heap.size + 1 := by simp
  have hb1 := below_alloc w1 (.cells #[] 5)
  have hb3 := hb1.grown g3 hb1.size (fun q hq => by simp [Value.ownBlock] at hq; omega)
  have ho3 : ∀ q, v3.ownBlock = some q → w1.heap.size ≤ q := fun q hq => by
    rcases a3 with a3 | a3 <;> rw [a3] at hq <;> simp [Value.ownBlock] at hq <;> omega
  have hb4 := hb3.grown g4 hb3.size ho3
  have ho4 : ∀ q, v4.ownBlock = some q → w1.heap.size ≤ q := fun q hq => by
    rcases a4 with a4 | a4
    · exact ho3 q (a4 ▸ hq)
    · rw [a4] at hq; injection hq with hq; have := hb3.size; omega
  have e : [] ++ ts.map encB ++ List.replicate m (Value.int .u8 0) = (ts ++ zs m).map encB := by
    rw [List.nil_append, List.map_append]
    congr 1
    simp [zs, encB]
  rw [e] at h4
  have hlen : ((ts ++ zs m).map encB).length = ts.length + m := by simp [zs]
  obtain ⟨A4, c4, rfl, hc, hm⟩ := h4.shape
  rw [hlen] at hc h4 ho4 ⊢
  obtain ⟨g, post, hw, ho, _⟩ := Row.wr h4
  have hsz : w1.heap.size < w4.heap.size := by have := g3.size; have := g4.size; omega
  rcases Nat.eq_zero_or_pos (ts ++ zs m).length with h0 | h0
  · exact ⟨A4, c4, w1.heap.size, post, rfl, hc, hm, Nat.le_refl _, hsz, fun hp => by omega, hb4⟩
  · exact ⟨A4, c4, g, post, rfl, hc, hm, ho4 g (ho h0), h4.lt (ho h0), hw, hb4⟩

theorem own_row {B : Nat} {wr w5 : World} {o o' : Obj} {v : Value} {us : List Value} {xss : List (List UInt8)} {t : TypeId} (hown : OwnL B wr t v us xss) (hb5 : Below (wr.alloc o).heap.size (wr.alloc o) w5) : Row (w5.alloc o') t v us := by
  have s1 : (wr.alloc o).heap.size = wr.heap.size + 1 := by simp
  have s4 := hb5.size
  exact (hown.below (((below_alloc wr o).trans (hb5.mono (by omega))).alloc (by omega) _)).row
/-- One step of the own copies. -/
theorem own_step {w4 wr w5 w6 : World} {o : Obj} {v v' : Value} {us : List Value} {l : List (List UInt8)} {k : Nat} {A5 : Option Addr} {c5 : Nat} {t : TypeId} (hk : k < l.length) (hown : OwnL w4.heap.size wr t v us (l.take k)) (hbr : Below w4.heap.size w4 wr)
    (hr5 : (Kd.sl Kd.byte).R (fun q => (wr.alloc o).heap.size ≤ q ∧ q < w5.heap.size) w5 l[k] [.slice A5 l[k].length c5]) (hb5 : Below (wr.alloc o).heap.size (wr.alloc o) w5) {o' : Obj}
    (h6 : Row w6 t v' (us ++ [.slice A5 l[k].length c5])) (g6 : (w5.alloc o').grownBy w6 v.ownBlock) (a6 : v'.ownBlock = v.ownBlock ∨ v'.ownBlock = some (w5.alloc o').heap.size) :
    OwnL w4.heap.size w6 t v' (us ++ [.slice A5 l[k].length c5]) (l.take (k + 1)) ∧ Below w4.heap.size w4 w6 := by
  have s1 : (wr.alloc o).heap.size = wr.heap.size + 1 := by simp
  have s2 : (w5.alloc o').heap.size = w5.heap.size + 1 := by simp
  have s3 := hbr.size
  have s4 := hb5.size
  have b1 : Below wr.heap.size wr (w5.alloc o') := ((below_alloc wr o).trans (hb5.mono (by omega))).alloc (by omega) _
  have b2 : Below w4.heap.size w4 (w5.alloc o') := hbr.trans (b1.mono hbr.size)
  rw [List.take_succ_eq_append_getElem hk]
  refine ⟨(hown.below b1).push (by omega) ((Kd.sl Kd.byte).keep (fun q hq => (below_alloc w5 o').block q hq.2) hr5) (fun q hq => ⟨by omega, by omega, fun e => ?_⟩) h6 g6 a6, b2.grown g6 (by omega) (fun q hq => hown.own q hq)⟩
  have := hown.row.lt (k := q) e.symm
  omega

theorem refsum_n {n k : Nat} {B : Option Addr} {bss : List (List UInt8)} {d : Nat} {S : Nat → Prop} {w : World} (hk : bss.length = k)
    (hn : n ≤ 16777216) (hd : d ≤ maxLen) (hdl : k ≤ d) (hl : ∀ b ∈ bss, b.length = n) (hb : RdL (Kd.sl Kd.byte) S w B bss) (hS : ∀ k, S k → k < w.heap.size) :
    Calls Try.prog 16 #[.int .i64 (n : Int), .slice B k d] w fun e' w' => e' = .returned (.slice (some ⟨w.heap.size, 0, none⟩) n n) ∧
      Wr w' (some ⟨w.heap.size, 0, none⟩) w.heap.size [] [] 5 (sumL (zs n) bss) ∧ w.heap.size < w'.heap.size ∧ Below w.heap.size w w' := by
  subst hk
  exact refsum_calls n B bss d S w hn hd hdl hl hb hS
/-- to, and all others behind it. -/
theorem to_rows {w6 w8 : World} {A : Option Addr} {ts : List UInt8} {l : List (List UInt8)} {c : Nat} {o : Obj} {v8 : Value} {vs : List Value} {e : TypeId} {S : Nat → Prop} (hS : ∀ k, S k → k < w6.heap.size) (hc : ts.length ≤ c) (hm : c ≤ maxLen) (hto : RdL Kd.byte S w6 A ts) (hvl : vs.length = l.length)
    (hv : ∀ (i : Nat) (u : Value) (xs : List UInt8), vs[i]? = some u → l[i]? = some xs → (Kd.sl Kd.byte).R S w6 xs [u]) (h8 : Row w8 e v8 ([.slice A ts.length c] ++ vs)) (g8 : (w6.alloc o).grownBy w8 (Value.slice (some ⟨w6.heap.size, 0, none⟩) 1 1).ownBlock) :
    ∃ A8 c8, v8 = .slice A8 (l.length + 1) c8 ∧ l.length + 1 ≤ c8 ∧ c8 ≤ maxLen ∧ RdL (Kd.sl Kd.byte) (· < w8.heap.size) w8 A8 (ts :: l) ∧ Below w6.heap.size w6 w8 := by
  have hb := (below_alloc w6 o).grown g8 (by simp) (fun q hq => by simp [Value.ownBlock] at hq; omega)
  have up : ∀ {xs : List UInt8} {cs : List Value}, (Kd.sl Kd.byte).R S w6 xs cs → (Kd.sl Kd.byte).R (· < w8.heap.size) w8 xs cs := fun h =>
    upR hb ((Kd.sl Kd.byte).mono hS h)
  obtain ⟨A8, c8, rfl, h1, h2⟩ := h8.shape
  have hl : ([Value.slice A ts.length c] ++ vs).length = l.length + 1 := by simp [hvl]
  rw [hl] at h1 h8 ⊢
  refine ⟨A8, c8, rfl, h1, h2, h8.rdL (by simp [hvl]) (fun i u xs hu hx => ?_) (fun k hk => h8.lt hk), hb⟩
  cases i with
  | zero =>
    simp at hu hx
    subst hu; subst hx
    exact up ⟨A, c, rfl, hc, hm, hto⟩
  | succ j =>
    simp at hu hx
    exact up (hv j u xs hu hx)
theorem xors_sum {ts : List UInt8} {l : List (List UInt8)} (h : fitsB ts.length l = true) : sumL (zs ts.length) (ts :: l) = xorsR ts l := by
  unfold xorsR; rw [if_pos h, sum_front]
theorem xors_none {ts : List UInt8} {l : List (List UInt8)} (h : fitsB ts.length l = false) : xorsR ts l = ts := by
  unfold xorsR; rw [h]; rfl
def Want (n : Nat) (w6 : World) (r : List UInt8) (s : Value) (wx : World) : Prop := ∃ Aw cw, s = .slice Aw n cw ∧ RdL Kd.byte (· < wx.heap.size) wx Aw r ∧ Below w6.heap.size w6 wx

set_option maxRecDepth 100000 in
set_option maxHeartbeats 2000000 in
theorem xors_calls (A : Option Addr) (ts : List UInt8) (c : Nat) (B : Option Addr) (l : List (List UInt8)) (d : Nat) (m : Int) (w : World)
    (ham : c ≤ maxLen) (hal : ts.length ≤ c) (har : RdL Kd.byte (· < w.heap.size) w A ts) (hd : d ≤ maxLen) (hdl : l.length ≤ d) (hb : RdL (Kd.sl Kd.byte) (· < w.heap.size) w B l) (hm0 : 0 ≤ m) (hm1 : m ≤ 255) :
    Calls Try.prog 3 #[.slice A ts.length c, .slice B l.length d, .int .u8 m] w fun e w' => e = .returned (.bool true) ∧ Below w.heap.size w w' := by
  refine cps fun R hR => ?_
  obtain ⟨m, rfl⟩ := Int.eq_ofNat_of_zero_le hm0
  have ham' := ham
  have hd' := hd
  unfold maxLen at ham' hd'
  go_enter Try.func3, Try.ntmps3
  go_wp2_with fail
  refine (speaks_calls w).mono ?_
  rintro e w1 ⟨rfl, hb1⟩
  replace har := (har.below hb1).mono fun k h => Nat.lt_of_lt_of_le h hb1.size
  replace hb := (hb.below hb1).mono fun k h => Nat.lt_of_lt_of_le h hb1.size
  go_wp2_with fail
  have hbig := big_calls B l d _ w1 hd hdl hb
  cases hB : bigB l
  case true =>
    rw [hB] at hbig
    refine hbig.mono ?_
    rintro e w2 ⟨rfl, rfl⟩
    clear hbig hb har
    go_wp2_with fail
    exact hR.out _ _ ⟨rfl, hb1⟩
  rw [hB] at hbig
  refine hbig.mono ?_
  rintro e w2 ⟨rfl, rfl⟩
  clear hbig
  have hl50 : l.length ≤ 50 ∧ ∀ b ∈ l, b.length ≤ 200 := by
    unfold bigB at hB
    rw [Bool.or_eq_false_iff, List.any_eq_false, decide_eq_false_iff_not] at hB
    exact ⟨by omega, fun b hb => by have := hB.1 b hb; simp at this; exact this⟩
  obtain ⟨l50, l200⟩ := hl50
  by_cases h200 : 200 < ts.length
  · clear hb har
    go_wp2_with fail
    exact hR.out _ _ ⟨rfl, hb1⟩
  have Hl200 := hide l200
  clear l200
  go_wp2_with (refine wp_app 27 rfl rfl (.tmp 25) (.tmp 26) 22 rfl Try.underlying22 infoB rfl (v := .slice (some ⟨w1.heap.size, 0, none⟩) 0 0) (us := []) (A := A) (c := c) (news := ts.map encB) rfl (Row.lit [] (by simp)) (by simp [Act.eval]) ?hs (encB_one ts) (by simp; omega) (by simp [maxLen]; omega) ?hk)
  case hs => exact (har.keep fun k hk => Below.heap_alloc w1 _ k hk).srcB
  intro v3 w3 hrow3 hg3 hat3
  go_wp2_with (refine wp_app0 29 rfl rfl (.tmp 27) (.tmp 28) 22 5 rfl Try.underlying22 Try.underlying5 infoB rfl (by decide) (v := v3) rfl hrow3 .u8 m (by simp [Act.eval]) rfl ?hk0 ?hk2)
  case hk0 => simp; omega
  intro v4 w4 hrow4 hg4 hat4
  obtain ⟨A4, c4, g, post, rfl, hc4, hm4, hg1, hgl, hw4, hb4⟩ := room_fin (A := A) hrow3 hg3 hat3 hrow4 hg4 hat4
  clear hrow3 hg3 hat3 hrow4 hg4 hat4
  go_wp2_with fail
  go_loopw [9, 38] (fun v i wr => ∃ (k : Nat) (us : List Value), k ≤ l.length ∧ i = .int .i64 (k : Int) ∧ OwnL w4.heap.size wr 22 v us (l.take k) ∧ Below w4.heap.size w4 wr) (fun _ i _ => l.length - (intOf i).toNat)
  case atStart => exact ⟨0, [], Nat.zero_le _, rfl, OwnL.nil, Below.refl _ _⟩
  case round =>
    obtain ⟨k, us, hk, rfl, hown, hbr⟩ := hrel
    have hb1r := hb4.trans (hbr.mono hb4.size)
    by_cases hlt : k < l.length
    · obtain ⟨b, off, u, rfl, hsb, hu, hcell⟩ := (hb.below hb1r).at1 rfl hlt
      obtain ⟨Ab, cb, rfl, hcb, hcm, hrd⟩ := Kd.sl_cell hu
      have hll := hide (Hl200.out l[k] (List.getElem_mem hlt))
      have hlu := hown.len
      rw [List.length_take] at hlu
      clear hu
      have hlx := hide (rfl : l[k].length = l[k].length)
      generalize hlk : l[k].length = lx at hcell
      have hlk' := hide hlk
      clear hlk hlx
      go_wp2_with (with_reducible refine wp_app_lit 45 rfl rfl (.tmp 43) (.tmp 44) 22 rfl Try.underlying22 infoB ?hz45 (news := l[k].map encB) (g := wr.heap.size) ?hv45 (A := Ab) (c := cb) ?hx45 ?hs45 (encB_one _) ?hb45 ?hl45 ?hk45)
      case hz45 => rfl
      case hv45 => rfl
      case hx45 => rw [List.length_map, hlk'.out]; rfl
      case hs45 => exact (hrd.keep fun q hq => Below.heap_alloc wr _ q (Nat.lt_of_lt_of_le hq hb1r.size)).srcB
      case hb45 => simp; have := hll.out; omega
      case hl45 => simp [maxLen]; have := hll.out; omega
      intro v5 w5 hn5
      obtain ⟨A5, c5, rfl, hr5, hb5⟩ := hn5.sl
      rw [hlk'.out] at hr5 ⊢
      clear hn5
      go_wp2_with (with_reducible refine wp_app 47 rfl rfl (.tmp 42) (.tmp 46) 23 rfl Try.underlying23 infoSB ?hz47 (v := u9) (us := us) ?hv47 ?hrow47 (c := 1) (news := [.slice A5 lx c5]) ?hx47 (Src.lit1 _ _ _) ?h147 ?hb47 ?hl47 ?hk47)
      case hz47 => rfl
      case hrow47 => exact own_row hown hb5
      case hv47 => rfl
      case hx47 => rfl
      case h147 => simp [Value.oneCell']
      case hb47 => simp; omega
      case hl47 => simp [maxLen]; omega
      intro v6 w6 h6 g6 a6
      have hst := hide (own_step (o' := .cells #[.slice A5 lx c5] 22) hlt hown hbr (by rw [hlk'.out]; exact hr5) hb5 (by rw [hlk'.out]; exact h6) g6 a6)
      clear h6 g6 a6 hown hr5 hb5 hrd
      go_wp2_with fail
      go_roundw
      case rel => exact ⟨k + 1, _, by omega, by go_num, hst.out.1, hst.out.2⟩
      case measure => simp [intOf]; omega
    · obtain rfl : k = l.length := by omega
      rw [List.take_length] at hown
      obtain ⟨Ao, co, rfl, hco, hcom⟩ := hown.shape
      have hwr := hw4.keep (hbr.block g hgl)
      have Hx := hide (xor_front rfl (by unfold maxLen; omega : ts.length ≤ maxLen) hwr (Nat.lt_of_lt_of_le hgl hbr.size) hgl rfl hcom hco hown.rd)
      have Hs := hide hbr.size
      have Hl4 := hide hown.len
      clear hwr hw4 hlt hk
      go_wp2_with fail
      refine Hx.out.mono ?_
      rintro e w6 ⟨rfl, hw6, hg6⟩
      have hb6 := hb1r.grown hg6 hb1r.size (fun q hq => by injection hq with hq; omega)
      have hown6 := hown.keep hg6.size (fun q h1 h2 => hg6.block q h2 (fun e => by injection e; omega))
      have hl6 := hide (hb.below hb6)
      have ha6 := hide (har.below hb6)
      have hg6' : g < w6.heap.size := Nat.lt_of_lt_of_le (Nat.lt_of_lt_of_le hgl Hs.out) hg6.size
      have Hw6 := hide hw6
      clear hown hw6 hg6 Hx hb1r hbr hb har
      go_wp2_with fail
      refine (fits_calls ts.length B l d _ w6 hd hdl hl6.out).mono ?_
      rintro e w7 ⟨rfl, rfl⟩
      have hen := hide (xors_sum (ts := ts) (l := l))
      have hnn := hide (xors_none (ts := ts) (l := l))
      have hfl := hide (fits_len (ts := ts) (l := l))
      have hxl := hide (xorsR_len ts l)
      generalize hF : fitsB ts.length l = F at hen hnn hfl
      generalize xorsR ts l = r at hen hnn hxl Hw6
      have hF' := hide hF
      clear hF
      go_upto_if 56 with fail
      go_cut [13] from 57 to 64 (fun s13 wx => Want ts.length w6 r s13 wx)
      case first =>
        cases F
        · go_wp2_with fail
          go_meet
          exact ⟨A, c, rfl, by rw [(by first | exact hnn.out rfl | exact hnn.out trivial : r = ts)]; exact ha6.out.mono fun k hk => Nat.lt_of_lt_of_le hk hb6.size, Below.refl _ _⟩
        · obtain ⟨vs, hvl, hvs, hv1, hvr⟩ := hl6.out.vals
          have Hvl := hide hvl
          have hv1' := hide hv1
          have hvr' := hide hvr
          clear hvl hv1 hvr
          go_wp2_with (with_reducible refine wp_app 62 rfl rfl (.tmp 60) (.tmp 61) 23 rfl Try.underlying23 infoSB ?hz62 (us := [.slice A ts.length c]) ?hv62 (Row.lit [.slice A ts.length c] (by simp [maxLen])) (A := B) (c := d) (news := vs) ?hx62 ?hs62 hv1'.out ?hb62 ?hl62 ?hk62)
          case hx62 => rw [Hvl.out]
          case hs62 => exact hvs.below (below_alloc _ _)
          case hb62 => simp [Hvl.out]; omega
          case hl62 => simp [maxLen, Hvl.out]; omega
          intro v8 w8 h8 g8 a8
          obtain ⟨A8, c8, rfl, hc8, hm8, hr8, hb8⟩ := to_rows (fun k hk => Nat.lt_of_lt_of_le hk hb6.size) hal ham ha6.out Hvl.out hvr'.out h8 g8
          clear h8 g8 a8
          go_wp2_with fail
          refine (refsum_n (n := ts.length) (bss := ts :: l) rfl (by omega) hm8 hc8 (by have := (by first | exact hfl.out rfl | exact hfl.out trivial : ∀ b ∈ l, b.length = ts.length); simpa using this) hr8 (fun k hk => hk)).mono ?_
          rintro e w9 ⟨rfl, hw9, hs9, hk9⟩
          have hb9 := hb8.trans (hk9.mono hb8.size)
          go_wp2_with fail
          go_meet
          refine ⟨_, _, rfl, ?_, hb9⟩
          rw [← (by first | exact hen.out rfl | exact hen.out trivial : sumL (zs ts.length) (ts :: l) = r)]
          exact hw9.rd.mono fun k hk => by rw [hk]; exact hs9
      case rest =>
      obtain ⟨Aw, cw, rfl, hrw, hbw⟩ := hcut
      have hb6c := hb6.trans (hbw.mono hb6.size)
      have hownc := hown6.below hbw
      have Hwc := hide (Hw6.out.keep (hbw.block g hg6'))
      have hlc := hide (hl6.out.below (hbw.mono hb6.size))
      have hgc := Nat.lt_of_lt_of_le hg6' hbw.size
      clear hown6 Hw6 hbw ha6 hl6 hb6 hen hnn hfl
      go_wp2_with fail
      go_loopw [67] (fun i wr => ∃ k : Nat, k ≤ l.length ∧ i = .int .i64 (k : Int) ∧ Below wc.heap.size wc wr) (fun i _ => l.length - (intOf i).toNat)
      case atStart => exact ⟨0, Nat.zero_le _, rfl, Below.refl _ _⟩
      case round =>
        obtain ⟨k, hk, rfl, hbr⟩ := hrel
        by_cases hlt : k < l.length
        · obtain ⟨bo, oo, u, rfl, hso, hu, hcello⟩ := (hownc.below hbr).rd.at1 rfl hlt
          obtain ⟨Ab, cb, rfl, hcb, hcm, hrd⟩ := Kd.sl_cell hu
          obtain ⟨b, off, u', rfl, hsb, hu', hcell⟩ := (hlc.out.below (hbr.mono hb6c.size)).at1 rfl hlt
          obtain ⟨Ab', cb', rfl, hcb', hcm', hrd'⟩ := Kd.sl_cell hu'
          have c1 := fun n => run_str (P := Try.prog) (w := wr.drewN n) Try.underlying22 Try.underlying5 Try.underlying9 (hrd.keep (w' := wr.drewN n) fun _ _ => rfl).srcB cb
          have c2 := fun n => run_str (P := Try.prog) (w := wr.drewN n) Try.underlying22 Try.underlying5 Try.underlying9 (hrd'.keep (w' := wr.drewN n) fun _ _ => rfl).srcB cb'
          clear hu hu' hrd hrd'
          generalize bstr l[k] = str at c1 c2
          generalize l[k].length = ll at c1 c2 hcello hcell
          go_wp2_with fail
          go_quiet (fail)
          go_wp2_with fail
          go_roundw
          case rel => exact ⟨k + 1, by omega, by go_num, hbr.os, hbr.tape, hbr.output, hbr.size, hbr.block⟩
          case measure => simp [intOf]; omega
        · obtain rfl : k = l.length := by omega
          have hf2 := fits_calls ts.length B l d _ wr hd hdl (hlc.out.below (hbr.mono hb6c.size))
          rw [hF'.out] at hf2
          have hWr := Hwc.out.keep (hbr.block g hgc)
          have c1 := run_str (P := Try.prog) (w := wr) Try.underlying22 Try.underlying5 Try.underlying9 hWr.front.src ts.length
          have c2 := run_str (P := Try.prog) (w := wr) Try.underlying22 Try.underlying5 Try.underlying9 (hrw.below hbr).srcB cw
          rw [hxl.out] at c1 c2
          have hrd := hWr.rd.drop ts.length c4 (by rw [List.length_append, hxl.out]; omega) (by rw [List.length_append, hxl.out]; simp [zs]; omega)
          rw [← hxl.out, List.drop_left, hxl.out] at hrd
          have Hf2 := hide hf2
          have hcl : ∃ X, ((if c4 = ts.length then A4 else Option.map (fun a => a.add (ts.length * Kd.byte.sz)) A4) = X) := ⟨_, rfl⟩
          obtain ⟨X, hX⟩ := hcl
          rw [hX] at hrd
          have hz := refzero_calls X (zs m) (c4 - ts.length) _ wr (by omega) (by simp [zs]; omega) hrd
          rw [zeroB_zs, show (zs m).length = m by simp [zs]] at hz
          have Hrd := hide hz
          have hend := hb1.trans ((hb6c.trans (hbr.mono hb6c.size)).mono hb1.size)
          clear hf2 hWr hrd hz hownc hrw Hwc hlc hxl hF' hk hlt
          generalize bstr r = str at c1 c2
          go_wp2_with fail
          refine Hf2.out.mono ?_
          rintro e w' ⟨rfl, rfl⟩
          by_cases hcn : c4 = ts.length
          · rw [if_pos hcn] at hX
            subst hX
            have hx0 : c4 - ts.length = 0 := by omega
            rw [hx0] at Hrd
            cases F
            · go_wp2_with fail
              refine Hrd.out.mono ?_
              rintro e w' ⟨rfl, rfl⟩
              go_wp2_with fail
              exact hR.out _ _ ⟨rfl, hend⟩
            · go_wp2_with fail
              refine Hrd.out.mono ?_
              rintro e w' ⟨rfl, rfl⟩
              go_wp2_with fail
              exact hR.out _ _ ⟨rfl, hend⟩
          · rw [if_neg hcn] at hX
            have hX' := hide hX
            clear hX
            cases F
            · go_wp2_with fail
              rw [show Option.map (fun x => x.add ts.length) A4 = X by rw [← hX'.out]; show _ = Option.map (fun a => a.add (ts.length * 1)) A4; rw [Nat.mul_one]]
              refine Hrd.out.mono ?_
              rintro e w' ⟨rfl, rfl⟩
              go_wp2_with fail
              exact hR.out _ _ ⟨rfl, hend⟩
            · go_wp2_with fail
              rw [show Option.map (fun x => x.add ts.length) A4 = X by rw [← hX'.out]; show _ = Option.map (fun a => a.add (ts.length * 1)) A4; rw [Nat.mul_one]]
              refine Hrd.out.mono ?_
              rintro e w' ⟨rfl, rfl⟩
              go_wp2_with fail
              exact hR.out _ _ ⟨rfl, hend⟩
end Go.Proofs.Ythcbjhmckbfkmaa
