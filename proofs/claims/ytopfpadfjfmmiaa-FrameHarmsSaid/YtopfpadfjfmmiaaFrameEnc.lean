/- A packet's frame: Encode. -/
import Derived.Test.YtopfpadfjfmmiaaFrame1
set_option linter.unusedVariables false
set_option linter.unusedSimpArgs false
namespace Go.Proofs.Ytopfpadfjfmmiaa
open Go.RowKit

/-- What a frame says ahead of its payload, field by field. -/
def fieldsH (se N B Q E F len id : Nat) : List (Nat × Nat) := [(16716, 2), (1, 1), (se, 8), (N, 4), (B, 2), (Q, 1), (E, 2), (F, 2), (len, 8), (id, 8)]
def encH (fs : List (Nat × Nat)) : List UInt8 := (fs.map fun x => putL x.1 x.2).flatten
theorem encH_snoc (fs : List (Nat × Nat)) (x : Nat × Nat) : encH (fs ++ [x]) = encH fs ++ putL x.1 x.2 := by simp [encH]
theorem encH_len (fs : List (Nat × Nat)) (h : ∀ x ∈ fs, x.2 ≤ 8) : (encH fs).length ≤ 8 * fs.length := by
  induction fs with
  | nil => simp [encH]
  | cons x fs ih =>
    have h1 := ih fun y hy => h y (by simp [hy])
    have h2 := h x (by simp)
    have : encH (x :: fs) = putL x.1 x.2 ++ encH fs := by simp [encH]
    rw [this, List.length_append, putL_len, List.length_cons]; omega
def headL (se N B Q E F len id : Nat) : List UInt8 := encH (fieldsH se N B Q E F len id)
theorem fields_fit {se N B Q E F len id : Nat} (hs : se < 18446744073709551616) (hN : N ≤ 1048576) (hB : B ≤ 65535) (hQ : Q ≤ 8) (hE : E ≤ 1000) (hF : F ≤ 4096) (hl : len ≤ 1048576 * 65535) (hi : id < 18446744073709551616) :
    ∀ x ∈ fieldsH se N B Q E F len id, fitsN x.1 (x.2 : Int) = true ∧ x.1 < 18446744073709551616 ∧ x.2 ≤ 8 := by
  intro x hx
  simp only [fieldsH, List.mem_cons, List.not_mem_nil, or_false] at hx
  rcases hx with rfl | rfl | rfl | rfl | rfl | rfl | rfl | rfl | rfl | rfl <;>
    (simp only [fitsN, Bool.and_eq_true, decide_eq_true_eq]; exact ⟨⟨⟨by omega, by omega⟩, by show _ < 256 ^ _; simp; try omega⟩, by omega, by omega⟩)
theorem fields_len {se N B Q E F len id : Nat} : (fieldsH se N B Q E F len id).length = 10 := rfl
/-- The cells of such a row of fields. -/
def fieldCs (fs : List (Nat × Nat)) : List Value := fs.flatMap fun x => [.int .u64 (x.1 : Int), .int .i64 (x.2 : Int)]
theorem fieldCs_at : ∀ (fs : List (Nat × Nat)) (k : Nat) (hk : k < fs.length), (fieldCs fs)[k * 2]? = some (.int .u64 (fs[k].1 : Int)) ∧ (fieldCs fs)[k * 2 + 1]? = some (.int .i64 (fs[k].2 : Int))
  | x :: fs, 0, _ => by simp [fieldCs]
  | x :: fs, k + 1, hk => by
    have := fieldCs_at fs k (by simpa using hk)
    have e : fieldCs (x :: fs) = .int .u64 (x.1 : Int) :: .int .i64 (x.2 : Int) :: fieldCs fs := by simp [fieldCs]
    rw [e, show (k + 1) * 2 = k * 2 + 1 + 1 by omega]
    simpa using this

theorem pbox (w : World) (s d N B Q E F len : Int) (u : Value) (t : TypeId) : ∃ W, W = w.alloc (.cells #[.int .u64 s, .int .i64 N, .int .i64 B, .int .i64 Q, .int .i64 E, .int .i64 F, .int .i64 len, .int .u64 d, u] t) ∧ Below w.heap.size w W ∧ w.heap.size < W.heap.size ∧
    (W.cell? ⟨w.heap.size, 0, none⟩ = some (.int .u64 s) ∧ W.cell? ⟨w.heap.size, 1, none⟩ = some (.int .i64 N) ∧ W.cell? ⟨w.heap.size, 2, none⟩ = some (.int .i64 B) ∧ W.cell? ⟨w.heap.size, 3, none⟩ = some (.int .i64 Q) ∧ W.cell? ⟨w.heap.size, 4, none⟩ = some (.int .i64 E) ∧
    W.cell? ⟨w.heap.size, 5, none⟩ = some (.int .i64 F) ∧ W.cell? ⟨w.heap.size, 6, none⟩ = some (.int .i64 len) ∧ W.cell? ⟨w.heap.size, 7, none⟩ = some (.int .u64 d) ∧ W.cell? ⟨w.heap.size, 8, none⟩ = some u) :=
  ⟨_, rfl, (Below.refl _ _).alloc (Nat.le_refl _) _, by simp, by simp [go_sem], by simp [go_sem], by simp [go_sem], by simp [go_sem], by simp [go_sem], by simp [go_sem], by simp [go_sem], by simp [go_sem], by simp [go_sem]⟩

theorem fenc_bad (cd : Value) (s d N B Q E F len : Int) (A : Option Addr) (n c : Nat) (w : World) (h : mayH N B Q E F len = false) :
    Calls Try.prog 14 #[cd, .agg #[.int .u64 s, .int .i64 N, .int .i64 B, .int .i64 Q, .int .i64 E, .int .i64 F, .int .i64 len, .int .u64 d, .slice A n c]] w fun e w' => e = .returned (.tuple #[.slice none 0 0, .int .i64 1]) ∧ Below w.heap.size w w' := by
  refine cps fun R hR => ?_
  have hc0 := fun w => fcheck_calls s d N B Q E F len w
  rw [h] at hc0
  have Hc := hide hc0
  clear hc0 h
  obtain ⟨W, hW, hb, hs, -⟩ := pbox w s d N B Q E F len (.slice A n c) 32
  have HW := hide hW
  clear hW
  go_enter Try.func14, Try.ntmps14
  go_wp2_with fail
  rw [← HW.out]
  refine (Hc.out _).mono ?_
  rintro e w1 ⟨rfl, hb1⟩
  have hb1' := hb.trans (hb1.mono hb.size)
  clear hb1
  go_wp2_with fail
  exact hR.out _ _ ⟨rfl, hb1'⟩
theorem fenc_len (cd : Value) (s d N B Q E F len : Int) (A : Option Addr) (n c : Nat) (w : World) (h : mayH N B Q E F len = true) (hn : (n : Int) ≠ B) :
    Calls Try.prog 14 #[cd, .agg #[.int .u64 s, .int .i64 N, .int .i64 B, .int .i64 Q, .int .i64 E, .int .i64 F, .int .i64 len, .int .u64 d, .slice A n c]] w fun e w' => e = .returned (.tuple #[.slice none 0 0, .int .i64 7]) ∧ Below w.heap.size w w' := by
  refine cps fun R hR => ?_
  have hc0 := fun w => fcheck_calls s d N B Q E F len w
  rw [h] at hc0
  have Hc := hide hc0
  have hne : ((n : Int) != B) = true := by simpa using hn
  clear hc0 h hn
  obtain ⟨W, hW, hb, hs, c0, c1, c2, c3, c4, c5, c6, c7, c8⟩ := pbox w s d N B Q E F len (.slice A n c) 32
  have HW := hide hW
  clear hW
  go_enter Try.func14, Try.ntmps14
  go_wp2_with fail
  rw [← HW.out]
  refine (Hc.out _).mono ?_
  rintro e w1 ⟨rfl, hb1⟩
  have hb1' := hb.trans (hb1.mono hb.size)
  replace c2 := (hb1.cell (by simpa using hs)).trans c2
  replace c8 := (hb1.cell (by simpa using hs)).trans c8
  clear hb1
  go_wp2_with fail
  exact hR.out _ _ ⟨rfl, hb1'⟩

theorem enc_step {w1 wr w3 : World} {g : Nat} {v v' : Value} {bs bs' : List UInt8} {cs : Array Value} {t t1 : TypeId} {u1 u2 : Value}
    (h : Wri 73 wr g v bs ∧ wr.heap[g + 1]? = some (.cells cs t1 (0, 0)) ∧ Below g w1 wr ∧ (∀ b, Fp g v b → b = g ∨ g + 1 < b))
    (hc : Ch (Fp g v) (wr.alloc (.cells #[u1, u2] t)) w3) (hw : Wri 73 w3 g v' bs') (hf : ∀ b, Fp g v' b → Fp g v b ∨ (wr.alloc (.cells #[u1, u2] t)).heap.size ≤ b) :
    Wri 73 w3 g v' bs' ∧ w3.heap[g + 1]? = some (.cells cs t1 (0, 0)) ∧ Below g w1 w3 ∧ (∀ b, Fp g v' b → b = g ∨ g + 1 < b) := by
  obtain ⟨h1, h2, h3, h4⟩ := h
  have hlt : g + 1 < wr.heap.size := (Array.getElem?_eq_some_iff.1 h2).1
  have hz : (wr.alloc (.cells #[u1, u2] t)).heap.size = wr.heap.size + 1 := by simp
  refine ⟨hw, (hc.block (g + 1) (by omega) (fun hfp => by have := h4 _ hfp; omega)).trans ((Below.heap_alloc wr _ _ hlt).trans h2), ?_, fun b hb => ?_⟩
  · exact hc.below (h3.trans ((balloc wr _).mono (by omega))) (by omega) (fun b hb => by have := h4 b hb; omega)
  · rcases hf b hb with h | h
    · exact h4 b h
    · right; omega
set_option maxRecDepth 100000 in
set_option maxHeartbeats 4000000 in
theorem fenc_yes (gc gt : Nat) (se id : UInt64) (N B Q E F len : Nat) (A : Option Addr) (pl : List UInt8) (c : Nat) (S : Nat → Prop) (w : World) (hgc : w.heap[gc]? = some (.cells #[.pointer (some ⟨gt, 0, none⟩)] 62 (0, 0))) (ht : TabAt w gt 256)
    (h : mayH N B Q E F len = true) (hn : pl.length = B) (hm : c ≤ maxLen) (hc : pl.length ≤ c) (hp : RdL Kd.byte S w A pl) (hS : ∀ k, S k → k < w.heap.size) :
    Calls Try.prog 14 #[.pointer (some ⟨gc, 0, none⟩), .agg #[.int .u64 (se.toNat : Int), .int .i64 (N : Int), .int .i64 (B : Int), .int .i64 (Q : Int), .int .i64 (E : Int), .int .i64 (F : Int), .int .i64 (len : Int), .int .u64 (id.toNat : Int), .slice A B c]] w fun e w' =>
      ∃ v, e = .returned (.tuple #[v, .int .i64 0]) ∧ Fresh w w' v (sealL (headL se.toNat N B Q E F len id.toNat ++ pl)) := by
  refine cps fun R hR => ?_
  have hc0 := fun w => fcheck_calls (se.toNat : Int) (id.toNat : Int) N B Q E F len w
  rw [h] at hc0
  have Hc := hide hc0
  obtain ⟨hmay, hl0, hl1⟩ := mayH_bd h
  obtain ⟨hN1, hN2, hB1, hB2, hQ1, hQ2, hE1, hE2, hF1, hF2, -⟩ := may_bd hmay
  have hl2 : len ≤ 1048576 * 65535 := by
    have : N * B ≤ 1048576 * 65535 := Nat.mul_le_mul (by omega) (by omega)
    rw [← Int.natCast_mul] at hl1; omega
  have Hfit := hide (fields_fit (se := se.toNat) (N := N) (B := B) (Q := Q) (E := E) (F := F) (len := len) (id := id.toNat) se.toNat_lt (by omega) (by omega) (by omega) (by omega) (by omega) hl2 id.toNat_lt)
  have Hh := hide (rfl : headL se.toNat N B Q E F len id.toNat = encH (fieldsH se.toNat N B Q E F len id.toNat))
  have hfc := hide (show (fieldCs (fieldsH se.toNat N B Q E F len id.toNat)).toArray = #[.int .u64 16716, .int .i64 2, .int .u64 1, .int .i64 1, .int .u64 (se.toNat : Int), .int .i64 8, .int .u64 (N : Int), .int .i64 4, .int .u64 (B : Int), .int .i64 2, .int .u64 (Q : Int), .int .i64 1, .int .u64 (E : Int), .int .i64 2, .int .u64 (F : Int), .int .i64 2, .int .u64 (len : Int), .int .i64 8, .int .u64 (id.toNat : Int), .int .i64 8] from rfl)
  have Hp := hide hp
  have HS := hide hS
  have Hn := hide hn
  have Ht := hide ht
  have Hgc := hide hgc
  have hsd := se.toNat_lt
  have hid := id.toNat_lt
  generalize se.toNat = s at *
  generalize id.toNat = d at *
  have wN : IntKind.u64.wrap (N : Int) = (N : Int) := by rw [wrap_u64']; omega
  have wB : IntKind.u64.wrap (B : Int) = (B : Int) := by rw [wrap_u64']; omega
  have wQ : IntKind.u64.wrap (Q : Int) = (Q : Int) := by rw [wrap_u64']; omega
  have wE : IntKind.u64.wrap (E : Int) = (E : Int) := by rw [wrap_u64']; omega
  have wF : IntKind.u64.wrap (F : Int) = (F : Int) := by rw [wrap_u64']; omega
  have wl : IntKind.u64.wrap (len : Int) = (len : Int) := by rw [wrap_u64']; omega
  have hclB : B ≤ c := by omega
  clear hc0 h hmay hl0 hl1 hp hS hn ht hgc
  obtain ⟨W, hW, hb, hs, c0, c1, c2, c3, c4, c5, c6, c7, c8⟩ := pbox w s d N B Q E F len (.slice A B c) 32
  have HW := hide hW
  clear hW
  unfold maxLen at hm
  go_enter Try.func14, Try.ntmps14
  go_wp2_with fail
  rw [← HW.out]
  refine (Hc.out _).mono ?_
  rintro e w1 ⟨rfl, hb1⟩
  have hb1' := hide (hb.trans (hb1.mono hb.size))
  replace c0 := (hb1.cell (by simpa using hs)).trans c0
  replace c1 := (hb1.cell (by simpa using hs)).trans c1
  replace c2 := (hb1.cell (by simpa using hs)).trans c2
  replace c3 := (hb1.cell (by simpa using hs)).trans c3
  replace c4 := (hb1.cell (by simpa using hs)).trans c4
  replace c5 := (hb1.cell (by simpa using hs)).trans c5
  replace c6 := (hb1.cell (by simpa using hs)).trans c6
  replace c7 := (hb1.cell (by simpa using hs)).trans c7
  replace c8 := (hb1.cell (by simpa using hs)).trans c8
  have hs1 := Nat.lt_of_lt_of_le hs hb1.size
  clear hb1 hb hs
  go_wp2_with fail
  obtain ⟨fs, hfs⟩ : ∃ fs, fs = fieldsH s N B Q E F len d := ⟨_, rfl⟩
  have hfl : fs.length = 10 := by rw [hfs]; rfl
  have hw0 := hide (Wri.new w1 73)
  rw [← hfs] at hfc Hfit
  have hgb := heap_alloc_new (w1.alloc (.cells #[.slice none 0 0] 73)) (.cells (fieldCs fs).toArray 74)
  rw [hfc.out] at hgb
  rw [← hfc.out] at hgb ⊢
  have hgs : (w1.alloc (.cells #[.slice none 0 0] 73)).heap.size = w1.heap.size + 1 := by simp
  rw [hgs] at hgb
  have hst := hide (And.intro (hw0.out.ch (Ch.alloc (S := fun _ => False) _ (.cells (fieldCs fs).toArray 74)) (fun _ _ h => h)) (And.intro hgb ((balloc w1 (.cells #[.slice none 0 0] 73)).alloc (by simp) (.cells (fieldCs fs).toArray 74))))
  have Hfs := hide hfs
  have hel := hide (encH_len fs fun x hx => (Hfit.out x hx).2.2)
  clear hw0 hgb hgs hfc hfs c0 c1 c2 c3 c4 c5 c6 c7
  generalize (w1.alloc (.cells #[.slice none 0 0] 73)).alloc (.cells (fieldCs fs).toArray 74) = wA at *
  have es1 : Hid (w1.heap.size = w1.heap.size) := hide rfl
  go_loopw [71] (fun i wr => ∃ (k : Nat) (v : Value), k ≤ 10 ∧ i = .int .i64 (k : Int) ∧ Wri 73 wr w1.heap.size v (encH (fs.take k)) ∧ wr.heap[w1.heap.size + 1]? = some (.cells (fieldCs fs).toArray 74 (0, 0)) ∧ Below w1.heap.size w1 wr ∧ (∀ b, Fp w1.heap.size v b → b = w1.heap.size ∨ w1.heap.size + 1 < b)) (fun i _ => 10 - (intOf i).toNat)
  case atStart => exact ⟨0, _, Nat.zero_le _, rfl, hst.out.1, hst.out.2.1, hst.out.2.2, fun b hb => .inl (fp_new hb)⟩
  case round =>
    clear hst
    obtain ⟨k, v, hk, rfl, hwri, hgb, hbr, hfp⟩ := hrel
    by_cases hlt : k < 10
    · have hk' : k < fs.length := by omega
      obtain ⟨f1, f2⟩ := fieldCs_at fs k hk'
      have q1 := cell_of_row wr (w1.heap.size + 1) (k * 2) _ _ (0, 0) hgb
      have q2 := cell_of_row wr (w1.heap.size + 1) (k * 2 + 1) _ _ (0, 0) hgb
      rw [List.getElem?_toArray, f1] at q1
      rw [List.getElem?_toArray, f2] at q2
      obtain ⟨ft1, ft2, ft3⟩ := Hfit.out fs[k] (List.getElem_mem hk')
      have hsn := hide (show encH (fs.take (k + 1)) = encH (fs.take k) ++ putL fs[k].1 fs[k].2 by rw [List.take_succ_eq_append_getElem hk', encH_snoc])
      have hlb : (encH (fs.take k)).length ≤ 100000 := by
        have := encH_len (fs.take k) fun x hx => (Hfit.out x (List.mem_of_mem_take hx)).2.2
        rw [List.length_take] at this; omega
      have hput := hide (fun wx hx => put_calls w1.heap.size v (encH (fs.take k)) fs[k].1 (fs[k].2 : Int) wx hx ft2 ft1 hlb)
      have Hst := hide (And.intro hwri (And.intro hgb (And.intro hbr hfp)))
      clear f1 f2 ft1 ft2 ft3 hlb hwri hgb hbr hfp
      generalize fs[k].1 = f1 at *
      generalize fs[k].2 = f2 at *
      go_wp2_with fail
      have hwx := Hst.out.1.ch (Ch.alloc (S := fun _ => False) wr (.cells #[.int .u64 (f1 : Int), .int .i64 (f2 : Int)] 74)) (fun _ _ h => h)
      refine (hput.out _ hwx).mono ?_
      rintro e w3 ⟨rfl, v', hw3, hc3, hf3⟩
      have hfin := hide (enc_step (t := 74) Hst.out hc3 hw3 hf3)
      rw [Int.toNat_natCast, ← hsn.out] at hfin
      clear hw3 hc3 hf3 hput Hst q1 q2 hwx
      go_wp2_with fail
      go_roundw
      case rel => exact ⟨k + 1, v', by omega, by go_num, hfin.out⟩
      case measure => simp [intOf]; omega
    · obtain rfl : k = 10 := by omega
      rw [List.take_of_length_le (by omega)] at hwri
      have hb1r := hide (hb1'.out.trans (hbr.mono hb1'.out.size))
      replace c8 := (hbr.cell hs1).trans c8
      have Hwri := hide hwri
      have Hbr := hide hbr
      have Hfp := hide hfp
      have hpr := hide (lit1b (S := S) Hn.out hclB (by unfold maxLen; omega) (Hp.out.keep (w' := wr) fun k hk => hb1r.out.block k (HS.out k hk)) (fun k hk => Nat.lt_of_lt_of_le (HS.out k hk) hb1r.out.size) 22)
      have hlt1 := hwri.lt
      clear hwri hbr hfp hgb
      go_wp2_with fail
      have hwx := Hwri.out.ch (Ch.alloc (S := fun _ => False) wr (.cells #[.slice A B c] 22)) (fun _ _ h => h)
      have happ := hide (append_calls w1.heap.size v (encH fs) (some ⟨wr.heap.size, 0, none⟩) [pl] 1 _ _ hwx (by decide) (by simp) hpr.out (fun q hq => by
        rcases hq with hq | hq
        · have h1 := HS.out q hq
          have h2 := hb1r.out.size
          refine ⟨by simp; omega, fun hf => ?_⟩
          have := Hfp.out q hf
          have := hb1'.out.size
          omega
        · subst hq
          exact ⟨by simp, fun hf => by have := Hwri.out.fp hf; omega⟩) (by have := hel.out; simp; have := Hn.out; omega))
      simp only [List.flatten_cons, List.flatten_nil, List.append_nil] at happ
      refine happ.out.mono ?_
      rintro e w4 ⟨rfl, v4, hw4, hc4, hf4⟩
      have hgcl : gc < w.heap.size := (Array.getElem?_eq_some_iff.1 Hgc.out).1
      have hgtl := Ht.out.lt
      have hb4 := hide (hc4.below (B := w.heap.size) (hb1r.out.trans ((balloc wr (.cells #[.slice A B c] 22)).mono hb1r.out.size)) (by have := hb1r.out.size; simp; omega) (fun b hb => by have := Hfp.out b hb; have := hb1'.out.size; omega))
      have k0 : w4.cell? ⟨gc, 0, none⟩ = some (.pointer (some ⟨gt, 0, none⟩)) := (hb4.out.cell (by simpa using hgcl)).trans (cell_of_row w gc 0 _ _ (0, 0) Hgc.out)
      have Hw4 := hide hw4
      have hlb : (encH fs ++ pl).length ≤ 100000 := by rw [List.length_append]; have := hel.out; have := Hn.out; omega
      have Hlb := hide hlb
      have hbc := hide (bytes_calls w1.heap.size v4 _ w4.drew (Hw4.out.ch (Ch.drew (S := fun _ => False) w4) (fun _ _ h => h)) hlb)
      have ht4 := hide (Ht.out.keep (w' := w4) (hb4.out.block gt hgtl))
      generalize hz : encH fs ++ pl = z at *
      have Hz := hide hz
      clear hw4 hc4 hf4 hwx happ hz hlb c8
      go_wp2_with fail
      go_region_held (fun y => y.cell? ⟨gc, 0, none⟩ = some (.pointer (some ⟨gt, 0, none⟩))) (first | assumption | exact k0) (first
        | (go_at_call 33
           refine hbc.out.mono ?_
           rintro e w5 ⟨v5, rfl, hf5'⟩
           have hf5 := hide hf5'
           have k5 : w5.cell? ⟨gc, 0, none⟩ = some (.pointer (some ⟨gt, 0, none⟩)) := (hf5'.2.1.cell (p := ⟨gc, 0, none⟩) (by have := hb4.out.size; show gc < w4.heap.size; omega)).trans k0
           obtain ⟨A5, c5, rfl, hc5, hm5⟩ := hf5'.shape
           have hsl := hide (seal_calls gt A5 z c5 _ w5 (ht4.out.keep (hf5'.2.1.block gt (by have := hb4.out.size; show gt < w4.heap.size; omega))) hm5 hc5 Hlb.out (hf5'.1.rd rfl (fun k => (Value.slice A5 z.length c5).ownBlock = some k) (fun _ h => h) (fun x => ⟨_, rfl, rfl⟩)) (fun k hk => hf5'.1.lt hk))
           generalize z.length = zl at hsl ⊢
           clear hf5' hc5 hm5)
        | (go_at_call 32
           refine hsl.out.mono ?_
           rintro e w6 ⟨v6, rfl, hf6⟩
           have Hf6 := hide hf6
           have k6 : w6.cell? ⟨gc, 0, none⟩ = some (.pointer (some ⟨gt, 0, none⟩)) := (hf6.2.1.cell (p := ⟨gc, 0, none⟩) (by have := hb4.out.size; have := hf5.out.2.1.size; show gc < w5.heap.size; have e : w4.drew.heap.size = w4.heap.size := rfl; omega)).trans k5
           clear hf6))
      have s45 : w4.heap.size ≤ w5.heap.size := hf5.out.2.1.size
      have hb5 : Below w.heap.size w w5 := hb4.out.trans (Below.mono (B := w4.heap.size) ⟨hf5.out.2.1.os, hf5.out.2.1.tape, hf5.out.2.1.output, hf5.out.2.1.size, hf5.out.2.1.block⟩ hb4.out.size)
      have hb6 := hide (hb5.trans (Hf6.out.2.1.mono hb5.size))
      have hs5 := hb5.size
      go_wp2_with fail
      refine hR.out _ _ ⟨_, rfl, ?_, hb6.out, fun k hk => by have := Hf6.out.2.2 k hk; omega⟩
      have e : z = headL s N B Q E F len d ++ pl := by rw [← Hz.out, Hfs.out]; rfl
      rw [← e]
      exact Hf6.out.1
end Go.Proofs.Ytopfpadfjfmmiaa
