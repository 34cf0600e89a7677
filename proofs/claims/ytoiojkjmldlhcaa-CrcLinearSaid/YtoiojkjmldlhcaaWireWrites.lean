/- WireWrites, walked. -/
import Derived.Test.YtoiojkjmldlhcaaWirePut
import Derived.Deep.RegionHeld
import Derived.Deep.RegionHeldLaw
set_option linter.unusedVariables false
set_option linter.unusedSimpArgs false
namespace Go.Proofs.Ytoiojkjmldlhcaa
open Go.RowKit

/-- The writer at block g holds b; a row of the call's own, v, holds a; both lie from B on, apart. -/
structure WriI (B : Nat) (w0 wr : World) (g : Nat) (v vw : Value) (a b : List UInt8) : Prop where
  row : Row wr 5 v (a.map encB)
  wri : Wri 26 wr g vw b
  bel : Below B w0 wr
  le : B ≤ wr.heap.size
  own : ∀ q, v.ownBlock = some q → B ≤ q ∧ ¬ Fp g vw q
  fp : ∀ q, Fp g vw q → B ≤ q
section
variable {B : Nat} {w0 wr w' : World} {g : Nat} {v vw v' vw' : Value} {a b a' b' : List UInt8}
theorem WriI.later (h : WriI B w0 wr g v vw a b) (hb : Below wr.heap.size wr w') : WriI B w0 w' g v vw a b :=
  ⟨h.row.keep fun k hk => hb.block k (h.row.lt hk), h.wri.keep fun q hq => hb.block q (h.wri.fp hq), h.bel.trans (hb.mono h.le), Nat.le_trans h.le hb.size, h.own, h.fp⟩
theorem WriI.alloc (o : Obj) (h : WriI B w0 wr g v vw a b) : WriI B w0 (wr.alloc o) g v vw a b := h.later (balloc wr o)
theorem WriI.drew (h : WriI B w0 wr g v vw a b) : WriI B w0 wr.drew g v vw a b := h.later (Below.refl _ _).drew
theorem WriI.writer (h : WriI B w0 wr g v vw a b) (hw : Wri 26 w' g vw' b') (hc : Ch (Fp g vw) wr w') (hf : ∀ q, Fp g vw' q → Fp g vw q ∨ wr.heap.size ≤ q) : WriI B w0 w' g v vw' a b' :=
  ⟨h.row.keep fun k hk => hc.block k (h.row.lt hk) (h.own k hk).2, hw, hc.below h.bel h.le h.fp, Nat.le_trans h.le hc.size, fun q hq => ⟨(h.own q hq).1, fun hf' => (hf q hf').elim (h.own q hq).2 fun h5 => by have := h.row.lt hq; omega⟩,
    fun q hq => (hf q hq).elim (h.fp q) fun h5 => Nat.le_trans h.le h5⟩
theorem WriI.grow (h : WriI B w0 wr g v vw a b) (hr : Row w' 5 v' (a'.map encB)) (hg : wr.grownBy w' v.ownBlock) (ha : v'.ownBlock = v.ownBlock ∨ v'.ownBlock = some wr.heap.size) : WriI B w0 w' g v' vw a' b :=
  ⟨hr, h.wri.keep fun q hq => hg.block q (h.wri.fp hq) fun e => (h.own q e.symm).2 hq, h.bel.grown hg h.le fun q hq => (h.own q hq).1, Nat.le_trans h.le hg.size, fun q hq => by
    rcases ha with ha | ha
    · exact h.own q (ha ▸ hq)
    · rw [ha] at hq; injection hq with hq; exact ⟨by have := h.le; omega, fun hf => by have := h.wri.fp hf; omega⟩, h.fp⟩
theorem WriI.fresh (h : WriI B w0 wr g v vw a b) (hf : Fresh wr w' v' a') : WriI B w0 w' g v' vw a' b :=
  ⟨hf.1, h.wri.keep fun q hq => hf.2.1.block q (h.wri.fp hq), h.bel.trans (hf.2.1.mono h.le), Nat.le_trans h.le hf.2.1.size, fun q hq => ⟨Nat.le_trans h.le (hf.2.2 q hq), fun hf' => by have := h.wri.fp hf'; have := hf.2.2 q hq; omega⟩, h.fp⟩
end
theorem WriI.ch {B : Nat} {w0 wr w' : World} {g : Nat} {v vw : Value} {a b : List UInt8} {S : Nat → Prop} (h : WriI B w0 wr g v vw a b) (hc : Ch S wr w') (hs : ∀ q, S q → B ≤ q ∧ ¬ Fp g vw q ∧ v.ownBlock ≠ some q) : WriI B w0 w' g v vw a b :=
  ⟨h.row.keep fun k hk => hc.block k (h.row.lt hk) fun hs' => (hs k hs').2.2 hk, h.wri.keep fun q hq => hc.block q (h.wri.fp hq) fun hs' => (hs q hs').2.1 hq, hc.below h.bel h.le fun q hq => (hs q hq).1, Nat.le_trans h.le hc.size, h.own, h.fp⟩
/-- Two slices in a new block. -/
theorem lit2 {S : Nat → Prop} {w : World} {A : Option Addr} {xs : List UInt8} {n c : Nat} (hn : xs.length = n) (hc : n ≤ c) (hm : c ≤ maxLen) (h : RdL Kd.byte S w A xs) (hS : ∀ k, S k → k < w.heap.size) (e : TypeId) :
    RdL (Kd.sl Kd.byte) (fun k => S k ∨ k = w.heap.size) (w.alloc (.cells #[.slice A n c, .slice A n c] e)) (some ⟨w.heap.size, 0, none⟩) [xs, xs] := by
  subst hn
  have hu : (Kd.sl Kd.byte).R (fun k => S k ∨ k = w.heap.size) (w.alloc (.cells #[.slice A xs.length c, .slice A xs.length c] e)) xs [.slice A xs.length c] :=
    ⟨A, c, rfl, hc, hm, (h.keep fun k hk => (balloc w _).block k (hS k hk)).mono fun k hk => .inl hk⟩
  refine RdL.block1 rfl (heap_alloc_new w _) (.inr rfl) (fun i x hx => ?_)
  match i, hx with
  | 0, hx => simp at hx; subst hx; exact ⟨_, rfl, hu⟩
  | 1, hx => simp at hx; subst hx; exact ⟨_, rfl, hu⟩
  | n + 2, hx => simp at hx

set_option maxRecDepth 100000 in
set_option maxHeartbeats 4000000 in
theorem writes_calls (L : Option Addr) (l : List Item) (d : Nat) (w : World) (hd : d ≤ maxLen) (hdl : l.length ≤ d) (hlr : RdL Kd.item (· < w.heap.size) w L l) :
    Calls Try.prog 4 #[.slice L l.length d] w fun e w' => e = .returned (.bool true) ∧ Below w.heap.size w w' := by
  refine cps fun R hR => ?_
  have hd' := hd
  unfold maxLen at hd'
  go_enter Try.func4, Try.ntmps4
  go_wp2_with fail
  refine (speaks_calls w).mono ?_
  rintro e w1 ⟨rfl, hb1⟩
  replace hlr := (hlr.below hb1).mono fun k h => Nat.lt_of_lt_of_le h hb1.size
  by_cases h50 : 50 < l.length
  · clear hlr
    go_wp2_with fail
    exact hR.out _ _ ⟨rfl, hb1⟩
  have Hl := hide hlr
  clear hlr
  go_wp2_with fail
  go_loopw [4, 17] (fun p i wr => ∃ (k : Nat) (bs : List UInt8) (vw : Value), k ≤ l.length ∧ i = .int .i64 (k : Int) ∧ bs.length ≤ 200 * k ∧ WriI w1.heap.size w1 wr w1.heap.size p vw bs bs) (fun _ i _ => l.length - (intOf i).toNat)
  case atStart => exact ⟨0, [], _, Nat.zero_le _, rfl, by simp, Row.nil, Wri.new w1 _, balloc _ _, by simp, fun b hb => by simp [Value.ownBlock] at hb, fun b hb => by rw [fp_new hb]; exact Nat.le_refl _⟩
  case round =>
    obtain ⟨k, bs, vw, hk, rfl, hbl, hI⟩ := hrel
    have HI := hide hI
    have hb1r := hb1.trans (hI.bel.mono hb1.size)
    clear hI
    by_cases hlt : k < l.length
    · obtain ⟨b, off, AI, cI, rfl, hsb, ⟨q1, q2, q3⟩, hsz, hcI, hmI, hrI⟩ := (Hl.out.below HI.out.bel).item hlt
      have Hsz := hide hsz
      have HrI := hide hrI
      have hN := l[k].1.toNat_lt
      have HN := hide hN
      clear hrI hsz hN
      generalize l[k].1.toNat = N at q1 HN
      generalize l[k].2.1 = s at q2 Hsz
      generalize l[k].2.2 = xb at q3 HrI hcI
      generalize hbl' : xb.length = bl at q3 hcI
      have Hbl := hide hbl'
      clear hbl'
      have hW := hide (HI.out.alloc (.cells #[.int .u64 (N : Int), .int .i64 s, .slice AI bl cI] 29))
      have hs1 := HI.out.bel.size
      by_cases h100 : 100 < bl
      · clear hcI
        go_wp2_with fail
        exact hR.out _ _ ⟨rfl, hb1.trans (hW.out.bel.mono hb1.size)⟩
      by_cases hs0 : s = 0
      · subst hs0
        have hW2 := hide (hW.out.alloc (.cells #[.slice AI bl cI, .slice AI bl cI] 24))
        have hlit := lit2 Hbl.out hcI hmI (HrI.out.keep (w' := wr.alloc (.cells #[.int .u64 (N : Int), .int .i64 0, .slice AI bl cI] 29)) (fun q hq => (balloc wr _).block q (Nat.lt_of_lt_of_le hq hs1))) (fun q hq => Nat.lt_of_lt_of_le hq hW.out.le) 24
        have hca := hide (append_calls w1.heap.size vw bs _ [xb, xb] 2 _ _ hW2.out.wri (by simp [maxLen]) (by simp) hlit (fun q hq => hq.elim (fun h => ⟨Nat.lt_of_lt_of_le h hW2.out.le, fun hf => by have := HI.out.fp q hf; omega⟩) (fun h => by subst h; exact ⟨by simp, fun hf => by have := HI.out.wri.fp hf; simp at this; omega⟩)) (by simp [Hbl.out]; omega))
        simp only [show [xb, xb].flatten = xb ++ xb by simp, show ([xb, xb] : List (List UInt8)).length = 2 from rfl] at hca
        rw [show (wr.alloc (.cells #[.int .u64 (N : Int), .int .i64 0, .slice AI bl cI] 29)).heap.size = wr.heap.size + 1 by simp] at hca
        clear hlit
        go_wp2_with fail
        refine hca.out.mono ?_
        rintro e w4 ⟨rfl, vw', hw4, hc4, hf4⟩
        have hI4 := hide (hW2.out.writer hw4 hc4 hf4)
        have k3 : w4.cell? ⟨wr.heap.size, 2, none⟩ = some (.slice AI bl cI) := by
          refine hc4.cell (((balloc _ _).cell (by simp)).trans ?_) (fun hf => by have := HI.out.wri.fp hf; simp at this)
          exact cell_of_row _ _ 2 _ _ _ (heap_alloc_new wr _)
        clear hw4 hc4 hf4 hca
        go_wp2_with fail
        have HrI4 := hide (HrI.out.keep (w' := w4) (fun q hq => (hI4.out.bel.block q hq).trans (HI.out.bel.block q hq).symm))
        have hkey := hide (fun q hq => HI.out.row.lt (k := q) hq)
        have lmb := hide (show (bs.map encB).length = bs.length by simp)
        have lmx := hide (show (xb.map encB).length = bl by rw [List.length_map, Hbl.out])
        go_region_held_law (fun x => x.cell? ⟨wr.heap.size, 2, none⟩ = some (.slice AI bl cI)) (first | assumption | exact k3) (first
          | (rw [if_pos (by rfl)]
             refine op_app 37 rfl (.tmp 34) (.tmp 36) 24 rfl Try.underlying24 infoB rfl (us := bs.map encB) (by rfl) hI4.out.drew.row (A := AI) (c := cI) (news := xb.map encB) (by rw [lmx.out]; rfl) (HrI4.out.keep (w' := w4.drew) fun _ _ => rfl).srcB (encB_one _) (by rw [lmx.out, lmb.out]; omega) (by rw [lmx.out, lmb.out]; unfold maxLen; omega) ?_
             intro v5 w5 h5 g5 a5
             have hI5 := hide (hI4.out.drew.grow (a' := bs ++ xb) (by rw [List.map_append]; exact h5) g5 a5)
             have k5 : w5.cell? ⟨wr.heap.size, 2, none⟩ = some (.slice AI bl cI) := (Ch.of_grown g5).cell (w := w4.drew) k3 (fun e => absurd (show wr.heap.size < wr.heap.size from hkey.out _ e) (Nat.lt_irrefl _))
             have hk5 := hide (show ∀ q, v5.ownBlock = some q → ¬ q = wr.heap.size from fun q hq e => by
               rcases a5 with a5 | a5
               · exact absurd (show wr.heap.size < wr.heap.size from hkey.out _ (a5 ▸ (e ▸ hq))) (Nat.lt_irrefl _)
               · rw [a5, e] at hq; injection hq with hq; have h8 := World.block_lt_of_cell? _ _ k3; have h9 : wr.heap.size < w4.heap.size := h8; have h10 : w4.heap.size = wr.heap.size := hq; omega)
             clear h5 g5 a5)
          | (rw [if_pos (by rfl)]
             refine op_app 40 rfl (.tmp 37) (.tmp 39) 24 rfl Try.underlying24 infoB rfl (us := (bs ++ xb).map encB) (by rfl) hI5.out.row (A := AI) (c := cI) (news := xb.map encB) (by rw [lmx.out]; rfl) (HrI.out.keep (w' := w5) (fun q hq => (hI5.out.bel.block q hq).trans (HI.out.bel.block q hq).symm)).srcB (encB_one _) (by rw [lmx.out, List.length_map, List.length_append, Hbl.out]; omega) (by rw [lmx.out, List.length_map, List.length_append, Hbl.out]; unfold maxLen; omega) ?_
             intro v6 w6 h6 g6 a6
             have hI6 := hide (hI5.out.grow (a' := bs ++ (xb ++ xb)) (by rw [← List.append_assoc, List.map_append]; exact h6) g6 a6)
             have k6 : w6.cell? ⟨wr.heap.size, 2, none⟩ = some (.slice AI bl cI) := (Ch.of_grown g6).cell k5 (fun e => hk5.out _ e rfl)
             clear h6 g6 a6))
        go_wp2_with fail
        go_roundw
        case rel => exact ⟨k + 1, bs ++ (xb ++ xb), vw', by omega, by go_num, by simp [Hbl.out]; omega, hI6.out⟩
        case measure => simp [intOf]; omega
      · have f0 : (s == 0) = false := by simpa using hs0
        cases hfit : fitsN N s
        · have h1 := hide (reffits_calls N s (wr.alloc (.cells #[.int .u64 (N : Int), .int .i64 s, .slice AI bl cI] 29)) HN.out)
          have h2 := hide (put_no w1.heap.size vw N s (wr.alloc (.cells #[.int .u64 (N : Int), .int .i64 s, .slice AI bl cI] 29)) HN.out hfit Hsz.out.1 Hsz.out.2)
          rw [hfit] at h1
          clear hfit
          go_wp2_with fail
          refine h1.out.mono ?_
          rintro e w4 ⟨rfl, rfl⟩
          go_wp2_with fail
          refine h2.out.mono ?_
          rintro e w4 ⟨rfl, rfl⟩
          go_wp2_with fail
          go_roundw
          case rel => exact ⟨k + 1, bs, vw, by omega, by go_num, by omega, hW.out⟩
          case measure => simp [intOf]; omega
        · have h1 := hide (reffits_calls N s (wr.alloc (.cells #[.int .u64 (N : Int), .int .i64 s, .slice AI bl cI] 29)) HN.out)
          have h2 := hide (put_calls w1.heap.size vw bs N s (wr.alloc (.cells #[.int .u64 (N : Int), .int .i64 s, .slice AI bl cI] 29)) hW.out.wri HN.out hfit (by omega))
          rw [hfit] at h1
          obtain ⟨f1, f2, -⟩ := fitsN_iff hfit
          clear hfit hs0
          go_wp2_with fail
          refine h1.out.mono ?_
          rintro e w4 ⟨rfl, rfl⟩
          go_wp2_with fail
          refine h2.out.mono ?_
          rintro e w4 ⟨rfl, vw', hw4, hc4, hf4⟩
          obtain ⟨k1, k2, k3⟩ := item_kept hc4 (fun hf => by have := HI.out.wri.fp hf; omega)
          have hI4 := hide (hW.out.writer hw4 hc4 hf4)
          obtain ⟨m, rfl⟩ := Int.eq_ofNat_of_zero_le (by omega : (0 : Int) ≤ s)
          have h3 := hide (refput_calls u4 bs N m w4 HN.out (by omega) (by omega) hI4.out.row)
          clear hw4 hc4 hf4 h1 h2
          rw [Int.toNat_natCast] at hI4
          go_wp2_with fail
          refine h3.out.mono ?_
          rintro e w5 ⟨v5, rfl, hf5⟩
          have hI5 := hide (hI4.out.fresh hf5)
          clear hf5
          go_wp2_with fail
          go_roundw
          case rel => exact ⟨k + 1, bs ++ putL N m, vw', by omega, by go_num, by rw [List.length_append, putL_len]; omega, hI5.out⟩
          case measure => simp [intOf]; omega
    · obtain rfl : k = l.length := by omega
      have hby := hide (bytes_calls w1.heap.size vw bs wr HI.out.wri (by omega))
      obtain ⟨Av, cv, rfl, hcv, hmv⟩ := HI.out.row.shape
      have hbl200 : bs.length ≤ 10000 := by omega
      clear hbl
      rw [List.length_map] at HI hcv ⊢
      go_wp2_with fail
      refine hby.out.mono ?_
      rintro e w2 ⟨v2, rfl, hf2⟩
      have hI2 := hide (HI.out.later hf2.2.1)
      obtain ⟨A2, c2, rfl, h2, h2'⟩ := hf2.shape
      have s1 := run_str (P := Try.prog) (w := w2) Try.underlying24 Try.underlying5 Try.underlying9 hf2.1.src c2
      have s2 := run_str (P := Try.prog) (w := w2) Try.underlying24 Try.underlying5 Try.underlying9 hI2.out.row.src cv
      have hlen := hide (len_calls _ _ _ _ hI2.out.wri)
      have hf2' := hide hf2
      obtain ⟨g8, post8, hw8, ho8, -⟩ := Row.wr hf2.1
      have hg8 := hide (show 0 < bs.length → w1.heap.size ≤ g8 ∧ ¬ Fp w1.heap.size vw g8 ∧ (Value.slice Av bs.length cv).ownBlock ≠ some g8 from fun h0 => by
        have h9 := hf2.2.2 g8 (ho8 h0)
        exact ⟨Nat.le_trans HI.out.le h9, fun hf => by have := HI.out.wri.fp hf; omega, fun e => by have := HI.out.row.lt e; omega⟩)
      have hw8' := hide hw8
      clear hf2 hby ho8 hw8
      generalize hn : bs.length = n at *
      have Hn := hide hn
      clear hn
      generalize hstr : bstr bs = str at s1 s2
      have Hstr := hide hstr
      clear hstr
      go_wp2_with fail
      refine hlen.out.mono ?_
      rintro e w3 ⟨rfl, rfl⟩
      go_wp2_with fail
      go_loopw [75] (fun i wr => ∃ (j : Nat) (ts : List UInt8), j ≤ n ∧ i = .int .i64 (j : Int) ∧ ts.length = n ∧ Wr wr A2 g8 [] post8 5 ts ∧ Ch (fun b => b = g8 ∧ 0 < n) w2 wr) (fun i _ => n - (intOf i).toNat)
      case atStart => exact ⟨0, bs, Nat.zero_le _, rfl, Hn.out, hw8'.out, Ch.refl _⟩
      case round =>
        obtain ⟨j, ts, hj, rfl, hts, hwr, hch⟩ := hrel
        by_cases hjl : j < n
        · have hkt : j < ts.length := by rw [hts]; exact hjl
          obtain ⟨hA, hc1, hf1⟩ := hwr.cell hkt
          have Hx := fun y => hwr.set hkt y
          have Hts := hide hts
          simp only [List.length_nil, Nat.zero_add] at hA hc1 hf1 Hx
          subst hA
          generalize ts[j] = x at hc1
          have hadd : IntKind.u8.wrap ((x.toNat : Int) + 1) = ((x + 1).toNat : Int) := by
            rw [UInt8.toNat_add]; simp [IntKind.wrap, IntKind.bits, IntKind.signed]
          have Hy := hide (Hx (x + 1))
          generalize x + 1 = y at hadd Hy
          clear hwr hts Hx hw8'
          go_wp2_with fail
          go_roundw
          case rel => exact ⟨j + 1, ts.set j y, by omega, by go_num, by rw [List.length_set]; exact Hts.out, Hy.out, hch.trans (Ch.set _ _ _) fun b hb => .inl ⟨hb, by omega⟩⟩
          case measure => simp [intOf]; omega
        · have hIe := hide (hI2.out.ch hch fun q hq => by rw [hq.1]; exact hg8.out hq.2)
          have hsv := hide (fun x (hb : Below wr.heap.size wr x) => by
            have := run_str (P := Try.prog) (w := x) Try.underlying24 Try.underlying5 Try.underlying9 (hIe.out.later hb).row.src cv
            rwa [Hn.out, Hstr.out] at this)
          clear hwr hts hch hw8' hI2 s1 s2
          go_wp2_with fail
          have s0 := hsv.out wr (Below.refl _ _)
          have s0' := hsv.out wr.drew (Below.refl _ _).drew
          go_region_held (fun x => Sem.run Try.prog (convert 24 9 (.slice Av n cv)) x = Result.ok (.string str) x) (assumption) (first
            | (go_at_call 17
               refine (bytes_calls w1.heap.size vw bs _ hIe.out.drew.wri (by rw [Hn.out]; omega)).mono ?_
               rintro e w9 ⟨v9, rfl, hf9⟩
               have s9 := hsv.out w9 ((Below.refl _ _).drew.trans hf9.2.1)
               have hb9 := hide (hIe.out.bel.trans ((((Below.refl _ _).drew.trans hf9.2.1) : Below wr.heap.size wr w9).mono hIe.out.le))
               obtain ⟨A9, c9, rfl, -, -⟩ := hf9.shape
               have t9 := run_str (P := Try.prog) (w := w9) Try.underlying24 Try.underlying5 Try.underlying9 hf9.1.src c9
               rw [Hn.out, Hstr.out] at t9
               rw [Hn.out]
               clear hf9))
          go_wp2_with fail
          exact hR.out _ _ ⟨rfl, hb1.trans (hb9.out.mono hb1.size)⟩
end Go.Proofs.Ytoiojkjmldlhcaa
