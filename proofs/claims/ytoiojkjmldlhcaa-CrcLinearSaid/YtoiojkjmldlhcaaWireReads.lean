/- WireReads, walked. -/
import Derived.Test.YtoiojkjmldlhcaaWireLaws
set_option linter.unusedVariables false
set_option linter.unusedSimpArgs false
namespace Go.Proofs.Ytoiojkjmldlhcaa
open Go.RowKit

abbrev Item := UInt64 × (Int × List UInt8)
def Kd.item : Kd Item := Kd.seq Kd.u64 (Kd.seq (Kd.int .i64) (Kd.sl Kd.byte))
theorem item_cells {S : Nat → Prop} {w : World} {x : Item} {cs : List Value} (h : Kd.item.R S w x cs) : ∃ A c, cs = [.int .u64 (x.1.toNat : Int), .int .i64 x.2.1, .slice A x.2.2.length c] ∧ (-9223372036854775808 ≤ x.2.1 ∧ x.2.1 ≤ 9223372036854775807) ∧ x.2.2.length ≤ c ∧ c ≤ maxLen ∧ RdL Kd.byte S w A x.2.2 := by
  obtain ⟨_, _, rfl, ⟨u, rfl, rfl⟩, _, _, rfl, ⟨u2, rfl, rfl, wf⟩, A, c, rfl, h1, h2, h3⟩ := h
  exact ⟨A, c, rfl, bounds_i64 wf, h1, h2, h3⟩
/-- Element i of a row of items. -/
theorem RdL.item {S : Nat → Prop} {w : World} {B : Option Addr} {xs : List Item} (h : RdL Kd.item S w B xs) {i : Nat} (hi : i < xs.length) : ∃ b off A c, B = some ⟨b, off, none⟩ ∧ S b ∧
    (w.cell? ⟨b, off + i * 3, none⟩ = some (.int .u64 (xs[i].1.toNat : Int)) ∧ w.cell? ⟨b, off + i * 3 + 1, none⟩ = some (.int .i64 xs[i].2.1) ∧ w.cell? ⟨b, off + i * 3 + 2, none⟩ = some (.slice A xs[i].2.2.length c)) ∧
    (-9223372036854775808 ≤ xs[i].2.1 ∧ xs[i].2.1 ≤ 9223372036854775807) ∧ xs[i].2.2.length ≤ c ∧ c ≤ maxLen ∧ RdL Kd.byte S w A xs[i].2.2 := by
  obtain ⟨b, off, e, hs, hc⟩ := h (by omega)
  obtain ⟨cs, hr, hcell⟩ := hc i xs[i] (List.getElem?_eq_getElem hi)
  obtain ⟨A, c, rfl, h1, h2, h3, h4⟩ := item_cells hr
  refine ⟨b, off, A, c, e, hs, ⟨?_, ?_, ?_⟩, h1, h2, h3, h4⟩
  · exact hcell 0 _ rfl
  · exact hcell 1 _ rfl
  · exact hcell 2 _ rfl

theorem Rea.blt {w : World} {g c : Nat} {A : Option Addr} {bs : List UInt8} {S : Nat → Prop} (h : Rea w g A c bs S) {b : Nat} (hb : b = g ∨ S b) : b < w.heap.size := hb.elim (fun e => e ▸ h.glt) (h.lt b)
theorem Rea.drew {w : World} {g c : Nat} {A : Option Addr} {bs : List UInt8} {S : Nat → Prop} (h : Rea w g A c bs S) (q : Nat) : Rea (w.drewN q) g A c bs S := ⟨h.head, h.le, h.max, h.rd.keep fun _ _ => rfl, h.ne, h.lt⟩
theorem item_kept {wr w4 : World} {u1 u2 u3 : Value} {t : TypeId} {S : Nat → Prop} (hc : Ch S (wr.alloc (.cells #[u1, u2, u3] t)) w4) (hs : ¬ S wr.heap.size) :
    w4.cell? ⟨wr.heap.size, 0, none⟩ = some u1 ∧ w4.cell? ⟨wr.heap.size, 1, none⟩ = some u2 ∧ w4.cell? ⟨wr.heap.size, 2, none⟩ = some u3 := by
  have h := (hc.block wr.heap.size (by simp) hs).trans (heap_alloc_new wr (.cells #[u1, u2, u3] t))
  exact ⟨cell_of_row w4 _ 0 _ _ _ h, cell_of_row w4 _ 1 _ _ _ h, cell_of_row w4 _ 2 _ _ _ h⟩
theorem RdL.mid {S : Nat → Prop} {w : World} {B : Option Addr} {bs : List UInt8} {c : Nat} (h : RdL Kd.byte S w B bs) (q m : Nat) (hq : q + m ≤ bs.length) (hc : bs.length ≤ c) : RdL Kd.byte S w (dropA B c q) ((bs.drop q).take m) := by
  have hd := (h.drop q c (by omega) hc).take m
  rwa [show q * Kd.byte.sz = q from Nat.mul_one q] at hd

set_option maxRecDepth 100000 in
set_option maxHeartbeats 4000000 in
theorem reads_calls (B : Option Addr) (bs : List UInt8) (cb : Nat) (L : Option Addr) (l : List Item) (d : Nat) (w : World)
    (hbm : cb ≤ maxLen) (hbl : bs.length ≤ cb) (hbr : RdL Kd.byte (· < w.heap.size) w B bs) (hd : d ≤ maxLen) (hdl : l.length ≤ d) (hlr : RdL Kd.item (· < w.heap.size) w L l) :
    Calls Try.prog 5 #[.slice B bs.length cb, .slice L l.length d] w fun e w' => e = .returned (.bool true) ∧ Below w.heap.size w w' := by
  refine cps fun R hR => ?_
  have hbm' := hbm
  have hd' := hd
  unfold maxLen at hbm' hd'
  go_enter Try.func5, Try.ntmps5
  go_wp2_with fail
  refine (speaks_calls w).mono ?_
  rintro e w1 ⟨rfl, hb1⟩
  replace hbr := (hbr.below hb1).mono fun k h => Nat.lt_of_lt_of_le h hb1.size
  replace hlr := (hlr.below hb1).mono fun k h => Nat.lt_of_lt_of_le h hb1.size
  by_cases h300 : 300 < bs.length
  · clear hbr hlr
    go_wp2_with fail
    exact hR.out _ _ ⟨rfl, hb1⟩
  by_cases h50 : 50 < l.length
  · clear hbr hlr
    go_wp2_with fail
    exact hR.out _ _ ⟨rfl, hb1⟩
  have Hb := hide hbr
  have Hl := hide hlr
  clear hbr hlr
  generalize hn : bs.length = n at *
  have Hn := hide hn
  clear hn
  go_wp2_with (at_builtin; with_reducible refine wp_app_lit 28 rfl rfl (.tmp 26) (.tmp 27) 24 rfl Try.underlying24 infoB ?_ (news := bs.map encB) (g := w1.heap.size) ?_ (A := B) (c := cb) ?_ ?_ (encB_one _) ?_ ?_ ?_)
  case refine_1 => rfl
  case refine_2 => rfl
  case refine_3 => rw [List.length_map, Hn.out]; rfl
  case refine_4 => exact (Hb.out.keep fun k hk => Below.heap_alloc w1 _ k hk).srcB
  case refine_5 => rw [List.length_map, Hn.out]; omega
  case refine_6 => rw [List.length_map, Hn.out]; unfold maxLen; omega
  case refine_7 =>
  intro v2 w2 hn2
  obtain ⟨A2, g2, post2, c2, rfl, hc2, hm2, hb2, hg2, hlt2, hw2⟩ := hn2.wr
  have hbel2 := (balloc w1 (.cells #[] 5)).trans (hb2.mono (by simp))
  have hr2 := read_calls A2 bs c2 _ w2 hm2 hc2 (by rw [Hn.out]; omega) (hw2 w2 (Below.refl _ _)).rdB
  rw [Hn.out] at hr2 hlt2 hc2 ⊢
  have hs12 := hbel2.size
  have Hw2 := hide hw2
  have hg2' : w1.heap.size ≤ g2 := by simp at hg2; omega
  clear hn2 hb2 hw2 hg2
  go_wp2_with fail
  refine hr2.mono ?_
  rintro e w3 ⟨g3, A3, c3, S3, rfl, hr3, hb3, hg3⟩
  have hw3 := Hw2.out w3 hb3
  have hbel3 := hbel2.trans (hb3.mono hs12)
  have Hr3 := hide hr3
  have Hg3 := hide hg3
  have hs23 := hb3.size
  clear hr3 hg3 hr2 Hw2 hbel2 hb3
  go_wp2_with fail
  go_loopw [33] (fun i wr => ∃ (k : Nat) (ts : List UInt8), k ≤ n ∧ i = .int .i64 (k : Int) ∧ ts.length = n ∧ Wr wr A2 g2 [] post2 5 ts ∧ Ch (fun b => b = g2 ∧ 0 < n) w3 wr) (fun i _ => n - (intOf i).toNat)
  case atStart => exact ⟨0, bs, Nat.zero_le _, rfl, Hn.out, hw3, Ch.refl _⟩
  case round =>
    obtain ⟨k, ts, hk, rfl, hts, hwr, hch⟩ := hrel
    by_cases hlt : k < n
    · have hkt : k < ts.length := by rw [hts]; exact hlt
      obtain ⟨hA, hc1, hf1⟩ := hwr.cell hkt
      have Hx := hide (hwr.set hkt 85)
      have Hts := hide hts
      simp only [List.length_nil, Nat.zero_add] at hA hc1 hf1 Hx
      subst hA
      generalize ts[k] = x at hc1
      clear hwr hts hw3
      go_wp2_with fail
      go_roundw
      case rel => exact ⟨k + 1, ts.set k 85, by omega, by go_num, by rw [List.length_set]; exact Hts.out, Hx.out, hch.trans (Ch.set _ _ _) fun b hb => .inl ⟨hb, by omega⟩⟩
      case measure => simp [intOf]; omega
    · have hr4 : Rea wr g3 A3 c3 bs S3 := by
        refine Hr3.out.ch hch fun b hb e => ?_
        have h2 := Hg3.out b hb
        have := (hlt2 e.2).1
        have := e.1
        omega
      have hb4 := hch.below hbel3 (Nat.le_trans hs12 hs23) (fun b hb => by have := hb.1; omega)
      have Hr4 := hide hr4
      have hs4 := hch.size
      clear hwr hts hr4 hw3 Hr3 hch
      go_wp2_with fail
      go_loopw [7, 42] (fun a i wq => ∃ (j at' : Nat) (A' : Option Addr) (c' : Nat), j ≤ l.length ∧ i = .int .i64 (j : Int) ∧ a = .int .i64 (at' : Int) ∧ at' ≤ n ∧ Rea wq g3 A' c' (bs.drop at') S3 ∧ Below w1.heap.size w1 wq ∧ w3.heap.size ≤ wq.heap.size) (fun _ i _ => l.length - (intOf i).toNat)
      case atStart => exact ⟨0, 0, _, _, Nat.zero_le _, rfl, rfl, Nat.zero_le _, by simpa using Hr4.out, hb4, hs4⟩
      case round =>
        obtain ⟨j, at', A', c', hj, rfl, rfl, hat, hrq, hbq, hsq⟩ := hrel
        by_cases hjl : j < l.length
        · obtain ⟨b, off, AI, cI, rfl, hsb, ⟨q1, q2, q3⟩, hsz, hcI, hmI, hrI⟩ := (Hl.out.below hbq).item hjl
          clear hrI
          generalize l[j].2.2.length = bl at q3 hcI
          generalize l[j].2.1 = s at q2 hsz
          generalize l[j].1.toNat = N at q1
          have Hrq := hide hrq
          clear hrq
          have hg3q : g3 < wr.heap.size := Hrq.out.glt
          have hg31 : w1.heap.size ≤ g3 := Nat.le_trans hs12 (Hg3.out g3 (.inl rfl))
          have hW := hide (balloc wr (.cells #[.int .u64 (N : Int), .int .i64 s, .slice AI bl cI] 29))
          have hrW := Hrq.out.ch (Ch.of_below (S := fun _ => False) hW.out) (fun _ _ h => h)
          have hld : (bs.drop at').length = n - at' := by rw [List.length_drop, Hn.out]
          have hbW := hbq.trans (hW.out.mono hbq.size)
          have hsW : wr.heap.size ≤ (wr.alloc (.cells #[.int .u64 (N : Int), .int .i64 s, .slice AI bl cI] 29)).heap.size := hW.out.size
          cases hpar : ((N : Int) % 2 == 0)
          · by_cases hok : 0 ≤ s ∧ s ≤ (n : Int) - (at' : Int)
            · obtain ⟨h1, hle⟩ := hok
              obtain ⟨m, rfl⟩ := Int.eq_ofNat_of_zero_le h1
              have ht := hide (cut_calls g3 A' c' (bs.drop at') S3 m _ hrW (by rw [hld]; omega) (by rw [hld]; omega))
              have hlt' : ((bs.drop at').take m).length = m := by rw [List.length_take, hld]; omega
              have hg := hide (Hb.out.mid at' m (by rw [Hn.out]; omega) (by rw [Hn.out]; exact hbl))
              have hltm := hlt'
              have Hld := hide hld
              clear hrW hld hlt'
              have Hltm := hide hltm
              clear hltm
              go_wp2_with fail
              refine ht.out.mono ?_
              rintro e w4 ⟨v', A4, rfl, hrow, hown, hr4, hc4⟩
              obtain ⟨k1, k2, k3⟩ := item_kept hc4 (by omega)
              have hb4' := hc4.below hbW (by omega) (fun b hb => by omega)
              have hleft := fun q => left_calls g3 _ _ _ S3 (w4.drewN q) (hr4.drew q)
              rw [show (((bs.drop at').drop m).length : Int) = (n : Int) - ((at' : Int) + (m : Int)) by rw [List.length_drop, Hld.out]; omega] at hleft
              rw [List.drop_drop] at hr4
              have Hr4' := hide hr4
              have hs4' := Nat.le_trans hsq (Nat.le_trans hsW hc4.size)
              obtain ⟨A5, c5, rfl, -, -⟩ := hrow.shape
              have c1 := fun q => run_str (P := Try.prog) (w := w4.drewN q) Try.underlying24 Try.underlying5 Try.underlying9 (hrow.keep (w' := w4.drewN q) fun _ _ => rfl).src c5
              have c2 := fun q => run_str (P := Try.prog) (w := w4.drewN q) Try.underlying24 Try.underlying5 Try.underlying9 (((hg.out.below hb4').keep (w' := w4.drewN q) fun _ _ => rfl).srcB) (cb - at')
              rw [Hltm.out] at c1 c2
              rw [List.length_map, Hltm.out]
              generalize bstr ((bs.drop at').take m) = str at c1 c2
              have e0 : IntKind.i64.wrap ((at' : Int) + (m : Int)) = ((at' + m : Nat) : Int) := by rw [IntKind.wrap_i64]; omega
              clear hr4 hrow hc4 ht hown hg
              have Hleft := hide hleft
              clear hleft
              rcases (by omega : cb = at' ∨ ¬ cb = at') with hcb | hcb
              case' inl =>
                rw [dropA, if_pos hcb, show cb - at' = 0 by omega] at c2
                obtain rfl : at' = cb := hcb.symm
                clear hcb
              case' inr =>
                rw [dropA, if_neg hcb] at c2
              all_goals
                go_wp2_with fail
                go_quiet (fail)
                go_wp2_with fail
                refine (Hleft.out nq).mono ?_
                rintro e w5 ⟨rfl, rfl⟩
                go_wp2_with fail
                go_roundw
                case rel => exact ⟨j + 1, _ + m, _, _, by omega, by go_num, by go_num, by omega, Hr4'.out.drew nq, ⟨hb4'.os, hb4'.tape, hb4'.output, hb4'.size, hb4'.block⟩, hs4'⟩
                case measure => simp [intOf]; omega
            · have ht := hide (cut_no g3 A' c' (bs.drop at') S3 s _ hrW (by rw [hld]; omega))
              have hleft := left_calls g3 _ _ _ S3 _ hrW
              rw [show (((bs.drop at')).length : Int) = (n : Int) - ((at' : Int)) by rw [hld]; omega] at hleft
              have HrW := hide hrW
              clear hrW hld
              rcases (by omega : s < 0 ∨ (0 ≤ s ∧ (n : Int) - (at' : Int) < s)) with h | ⟨h, h'⟩
              case' inl => have f1 : decide (0 ≤ s) = false := by simp; omega
              case' inr =>
                have f1 : decide (0 ≤ s) = true := by simp; omega
                have f2 : decide (s ≤ (n : Int) - (at' : Int)) = false := by simp; omega
              all_goals
                have Hok := hide hok
                clear hok
                go_wp2_with fail
                refine ht.out.mono ?_
                rintro e w4 ⟨rfl, rfl⟩
                go_wp2_with fail
                refine hleft.mono ?_
                rintro e w5 ⟨rfl, rfl⟩
                go_wp2_with fail
                go_roundw
                case rel => exact ⟨j + 1, at', _, _, by omega, by go_num, rfl, by omega, HrW.out, hbW, Nat.le_trans hsq hsW⟩
                case measure => simp [intOf]; omega
          · by_cases hok : 1 ≤ s ∧ s ≤ 8 ∧ s ≤ (n : Int) - (at' : Int)
            · obtain ⟨h1, h8, hle⟩ := hok
              obtain ⟨m, rfl⟩ := Int.eq_ofNat_of_zero_le (by omega : (0 : Int) ≤ s)
              have ht := hide (take_calls g3 A' c' (bs.drop at') S3 m _ hrW (by omega) (by omega) (by rw [hld]; omega))
              have hg := hide (Hb.out.mid at' m (by rw [Hn.out]; omega) (by rw [Hn.out]; exact hbl))
              have hlt' := hide (show ((bs.drop at').take m).length = m by rw [List.length_take, hld]; omega)
              have Hld := hide hld
              have hcb : ¬ cb = at' := by omega
              clear hrW hld
              go_wp2_with fail
              refine ht.out.mono ?_
              rintro e w4 ⟨rfl, hr4, hc4⟩
              obtain ⟨k1, k2, k3⟩ := item_kept hc4 (by omega)
              have hb4' := hc4.below hbW (by omega) (fun b hb => by omega)
              have hgc := refget_calls (dropA B cb at') _ (cb - at') _ w4 (by unfold maxLen; omega) (by rw [hlt'.out]; omega) (hg.out.below hb4')
              have hleft := left_calls g3 _ _ _ S3 w4 hr4
              rw [hlt'.out, dropA, if_neg hcb] at hgc
              rw [show (((bs.drop at').drop m).length : Int) = (n : Int) - ((at' : Int) + (m : Int)) by rw [List.length_drop, Hld.out]; omega] at hleft
              rw [List.drop_drop] at hr4
              have Hr4' := hide hr4
              have hs4' := Nat.le_trans hsq (Nat.le_trans hsW hc4.size)
              clear hr4 hc4 ht hg
              generalize getN ((bs.drop at').take m) = y at hgc ⊢
              go_wp2_with fail
              refine hgc.mono ?_
              rintro e w5 ⟨rfl, rfl⟩
              go_wp2_with fail
              refine hleft.mono ?_
              rintro e w5 ⟨rfl, rfl⟩
              go_wp2_with fail
              go_roundw
              case rel => exact ⟨j + 1, at' + m, _, _, by omega, by go_num, by go_num, by omega, Hr4'.out, hb4', hs4'⟩
              case measure => simp [intOf]; omega
            · have ht := hide (take_no g3 A' c' (bs.drop at') S3 s _ hrW (by rw [hld]; omega))
              have hleft := left_calls g3 _ _ _ S3 _ hrW
              rw [show (((bs.drop at')).length : Int) = (n : Int) - ((at' : Int)) by rw [hld]; omega] at hleft
              have HrW := hide hrW
              clear hrW hld
              rcases (by omega : s < 1 ∨ (1 ≤ s ∧ 8 < s) ∨ (1 ≤ s ∧ s ≤ 8 ∧ (n : Int) - (at' : Int) < s)) with h | ⟨h, h'⟩ | ⟨h, h', h''⟩
              case' inl => have f1 : decide (1 ≤ s) = false := by simp; omega
              case' inr.inl =>
                have f1 : decide (1 ≤ s) = true := by simp; omega
                have f2 : decide (s ≤ 8) = false := by simp; omega
              case' inr.inr =>
                have f1 : decide (1 ≤ s) = true := by simp; omega
                have f2 : decide (s ≤ 8) = true := by simp; omega
                have f3 : decide (s ≤ (n : Int) - (at' : Int)) = false := by simp; omega
              all_goals
                have Hok := hide hok
                clear hok
                go_wp2_with fail
                refine ht.out.mono ?_
                rintro e w4 ⟨rfl, rfl⟩
                go_wp2_with fail
                refine hleft.mono ?_
                rintro e w5 ⟨rfl, rfl⟩
                go_wp2_with fail
                go_roundw
                case rel => exact ⟨j + 1, at', _, _, by omega, by go_num, rfl, by omega, HrW.out, hbW, Nat.le_trans hsq hsW⟩
                case measure => simp [intOf]; omega
        · clear hrq
          go_wp2_with fail
          exact hR.out _ _ ⟨rfl, hb1.trans (hbq.mono hb1.size)⟩
end Go.Proofs.Ytoiojkjmldlhcaa
