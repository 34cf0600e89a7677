/- WireBack, walked. -/
import Derived.Test.YtoiojkjmldlhcaaWireReads
import Derived.Test.YtoiojkjmldlhcaaAppS
set_option linter.unusedVariables false
set_option linter.unusedSimpArgs false
namespace Go.Proofs.Ytoiojkjmldlhcaa
open Go.RowKit

theorem infoI : (Try.prog.info? 29).map (fun i => (i.zero, i.size, i.bytes)) = some (some (.agg #[.int .u64 0, .int .i64 0, .slice none 0 0]), Kd.item.sz, 40) := by kernel_rfl
def encI2 (x : Item) : List UInt8 := putL x.1.toNat x.2.1.toNat
def encAll (ps : List Item) : List UInt8 := (ps.map encI2).flatten
theorem encAll_snoc (ps : List Item) (x : Item) : encAll (ps ++ [x]) = encAll ps ++ putL x.1.toNat x.2.1.toNat := by simp [encAll, encI2]
theorem getN_put (n : Nat) : ∀ (k a : Nat), (putL n k).foldl (fun n x => (n * 256 + x.toNat) % 18446744073709551616) a % 18446744073709551616 = (a * 256 ^ k + n % 256 ^ k) % 18446744073709551616 := by
  intro k
  induction k with
  | zero => intro a; simp [putL, Nat.mod_one]
  | succ k ih =>
    intro a
    rw [putL, List.foldl_cons, ih]
    have e : (UInt8.ofNat (n / 256 ^ k)).toNat = n / 256 ^ k % 256 := by rw [UInt8.toNat_ofNat']
    rw [e, Nat.pow_succ, Nat.mod_mul, Nat.add_mod, Nat.mul_mod, Nat.mod_mod, ← Nat.mul_mod, ← Nat.add_mod]
    congr 1
    rw [Nat.add_mul, Nat.mul_assoc, Nat.mul_comm 256 (256 ^ k), Nat.mul_comm (n / 256 ^ k % 256)]
    omega
theorem getN_putL {n k : Nat} (h : n < 256 ^ k) (h64 : n < 18446744073709551616) : getN (putL n k) = n := by
  have h1 := getN_put n k 0
  have h2 := getN_lt (putL n k)
  unfold getN at h2 ⊢
  rw [Nat.mod_eq_of_lt h2, Nat.zero_mul, Nat.zero_add, Nat.mod_eq_of_lt h, Nat.mod_eq_of_lt h64] at h1
  exact h1

theorem encAll_drop {ps : List Item} {j : Nat} (hj : j < ps.length) : encAll (ps.drop j) = putL ps[j].1.toNat ps[j].2.1.toNat ++ encAll (ps.drop (j + 1)) := by
  rw [List.drop_eq_getElem_cons hj]; rfl
theorem take_put {n m : Nat} {rest : List UInt8} : (putL n m ++ rest).take m = putL n m ∧ (putL n m ++ rest).drop m = rest := by
  have h := putL_len n m
  constructor
  · rw [List.take_append_of_le_length (by omega), List.take_of_length_le (by omega)]
  · rw [List.drop_append_of_le_length (by omega), List.drop_eq_nil_of_le (by omega), List.nil_append]
theorem fitsN_iff {n : Nat} {s : Int} (h : fitsN n s = true) : 1 ≤ s ∧ s ≤ 8 ∧ n < 256 ^ s.toNat := by
  unfold fitsN at h
  simp only [Bool.and_eq_true, decide_eq_true_eq] at h
  exact ⟨h.1.1, h.1.2, h.2⟩

structure BackI (w1 wr : World) (v vw : Value) (ps : List Item) : Prop where
  row : ORow Kd.item (· < w1.heap.size) wr 29 v ps
  wri : Wri 26 wr w1.heap.size vw (encAll ps)
  bel : Below w1.heap.size w1 wr
  own : ∀ b, v.ownBlock = some b → w1.heap.size ≤ b ∧ ¬ Fp w1.heap.size vw b
  fp : ∀ b, Fp w1.heap.size vw b → w1.heap.size ≤ b

theorem back_mid {w1 wr w4 : World} {v vw : Value} {ps : List Item} {o o' : Obj} (h : BackI w1 wr v vw ps) (hc : Ch (Fp w1.heap.size vw) (wr.alloc o) w4) :
    ORow Kd.item (· < w1.heap.size) (w4.alloc o') 29 v ps := by
  refine h.row.keep fun k hk => ?_
  have hs : (wr.alloc o).heap.size = wr.heap.size + 1 := by simp
  have hb := h.bel.size
  have hkl : k < wr.heap.size := hk.elim (fun h => by omega) (fun h' => h.row.lt h')
  have hn : ¬ Fp w1.heap.size vw k := hk.elim (fun hk hf => by have := h.fp k hf; omega) (fun hk => (h.own k hk).2)
  exact (((balloc w4 o').block k (by have := hc.size; omega)).trans (hc.block k (by omega) hn)).trans ((balloc wr o).block k hkl)
theorem back_fin {w1 wr w4 w5 : World} {v vw v' vw' : Value} {ps : List Item} {x : Item} {o o' : Obj} (h : BackI w1 wr v vw ps) (hc : Ch (Fp w1.heap.size vw) (wr.alloc o) w4) (hf : ∀ b, Fp w1.heap.size vw' b → Fp w1.heap.size vw b ∨ (wr.alloc o).heap.size ≤ b)
    (hw : Wri 26 w4 w1.heap.size vw' (encAll ps ++ putL x.1.toNat x.2.1.toNat))
    (hr : ORow Kd.item (· < w1.heap.size) w5 29 v' (ps ++ [x])) (hg : (w4.alloc o').grownBy w5 v.ownBlock) (ha : v'.ownBlock = v.ownBlock ∨ v'.ownBlock = some (w4.alloc o').heap.size) : BackI w1 w5 v' vw' (ps ++ [x]) := by
  have hs : (wr.alloc o).heap.size = wr.heap.size + 1 := by simp
  have hs' : (w4.alloc o').heap.size = w4.heap.size + 1 := by simp
  have hb := h.bel.size
  have h4 := hc.size
  have hvn : ∀ b, v.ownBlock = some b → ¬ Fp w1.heap.size vw' b := fun b hb' hf' => (hf b hf').elim (h.own b hb').2 fun h5 => by have := h.row.lt hb'; omega
  have hfp : ∀ b, Fp w1.heap.size vw' b → w1.heap.size ≤ b := fun b hb' => (hf b hb').elim (h.fp b) fun h5 => by omega
  refine ⟨hr, ?_, ?_, fun b hb' => ?_, hfp⟩
  · rw [encAll_snoc]
    exact hw.keep fun b hb' => (hg.block b (by have := hw.fp hb'; omega) (fun e => hvn b e.symm hb')).trans ((balloc w4 o').block b (hw.fp hb'))
  · have b4 := hc.below ((h.bel.trans ((balloc wr o).mono hb))) (by omega) h.fp
    exact (b4.alloc (by omega) o').grown hg (by omega) fun q hq => (h.own q hq).1
  · rcases ha with ha | ha
    · exact ⟨(h.own b (ha ▸ hb')).1, hvn b (ha ▸ hb')⟩
    · rw [ha] at hb'
      injection hb' with hb'
      exact ⟨by omega, fun hf' => by have := hw.fp hf'; omega⟩
theorem back_no {w1 wr : World} {v vw : Value} {ps : List Item} (o : Obj) (h : BackI w1 wr v vw ps) : BackI w1 (wr.alloc o) v vw ps :=
  ⟨h.row.keep fun k hk => (balloc wr o).block k (hk.elim (fun h' => Nat.lt_of_lt_of_le h' h.bel.size) fun h' => h.row.lt h'), h.wri.keep fun b hb => (balloc wr o).block b (h.wri.fp hb), h.bel.alloc h.bel.size o, h.own, h.fp⟩

theorem i64_wf {n : Int} (h1 : -9223372036854775808 ≤ n) (h2 : n ≤ 9223372036854775807) : (Lit.int .i64 n).wf = true := by
  simp [Lit.wf, IntKind.min, IntKind.max, IntKind.bits, IntKind.signed]
  omega
set_option maxHeartbeats 2000000 in
theorem back_calls (L : Option Addr) (l : List Item) (d : Nat) (w : World) (hd : d ≤ maxLen) (hdl : l.length ≤ d) (hlr : RdL Kd.item (· < w.heap.size) w L l) :
    Calls Try.prog 3 #[.slice L l.length d] w fun e w' => e = .returned (.bool true) ∧ Below w.heap.size w w' := by
  refine cps fun R hR => ?_
  have hd' := hd
  unfold maxLen at hd'
  go_enter Try.func3, Try.ntmps3
  go_wp2_with fail
  refine (speaks_calls w).mono ?_
  rintro e w1 ⟨rfl, hb1⟩
  replace hlr := (hlr.below hb1).mono fun k h => Nat.lt_of_lt_of_le h hb1.size
  by_cases h50 : 50 < l.length
  · clear hlr
    go_wp2_with fail
    exact hR.out _ _ ⟨rfl, hb1⟩
  have Hl := hide hlr
  clear hlr
  go_wp2_with fail
  go_loopw [4, 21] (fun p i wr => ∃ (k : Nat) (ps : List Item) (vw : Value), k ≤ l.length ∧ i = .int .i64 (k : Int) ∧ ps.length ≤ k ∧ (encAll ps).length ≤ 8 * k ∧ (∀ x ∈ ps, fitsN x.1.toNat x.2.1 = true) ∧ BackI w1 wr p vw ps) (fun _ i _ => l.length - (intOf i).toNat)
  case atStart => exact ⟨0, [], _, Nat.zero_le _, rfl, by simp, by simp [encAll], by simp, ORow.nil, Wri.new w1 _, balloc _ _, fun b hb => by simp [Value.ownBlock] at hb, fun b hb => by rw [fp_new hb]; exact Nat.le_refl _⟩
  case round =>
    obtain ⟨k, ps, vw, hk, rfl, hpl, hel, hall, hI⟩ := hrel
    have HI := hide hI
    have Hall := hide hall
    have hb1r := hb1.trans (hI.bel.mono hb1.size)
    clear hI hall
    by_cases hlt : k < l.length
    · obtain ⟨b, off, AI, cI, rfl, hsb, ⟨q1, q2, q3⟩, hsz, hcI, hmI, hrI⟩ := (Hl.out.below HI.out.bel).item hlt
      have Hsz := hide hsz
      have HrI := hide hrI
      have HcI := hide hcI
      have Hx := hide (rfl : l[k] = l[k])
      generalize hx : l[k] = x at q1 q2 q3 hsz hcI hrI Hsz HrI HcI
      clear hrI hsz hcI
      have hN : x.1.toNat < 18446744073709551616 := x.1.toNat_lt
      have HN := hide hN
      have hx' := hide hx
      clear hN hx Hx
      cases hfit : fitsN x.1.toNat x.2.1
      · have hc := hide (put_no w1.heap.size vw x.1.toNat x.2.1 (wr.alloc (.cells #[.int .u64 (x.1.toNat : Int), .int .i64 x.2.1, .slice AI x.2.2.length cI] 29)) HN.out hfit Hsz.out.1 Hsz.out.2)
        clear hfit
        generalize x.1.toNat = N at q1 hc
        generalize x.2.1 = s at q2 hc
        generalize x.2.2.length = bl at q3 hc
        go_wp2_with fail
        refine hc.out.mono ?_
        rintro e w4 ⟨rfl, rfl⟩
        go_wp2_with fail
        go_roundw
        case rel => exact ⟨k + 1, ps, vw, by omega, by go_num, by omega, by omega, Hall.out, back_no _ HI.out⟩
        case measure => simp [intOf]; omega
      · have hc := hide (put_calls w1.heap.size vw (encAll ps) x.1.toNat x.2.1 (wr.alloc (.cells #[.int .u64 (x.1.toNat : Int), .int .i64 x.2.1, .slice AI x.2.2.length cI] 29)) (back_no _ HI.out).wri HN.out hfit (by omega))
        have Hfit := hide hfit
        have hy : Kd.item.R (· < w1.heap.size) wr x [.int .u64 (x.1.toNat : Int), .int .i64 x.2.1, .slice AI x.2.2.length cI] := ⟨_, _, rfl, ⟨_, rfl, rfl⟩, _, _, rfl, ⟨_, rfl, rfl, i64_wf Hsz.out.1 Hsz.out.2⟩, AI, cI, rfl, HcI.out, hmI, HrI.out⟩
        have Hy := hide hy
        clear hfit hy
        generalize hN' : x.1.toNat = N at q1 hc
        generalize hs' : x.2.1 = s at q2 hc
        generalize hbl' : x.2.2.length = bl at q3 hc
        have hN'' := hide hN'
        have hs'' := hide hs'
        have hbl'' := hide hbl'
        rw [hN', hs', hbl'] at Hy
        clear hN' hs' hbl'
        go_wp2_with fail
        refine hc.out.mono ?_
        rintro e w4 ⟨rfl, vw', hw4, hc4, hf4⟩
        obtain ⟨k1, k2, k3⟩ := item_kept hc4 (fun hf => by have := HI.out.wri.fp hf; omega)
        have hm4 := fun o' => back_mid (o' := o') HI.out hc4
        have hm4' := hide hm4
        have hw4' := hide hw4
        have hf4' := hide hf4
        have hy4 := Kd.item.keep (fun q hq => ((hc4.below (HI.out.bel.alloc HI.out.bel.size _) (by have := HI.out.bel.size; simp; omega) HI.out.fp).block q hq).trans (HI.out.bel.block q hq).symm) Hy.out
        have Hy4 := hide hy4
        have hs1 := hc4.size
        have hs2 := HI.out.bel.size
        have hs3 : (wr.alloc (.cells #[.int .u64 (N : Int), .int .i64 s, .slice AI bl cI] 29)).heap.size = wr.heap.size + 1 := by simp
        rw [hs3] at hs1
        clear hm4 hw4 hf4 hy4 hs3
        go_wp2_with (at_builtin; with_reducible refine wp_push 33 rfl rfl (.tmp 30) (.tmp 32) 22 rfl Try.underlying22 infoI ?_ (S := (· < w1.heap.size)) (xs := ps) ?_ (hm4'.out _) (g := w4.heap.size) (y := x) (cs := [.int .u64 (N : Int), .int .i64 s, .slice AI bl cI]) ?_ (heap_alloc_new w4 _) ?_ ?_ ?_ ?_ ?_ ?_)
        case refine_1 => rfl
        case refine_2 => rfl
        case refine_3 => rfl
        case refine_4 => exact Kd.item.keep (fun q hq => (balloc w4 _).block q (Nat.lt_of_lt_of_le hq (by omega))) Hy4.out
        case refine_5 => simp [Value.oneCell']
        case refine_6 => omega
        case refine_7 => unfold maxLen; omega
        case refine_8 => exact fun q hq => ⟨by simp; omega, fun e => by have := (HI.out.own q e.symm).1; omega⟩
        case refine_9 =>
          intro v5 w5 hr5 g5 a5
          have hfin := hide (back_fin (x := x) HI.out hc4 hf4'.out (by rw [hN''.out, hs''.out]; exact hw4'.out) hr5 g5 a5)
          clear hr5 g5 a5 hc4 k1 k2 k3
          go_wp2_with fail
          go_roundw
          case rel =>
            refine ⟨k + 1, ps ++ [x], vw', by omega, by go_num, by simp; omega, ?_, ?_, hfin.out⟩
            · have := fitsN_iff Hfit.out
              rw [encAll_snoc, List.length_append, putL_len]; omega
            · intro y hy
              rcases List.mem_append.1 hy with hy | hy
              · exact Hall.out y hy
              · simp at hy; subst hy; exact Hfit.out
          case measure => simp [intOf]; omega
    · obtain rfl : k = l.length := by omega
      have hby := hide (bytes_calls w1.heap.size vw (encAll ps) wr HI.out.wri (by omega))
      obtain ⟨Ap, cp, rfl, hcp, hmp⟩ := HI.out.row.shape
      have hs1 := HI.out.bel.size
      go_wp2_with fail
      refine hby.out.mono ?_
      rintro e w2 ⟨v2, rfl, hf2⟩
      have hf2' := hf2
      obtain ⟨A2, c2, rfl, h2, h2'⟩ := hf2.shape
      have hbel2 := HI.out.bel.trans (hf2.2.1.mono hs1)
      have hrd := hide (read_calls A2 (encAll ps) c2 _ w2 h2' h2 (by omega) (hf2.1.rd (d := Kd.byte) rfl _ (fun b hb => hb) fun x => ⟨_, rfl, rfl⟩))
      have hs2 := hf2.2.1.size
      have hrow := HI.out.row.rd.keep (w' := w2) (fun q hq => hf2.2.1.block q (hq.elim (fun h => Nat.lt_of_lt_of_le h hs1) fun h => HI.out.row.lt h))
      have hrow' := hide (hrow.mono (S' := (· < w2.heap.size)) (fun q hq => Nat.lt_of_lt_of_le (hq.elim (fun h => Nat.lt_of_lt_of_le h hs1) fun h => HI.out.row.lt h) hs2))
      clear hf2 hf2' hby hrow hb1r h2 h2'
      generalize (encAll ps).length = le at hrd hel ⊢
      go_wp2_with fail
      refine hrd.out.mono ?_
      rintro e w3 ⟨g3, A3, c3, S3, rfl, hr3, hb3, hg3⟩
      have hrow3 := hide (hrow'.out.keep (w' := w3) (fun q hq => hb3.block q hq))
      have Hr3 := hide hr3
      have hbel3 := hbel2.trans (hb3.mono (Nat.le_trans hs1 hs2))
      have hs3 := hb3.size
      have hg3' : w2.heap.size ≤ g3 := hg3 g3 (.inl rfl)
      have Hg3 := hide hg3
      clear hr3 hrd hrow' hg3 hbel2 hb3
      go_wp2_with fail
      go_loopw [39] (fun i wq => ∃ (j : Nat) (A' : Option Addr) (c' : Nat), j ≤ ps.length ∧ i = .int .i64 (j : Int) ∧ Rea wq g3 A' c' (encAll (ps.drop j)) S3 ∧ Ch (· = g3) w3 wq) (fun i _ => ps.length - (intOf i).toNat)
      case atStart => exact ⟨0, A3, c3, Nat.zero_le _, rfl, Hr3.out, Ch.refl _⟩
      case round =>
        obtain ⟨j, A', c', hj, rfl, hrq, hcq⟩ := hrel
        have hrowq := hrow3.out.keep (w' := wr) (fun q hq => hcq.block q (by omega) (fun e => by omega))
        have hbq := hcq.below hbel3 (Nat.le_trans (Nat.le_trans hs1 hs2) hs3) (fun b hb => by omega)
        have Hrq := hide hrq
        clear hrq
        by_cases hjl : j < ps.length
        · obtain ⟨b, off, AI, cI, rfl, hsb, ⟨q1, q2, q3⟩, hsz, hcI, hmI, hrI⟩ := hrowq.item hjl
          have hft := fitsN_iff (Hall.out ps[j] (List.getElem_mem hjl))
          have hN := ps[j].1.toNat_lt
          have hlast := encAll_drop hjl
          clear hrI hrowq hsz hcI
          generalize ps[j].1.toNat = N at q1 hft hN hlast
          generalize ps[j].2.1 = s at q2 hft hlast
          generalize ps[j].2.2.length = bl at q3
          obtain ⟨f1, f2, f3⟩ := hft
          obtain ⟨m, rfl⟩ := Int.eq_ofNat_of_zero_le (by omega : (0 : Int) ≤ s)
          rw [Int.toNat_natCast] at f3 hlast
          have hrW := Hrq.out.ch (Ch.of_below (S := fun _ => False) (balloc wr (.cells #[.int .u64 (N : Int), .int .i64 (m : Int), .slice AI bl cI] 29))) (fun _ _ h => h)
          rw [hlast] at hrW
          have ht := take_calls g3 A' c' _ S3 m _ hrW (by omega) (by omega) (by rw [List.length_append, putL_len]; omega)
          rw [take_put.1, take_put.2, getN_putL f3 hN] at ht
          have Ht := hide ht
          have hgl : g3 < wr.heap.size := Hrq.out.glt
          clear ht hrW hlast f3 hN
          go_wp2_with fail
          refine Ht.out.mono ?_
          rintro e w4 ⟨rfl, hr4, hc4⟩
          obtain ⟨k1, k2, k3⟩ := item_kept hc4 (by omega)
          have hc4' := hide ((hcq.trans (Ch.alloc wr _) (S' := fun _ => False) (fun b hb => hb.elim)).trans hc4 fun b hb => .inl hb)
          have Hr4 := hide hr4
          clear hr4 hc4
          go_wp2_with fail
          go_roundw
          case rel => exact ⟨j + 1, _, _, by omega, by go_num, Hr4.out, hc4'.out⟩
          case measure => simp [intOf]; omega
        · obtain rfl : j = ps.length := by omega
          have hr := Hrq.out
          rw [List.drop_length] at hr
          have ht := take_no g3 A' c' [] S3 1 wr hr (by simp)
          have hl := left_calls g3 A' c' [] S3 wr hr
          have hend := hb1.trans (hbq.mono hb1.size)
          clear hr hrowq
          go_wp2_with fail
          refine ht.mono ?_
          rintro e w4 ⟨rfl, rfl⟩
          go_wp2_with fail
          refine hl.mono ?_
          rintro e w4 ⟨rfl, rfl⟩
          go_wp2_with fail
          exact hR.out _ _ ⟨rfl, hend⟩
end Go.Proofs.Ytoiojkjmldlhcaa
