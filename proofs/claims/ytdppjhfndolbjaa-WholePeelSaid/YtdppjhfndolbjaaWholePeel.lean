/- WholePeel, walked. -/
import Derived.Test.YtdppjhfndolbjaaPeel2
import Derived.Test.YtdppjhfndolbjaaBatchTwice
import Derived.Test.YtdppjhfndolbjaaBatS
set_option linter.unusedVariables false
set_option linter.unusedSimpArgs false
namespace Go.Proofs.Ytdppjhfndolbjaa
open Go.RowKit Go.Maps

def eqsP : List EqB := [([0], [4])]
theorem fin_peel {vs : Vals} (h : Fin 1 1 eqsP vs) : vs = [some [4]] ∧ confB 1 1 eqsP vs = false := by
  have e : vs = [some [4]] := h.one ⟨⟨1, by decide⟩, by decide⟩
  subst e
  exact ⟨rfl, by decide⟩
theorem peel_mem (w : World) {w5 : World} (h5 : w5 = ((w.alloc (.cells #[.int .i64 0] 3)).alloc (.cells #[.int .u8 4] 5)).alloc (.cells #[.slice (some ⟨w.heap.size, 0, none⟩) 1 1, .slice (some ⟨w.heap.size + 1, 0, none⟩) 1 1] 43)) :
    RdL kEq (· < w5.heap.size) w5 (some ⟨w.heap.size + 1 + 1, 0, none⟩) eqsP ∧ Below w.heap.size w w5 := by
  obtain ⟨a3, h3⟩ : ∃ a3, a3 = w.alloc (.cells #[.int .i64 0] 3) := ⟨_, rfl⟩
  obtain ⟨a4, h4⟩ : ∃ a4, a4 = a3.alloc (.cells #[.int .u8 4] 5) := ⟨_, rfl⟩
  rw [← h3, ← h4] at h5
  have s3 : a3.heap.size = w.heap.size + 1 := by rw [h3]; simp
  have s4 : a4.heap.size = w.heap.size + 1 + 1 := by rw [h4]; simp [s3]
  have s5 : w5.heap.size = w.heap.size + 1 + 1 + 1 := by rw [h5]; simp [s4]
  have b3 : Below w.heap.size w a3 := by rw [h3]; exact balloc w _
  have b4 : Below a3.heap.size a3 a4 := by rw [h4]; exact balloc a3 _
  have b5 : Below a4.heap.size a4 w5 := by rw [h5]; exact balloc a4 _
  have b35 : Below a3.heap.size a3 w5 := b4.trans (b5.mono (by omega))
  have k3 : w5.heap[w.heap.size]? = some (.cells #[.int .i64 0] 3 (0, 0)) := (b35.block _ (by omega)).trans (by rw [h3]; exact heap_alloc_new w _)
  have k4 : w5.heap[w.heap.size + 1]? = some (.cells #[.int .u8 4] 5 (0, 0)) := (b5.block _ (by omega)).trans (by rw [h4, ← s3]; exact heap_alloc_new a3 _)
  have k5 : w5.heap[w.heap.size + 1 + 1]? = some (.cells #[.slice (some ⟨w.heap.size, 0, none⟩) 1 1, .slice (some ⟨w.heap.size + 1, 0, none⟩) 1 1] 43 (0, 0)) := by rw [h5, ← s4]; exact heap_alloc_new a4 _
  refine ⟨fun _ => ⟨_, 0, rfl, by omega, fun i x hx => ?_⟩, b3.trans (b35.mono (by omega))⟩
  match i, hx with
  | 0, hx =>
    simp [eqsP] at hx; subst hx
    refine ⟨[.slice (some ⟨w.heap.size, 0, none⟩) 1 1, .slice (some ⟨w.heap.size + 1, 0, none⟩) 1 1], ⟨[_], [_], rfl, ⟨_, 1, rfl, by simp, by simp [maxLen], ints_lit (l := [0]) k3 (by simp; decide) (by omega)⟩, ⟨_, 1, rfl, by simp, by simp [maxLen], bytes_lit (l := [4]) k4 (by omega)⟩⟩, fun j u hu => ?_⟩
    rw [cell_of_row _ _ _ _ _ _ k5]
    match j, hu with
    | 0, hu => simp at hu; subst hu; rfl
    | 1, hu => simp at hu; subst hu; rfl
    | j + 2, hu => simp at hu
  | i + 1, hx => simp [eqsP] at hx
set_option maxHeartbeats 40000000 in
set_option maxRecDepth 100000 in
theorem WholePeel_calls (al sz : Int) (hal : 0 ≤ al ∧ al ≤ 255) (hsz : 0 ≤ sz ∧ sz ≤ 255) (Bo Bv : Option Addr) (of : List (List Int)) (vals : List (List UInt8)) (co cv : Nat) (w : World) (hco : of.length ≤ co) (hcom : co ≤ maxLen) (hcv : vals.length ≤ cv) (hcvm : cv ≤ maxLen)
    (ho : RdL (Kd.sl kInt) (· < w.heap.size) w Bo of) (hv : RdL (Kd.sl Kd.byte) (· < w.heap.size) w Bv vals) (hbd : ∀ o ∈ of, o.length ≤ 1000000000000000000) :
    Calls Try.prog 7 #[eqsV al sz Bo of.length co Bv vals.length cv] w fun e w' => e = .returned (.bool true) ∧ Below w.heap.size w w' := by
  refine cps fun R hR => ?_
  obtain ⟨w1, hw1⟩ : ∃ w1, w1 = w.alloc (.cells #[.int .u8 al, .int .u8 sz, .slice Bo of.length co, .slice Bv vals.length cv] 25) := ⟨_, rfl⟩
  have hb1 : Below w.heap.size w w1 := by rw [hw1]; exact balloc w _
  have hz1 : w1.heap.size = w.heap.size + 1 := by rw [hw1]; simp
  have hh : w1.heap[w.heap.size]? = some (.cells #[.int .u8 al, .int .u8 sz, .slice Bo of.length co, .slice Bv vals.length cv] 25 (0, 0)) := by rw [hw1]; exact heap_alloc_new w _
  obtain ⟨lo, hlo⟩ : ∃ lo, lo = of.length := ⟨_, rfl⟩
  obtain ⟨lw, hlv⟩ : ∃ lw, lw = vals.length := ⟨_, rfl⟩
  rw [← hlo] at hco hw1 hh ⊢
  rw [← hlv] at hcv hw1 hh ⊢
  obtain ⟨n, hn, hn6⟩ : ∃ n : Nat, sz.tmod 6 = (n : Int) ∧ n < 6 := by
    obtain ⟨s, rfl⟩ := Int.eq_ofNat_of_zero_le hsz.1
    exact ⟨s % 6, rfl, Nat.mod_lt _ (by omega)⟩
  obtain ⟨m, hm, hm40⟩ : ∃ m : Nat, al.tmod 40 = (m : Int) ∧ m < 40 := by
    obtain ⟨s, rfl⟩ := Int.eq_ofNat_of_zero_le hal.1
    exact ⟨s % 40, rfl, Nat.mod_lt _ (by omega)⟩
  obtain ⟨w4, hw4⟩ : ∃ w4, w4 = ((w1.alloc (.cells #[.int .i64 0] 3)).alloc (.cells #[.int .u8 4] 5)).alloc (.cells #[.slice (some ⟨w1.heap.size, 0, none⟩) 1 1, .slice (some ⟨w1.heap.size + 1, 0, none⟩) 1 1] 43) := ⟨_, rfl⟩
  obtain ⟨hmem, hb4⟩ := peel_mem w1 hw4
  have hso := hide (solve_calls 1 1 _ eqsP 1 _ w4 (by simp [maxLen]) (by simp [eqsP]) hmem (fun k hk => hk) (by omega) (by omega) (by simp [eqsP]) (by simp [eqsP]))
  have c2 : w1.cell? ⟨w.heap.size, 2, none⟩ = some (.slice Bo lo co) := by rw [cell_of_row _ _ 2 _ _ _ hh]; rfl
  have c0 : w1.cell? ⟨w.heap.size, 0, none⟩ = some (.int .u8 al) := by rw [cell_of_row _ _ 0 _ _ _ hh]; rfl
  have c1 : w1.cell? ⟨w.heap.size, 1, none⟩ = some (.int .u8 sz) := by rw [cell_of_row _ _ 1 _ _ _ hh]; rfl
  have c3 : w1.cell? ⟨w.heap.size, 3, none⟩ = some (.slice Bv lw cv) := by rw [cell_of_row _ _ 3 _ _ _ hh]; rfl
  have Ho := hide ho
  have Hv := hide hv
  have Hbd := hide hbd
  have Hb1 := hide hb1
  have Hw1 := hide hw1
  have Hw4 := hide hw4
  have Hb4 := hide hb4
  have Hlo := hide hlo
  have Hlv := hide hlv
  have hq := hide (show w.heap.size < w1.heap.size by rw [hz1]; omega)
  obtain ⟨z1, hz1'⟩ : ∃ z1, z1 = w1.heap.size := ⟨_, rfl⟩
  have Hc := hide (And.intro c0 (And.intro c1 (And.intro c2 c3)))
  clear ho hv hbd hb1 hh hw1 hlo hlv hw4 hb4 hmem hz1 c0 c1 c2 c3 hz1'
  go_enter Try.func7, Try.ntmps7
  go_upto_region 1 with fail
  rw [← Hw1.out]
  clear Hw1
  go_wp2_with fail
  rw [← Hw4.out]
  refine hso.out.mono ?_
  rintro _ w5 ⟨vs0, vk0, gv0, S0, hfin0, rfl, hrs0⟩
  obtain ⟨hvs0, hcf0⟩ := fin_peel hfin0
  rw [show confB ((1 : Nat) : Int) ((1 : Nat) : Int) eqsP vs0 = false from hcf0]
  subst hvs0
  have hkn0 : knT [some [4]] 1 = [0] := by decide
  have hrow0 := hrs0.row
  rw [hkn0] at hrow0
  obtain ⟨Ak0, ck0, rfl, hc1, hc2⟩ := hrow0.shape
  obtain ⟨w6, hw6⟩ : ∃ w6, w6 = w5.alloc (.cells #[.slice Ak0 1 ck0, .slice (some ⟨gv0, 0, none⟩) 1 1, .bool false] 33) := ⟨_, rfl⟩
  have hb6 : Below w5.heap.size w5 w6 := by rw [hw6]; exact balloc w5 _
  have hh6 : w6.heap[w5.heap.size]? = some (.cells #[.slice Ak0 1 ck0, .slice (some ⟨gv0, 0, none⟩) 1 1, .bool false] 33 (0, 0)) := by rw [hw6]; exact heap_alloc_new w5 _
  obtain ⟨p3, hp3⟩ : ∃ p3, p3 = w5.heap.size := ⟨_, rfl⟩
  have hvr := (hrs0.vr.keep (w' := w6) fun z hz => hb6.block z (hz.elim (fun hz => (hrs0.sb z hz).2) fun hz => by rw [hz]; exact hrs0.vr.lt)).rd
  obtain ⟨bb1, oo1, u1, e1, -, hu1, hc1'⟩ := hvr.at1 rfl (i := 0) (by simp)
  injection e1 with e1; injection e1 with e1a e1b; subst e1a; subst e1b
  obtain ⟨a, c, hu1', f1, f2, f3⟩ := hu1
  injection hu1' with hu1' hu1''; subst hu1'
  have hb16 : Below w1.heap.size w1 w6 := Hb4.out.trans ((hrs0.bel.trans (hb6.mono hrs0.bel.size)).mono Hb4.out.size)
  have g5 : (convert 38 9 (.slice (some a) 1 c)).run Try.prog w6 = .ok (.string (bstr [4])) w6 := run_str (P := Try.prog) (w := w6) Try.underlying38 Try.underlying5 Try.underlying9 f3.srcB c
  have g6 : (bstr [4]).toList = [4] := by rw [ByteArray.toList_eq]
  have hq3 := hide (show w1.heap.size ≤ p3 ∧ p3 < w6.heap.size by rw [hp3, hw6]; have := Hb4.out.size; have := hrs0.bel.size; simp; omega)
  rw [← hp3] at hh6
  have hc16 := Hc.out
  have c0 := keep8 hc16.1 hb16
  have c1 := keep8 hc16.2.1 hb16
  have c2 := keep8 hc16.2.2.1 hb16
  have c3 := keep8 hc16.2.2.2 hb16
  have k0 : w6.cell? ⟨p3, 0, none⟩ = some (.slice Ak0 1 ck0) := by rw [cell_of_row _ _ 0 _ _ _ hh6]; rfl
  have k1 : w6.cell? ⟨p3, 1, none⟩ = some (.slice (some ⟨gv0, 0, none⟩) 1 1) := by rw [cell_of_row _ _ 1 _ _ _ hh6]; rfl
  have Hb06 := hide (Hb1.out.trans (hb16.mono Hb1.out.size))
  have Hw6 := hide hw6
  have Hp3 := hide hp3
  have Hh6 := hide hh6
  clear hvr f3 hrs0 hw6 hh6 hb6 hrow0 hkn0 hfin0 hcf0 hu1'' hso hc1 hb16 hp3 hc16 hc2
  go_upto_region 2 with fail
  rw [← Hw6.out, ← Hp3.out]
  clear Hw6 Hp3 Hw4 Hb4
  generalize bstr [4] = s2 at g5 g6
  have hs0 := hide (show sumO (of.take 0) = 0 from rfl)
  have Hc6 := hide (And.intro c0 (And.intro c1 (And.intro c2 c3)))
  go_wp2_with fail
  go_loop [4, 41] (fun n i => ∃ (k s : Nat), k ≤ lo ∧ i = .int .i64 (k : Int) ∧ n = .int .i64 (s : Int) ∧ s = sumO (of.take k) ∧ s ≤ 300) (fun _ i => lo - (intOf i).toNat)
  case atStart => exact ⟨0, 0, Nat.zero_le _, rfl, rfl, hs0.out.symm, by omega⟩
  case round =>
    obtain ⟨k, s, hk, rfl, rfl, hs, hs3⟩ := hrel
    have Hs := hide hs
    clear hs
    by_cases hlt : k < lo
    · have hko : k < of.length := by rw [← Hlo.out]; exact hlt
      obtain ⟨b, off, Ai, ci, rfl, -, q0, a1, a2, -⟩ := sl_at (Ho.out.below Hb06.out) hko
      have htk := sumO_take hko
      rw [← Hs.out] at htk
      have hlb := Hbd.out of[k] (List.getElem_mem hko)
      generalize of[k].length = li at q0 a1 htk hlb
      obtain ⟨m2, hm2⟩ : ∃ m2, m2 = s + (li + 1) := ⟨_, rfl⟩
      rw [← hm2] at htk
      have Htk := hide htk
      have i1 : IntKind.i64.wrap ((li : Int) + 1) = (li : Int) + 1 := by rw [IntKind.wrap_i64]; omega
      have i2 : IntKind.i64.wrap ((s : Int) + ((li : Int) + 1)) = (m2 : Int) := by rw [IntKind.wrap_i64, hm2]; omega
      have hk1 : co ≤ 9223372036854775807 := by unfold maxLen at hcom; exact hcom
      clear htk hm2 hlb
      by_cases h3 : 300 < m2
      · have i3 : decide ((300 : Int) < (m2 : Int)) = true := by simp; omega
        go_wp2_with fail
        exact hR.out _ _ ⟨rfl, Hb06.out⟩
      · have i3 : decide ((300 : Int) < (m2 : Int)) = false := by simp; omega
        go_wp2_with fail
        go_round
        case rel => exact ⟨k + 1, m2, by omega, by go_num, rfl, Htk.out.symm, by omega⟩
        case measure => simp [intOf]; omega
    · obtain rfl : lo = k := by omega
      have hfull : of.take lo = of := List.take_of_length_le (by rw [← Hlo.out]; exact Nat.le_refl _)
      rw [hfull] at Hs
      have hsum : sumO of ≤ 300 := by rw [← Hs.out]; exact hs3
      have hlen := sumO_len of
      have Hlen := hide (show of.length ≤ 300 ∧ ∀ o ∈ of, o.length ≤ 300 from ⟨by omega, fun o ho => by have := hlen.2 o ho; omega⟩)
      clear hfull hsum hlen k0 k1 g5 g6 hc1'
      have hl300 : lo ≤ 300 := by have := Hlen.out.1; have := Hlo.out; omega
      obtain ⟨l1, l2⟩ := hal
      obtain ⟨z1, z2⟩ := hsz
      obtain ⟨wx, hwx⟩ : ∃ wx : World, wx = w6 := ⟨_, rfl⟩
      go_wp2_with fail
      go_quiet (fail)
      obtain ⟨w8, hw8⟩ : ∃ w8, w8 = w6.drewN nq := ⟨_, rfl⟩
      have hb8 : Below w6.heap.size w6 w8 := by rw [hw8]; exact ⟨rfl, rfl, rfl, Nat.le_refl _, fun _ _ => rfl⟩
      have hb08 := Hb06.out.trans (hb8.mono Hb06.out.size)
      have heqs := eqs_calls al sz n hn hn6 ⟨z1, z2⟩ Bo Bv of vals co cv w8 (by rw [← Hlo.out]; exact hco) hcom (by rw [← Hlv.out]; exact hcv) hcvm ((Ho.out.below hb08).mono fun z hz => Nat.lt_of_lt_of_le hz hb08.size) ((Hv.out.below hb08).mono fun z hz => Nat.lt_of_lt_of_le hz hb08.size) (by have := Hlen.out.1; omega)
      rw [← Hlo.out, ← Hlv.out] at heqs
      have d0 := keep8 Hc6.out.1 hb8
      have d1 := keep8 Hc6.out.2.1 hb8
      have d2 := keep8 Hc6.out.2.2.1 hb8
      have d3 := keep8 Hc6.out.2.2.2 hb8
      have hp8 : w8.heap[p3]? = some (.cells #[.slice Ak0 1 ck0, .slice (some ⟨gv0, 0, none⟩) 1 1, .bool false] 33 (0, 0)) := (hb8.block _ hq3.out.2).trans Hh6.out
      have Heqs := hide heqs
      have Hb08 := hide hb08
      have Hp8 := hide hp8
      rw [← hw8]
      clear hb8 hb08 heqs c0 c1 c2 c3 hn hm hw8 hp8 hwx
      go_wp2_with fail
      refine Heqs.out.mono ?_
      rintro _ w9 ⟨vl, vv, Se, rfl, hES⟩
      obtain ⟨Al, cl, rfl, hcl1, hcl2⟩ := hES.rl.shape
      obtain ⟨es, hes⟩ : ∃ es, es = eqN n of vals lo := ⟨_, rfl⟩
      have hesl : es.length = lo := by rw [hes]; simp [eqN]
      have hesm : ∀ e ∈ es, e.1.length ≤ 1000 := fun e he => by
        rw [hes] at he
        exact eqN_small (fun o ho => by have := Hlen.out.2 o ho; omega) he
      rw [← hes] at hES hcl1 ⊢
      rw [hesl] at hES hcl1 ⊢
      have hso2 := solve_calls m n Al es cl (fun z => Se z ∨ (Value.slice Al lo cl).ownBlock = some z) w9 hcl2 (by rw [hesl]; exact hcl1) hES.rl.rd (fun z hz => hz.elim (fun hz => (hES.sb z hz).1) fun hz => hES.rl.lt hz) (by omega) (by omega) (by rw [hesl]; omega) hesm
      rw [hesl] at hso2
      have hpl8 := (Array.getElem?_eq_some_iff.1 Hp8.out).1
      have hp9 := (hES.bel.block _ hpl8).trans Hp8.out
      have Hso2 := hide hso2
      have HES := hide hES
      have Hes := hide hes
      have Hp9 := hide hp9
      clear hes hesl hesm hES hso2 hp9 hpl8
      go_wp2_with fail
      refine Hso2.out.mono ?_
      rintro _ wA ⟨vs, vk, gv, S, hfin, rfl, hrs⟩
      have hpA := (hrs.bel.block _ (Array.getElem?_eq_some_iff.1 Hp9.out).1).trans Hp9.out
      obtain ⟨Ak, ck, rfl, hck1, hck2⟩ := hrs.row.shape
      have hrow := hrs.row
      rw [List.length_map] at hrow hck1 ⊢
      obtain ⟨kn, hkn⟩ : ∃ kn, kn = knT vs m := ⟨_, rfl⟩
      rw [← hkn] at hrow hck1 ⊢
      obtain ⟨cf, hcf⟩ : ∃ cf, cf = confB m n es vs := ⟨_, rfl⟩
      rw [← hcf]
      obtain ⟨wB, hwB⟩ : ∃ wB, wB = ((wA.setCell ⟨p3, 0, none⟩ (.slice Ak kn.length ck)).setCell ⟨p3, 1, none⟩ (.slice (some ⟨gv, 0, none⟩) m m)).setCell ⟨p3, 2, none⟩ (.bool cf) := ⟨_, rfl⟩
      obtain ⟨y1, y2, y3⟩ := set3 _ _ _ hpA hwB
      have r0 : wA.cell? ⟨p3, 0, none⟩ = some (.slice Ak0 1 ck0) := by rw [cell_of_row _ _ 0 _ _ _ hpA]; rfl
      have r1 : wA.cell? ⟨p3, 1, none⟩ = some (.slice (some ⟨gv0, 0, none⟩) 1 1) := by rw [cell_of_row _ _ 1 _ _ _ hpA]; rfl
      have r2 : wA.cell? ⟨p3, 2, none⟩ = some (.bool false) := by rw [cell_of_row _ _ 2 _ _ _ hpA]; rfl
      have r3 : ∀ i, wA.frozen? ⟨p3, i, none⟩ = false := fun i => by simp [World.frozen?, hpA]
      have hb8A : Below w8.heap.size w8 wA := HES.out.bel.trans (hrs.bel.mono HES.out.bel.size)
      have hb0A := Hb08.out.trans (hb8A.mono Hb08.out.size)
      have hpw : w.heap.size ≤ p3 := by have := hq3.out.1; have := Hb1.out.size; omega
      have hb0B : Below w.heap.size w wB := by
        rw [hwB]
        exact ((hb0A.setCell (by show w.heap.size ≤ p3; exact hpw) _).setCell (by show w.heap.size ≤ p3; exact hpw) _).setCell (by show w.heap.size ≤ p3; exact hpw) _
      have hne : w.heap.size ≠ p3 := by have := hq3.out.1; have := hq.out; omega
      have hkB : wB.heap[w.heap.size]? = wA.heap[w.heap.size]? := y2 _ hne
      have n2 : wB.cell? ⟨w.heap.size, 2, none⟩ = some (.slice Bo lo co) := (World.cell?_of_block (w := wA) hkB).trans (keep8 d2 hb8A)
      have m0 : wB.cell? ⟨p3, 0, none⟩ = some (.slice Ak kn.length ck) := by rw [cell_of_row _ _ 0 _ _ _ y1]; rfl
      have hkrB : RdL kInt (· < wB.heap.size) wB Ak kn := by
        have hkr := row_ints (T := fun z => (Value.slice Ak kn.length ck).ownBlock = some z) (hrow.keep (w' := wB) fun z hz => y2 z fun e => by
          have hz9 : z = p3 := e
          have := (hrs.kb z (by first | exact hz | (rw [← hkn]; exact hz) | (rw [List.length_map]; exact hz) | (rw [← hkn, List.length_map]; exact hz))).1
          have := (Array.getElem?_eq_some_iff.1 Hp9.out).1
          omega) (by
            rw [hkn]
            intro x hx
            obtain ⟨k, rfl, hk, -⟩ := knT_mem hx
            exact WalkArith.wf_i64 (by omega)) (fun z hz => hz)
        exact hkr.mono fun z hz => by rw [y3]; exact hrow.lt hz
      have hofB : RdL (Kd.sl kInt) (· < w.heap.size) wB Bo of := Ho.out.below hb0B
      have Hof := hide hofB
      have Hkr := hide hkrB
      have Hkn := hide hkn
      have Hfin := hide hfin
      have HwB := hide hwB
      have Hb0B := hide hb0B
      have Hn2 := hide n2
      have Hm0 := hide m0
      have hn40 := hide (show kn.length ≤ 40 by rw [hkn]; have := knT_len vs m; omega)
      clear hofB hkrB hkn hfin hb0B n2 m0 hpA hrs hrow y1 y2 y3 hb8A hb0A hpw hne hkB hcf Hso2 Heqs Hp8 Hp9 d0 d1 d2 d3
      obtain ⟨wC, hwC⟩ : ∃ wC, wC = wB.alloc (.cells #[.slice none 0 0, .int .i64 0, .map none] 50) := ⟨_, rfl⟩
      obtain ⟨wD, hwD⟩ : ∃ wD, wD = wC.alloc (.map #[] 0) := ⟨_, rfl⟩
      obtain ⟨g, hg⟩ : ∃ g, g = wB.heap.size := ⟨_, rfl⟩
      obtain ⟨mb, hmb⟩ : ∃ mb, mb = wB.heap.size + 1 := ⟨_, rfl⟩
      have hzC : wC.heap.size = wB.heap.size + 1 := by rw [hwC]; simp
      have hPW : PW wB wD mb g (fun k => k = g) [] 0 0 (fun _ => 0) := by
        refine ⟨?_, by rw [hwD, hmb, ← hzC]; exact MapL.made wC, by omega, by omega⟩
        have := (ql_new wB wB (Below.refl _ _)).below (w' := wD) (by rw [hwD, ← hwC]; exact balloc wC _)
        rw [← hg] at this
        exact this
      have HPW := hide hPW
      have HwC := hide hwC
      have HwD := hide hwD
      have Hg := hide hg
      have Hmb := hide hmb
      have hmm := @run_makeMap Try.prog
      have hPI0 := hide (show PI m (of.take 0) vs [] (fun _ => []) (fun _ => 0) from PI.none)
      have hpeel : Peel m of vs := by
        have hesl : es.length = of.length := by rw [Hes.out, ← Hlo.out]; simp [eqN]
        have hea : ∀ k (h1 : k < es.length) (h2 : k < of.length), es[k].1 = of[k] ∧ es[k].2.length = n := fun k h1 h2 => by
          simp only [Hes.out]
          simp [eqN, List.getD_eq_getElem?_getD, List.getElem?_eq_getElem h2, padN_len]
        refine ⟨fun k h hf hl => ?_, ⟨n, es, Hfin.out.der, fun e he => ?_⟩, Hfin.out.der.wv.len⟩
        · have h1 : k < es.length := by omega
          have h2 := Hfin.out.shut es[k] (List.getElem_mem h1)
          obtain ⟨e1, e2⟩ := hea k h1 h
          rw [firesB, okE, e1, hf, hl, e2] at h2
          simp at h2
        · obtain ⟨k, hk, rfl⟩ := List.getElem_of_mem he
          exact ⟨k, by omega, (hea k hk (by omega)).1⟩
      have Hpeel := hide hpeel
      clear hPW hwC hwD hg hmb hzC hpeel hwB
      go_upto_region 15 with fail
      rw [← HwB.out]
      clear HwB
      go_upto_region 17 with fail
      rw [← HwC.out, ← HwD.out, ← Hmb.out, ← Hg.out]
      clear HwC HwD hmm r0 r1 r2 r3
      have q2 := keep8 Hn2.out HPW.out.bel
      go_wp2_with fail
      go_loopw [74] (fun i wr => ∃ (j : Nat) (E : List Int) (S : Nat → Prop) (N : Nat) (fv : Nat → Int), i = .int .i64 (j : Int) ∧ j ≤ lo ∧ PI m (of.take j) vs E (fun _ => []) fv ∧ PW wB wr mb g S E 0 N fv ∧ N ≤ 2 * j) (fun i _ => lo - (intOf i).toNat)
      case atStart => exact ⟨0, [], _, 0, _, rfl, Nat.zero_le _, hPI0.out, HPW.out, Nat.le_refl _⟩
      case round =>
        obtain ⟨j, E, S, N, fv, rfl, hj, hPI, hPW, hN⟩ := hrel
        by_cases hlt : j < lo
        · have hjo : j < of.length := by rw [← Hlo.out]; exact hlt
          have htl : (of.take j).length = j := by rw [List.length_take]; omega
          have htk : of.take (j + 1) = of.take j ++ [of[j]] := List.take_succ_eq_append_getElem hjo
          have hadd := hPI.add (o := of[j]) (Hpeel.out.shut j hjo)
          have hsm := hPI.small Hpeel.out.len
          rw [htl, ← htk] at hadd
          obtain ⟨b, off, A, c, rfl, hsb, q0, a1, a2, hrA⟩ := sl_at (Hof.out.keep (w' := wr) fun z hz => hPW.bel.block z (Nat.lt_of_lt_of_le hz Hb0B.out.size)) hjo
          have hol := Hlen.out.2 of[j] (List.getElem_mem hjo)
          generalize of[j] = o at hadd q0 a1 hrA hol
          obtain ⟨ln, hln⟩ : ∃ ln, ln = o.length := ⟨_, rfl⟩
          rw [← hln] at q0 a1 hol hadd
          obtain ⟨D, hown, hTd, hat⟩ := hPW.mp
          have hwd : Hid ((Lit.int .i64 (j : Int)).wf = true) := hide (WalkArith.wf_i64 (by omega))
          have hwl : Hid ((Lit.int .i64 (ln : Int)).wf = true) := hide (WalkArith.wf_i64 (by omega))
          have hN2 : N ≤ 600 := by omega
          have Hadd := hide hadd
          have HPI := hide hPI
          have HPW2 := hide hPW
          have HTd := hide hTd
          have Hat := hide hat
          have HrA := hide hrA
          have Hln := hide hln
          have Hsm := hide hsm
          have i1 : (0 : Int) ≤ (j : Int) := by omega
          have i2 : (j : Int) < (lo : Int) := by omega
          clear hadd hPI hPW hTd hat hrA hln htl htk hsb hsm
          go_wp2_with (at_mapUpdate; refine wpList_mapUpdate_own _ rfl _ _ _ 46 rfl 3 3 law3 Try.underlying46 _ mb N _ rfl hown (by unfold maxLen; omega) _ _ _ rfl rfl (keyOf_int_mk Try.underlying3 hwd.out) _ [] (plainElem_int Try.underlying3 hwl.out) ?_; intro w2 hown2 hgrow2)
          have hm2 := MapL.put HTd.out Hat.out hown2
          have hP2 := HPW2.out.set hm2 hgrow2
          have hA2 := HrA.out.keep (w' := w2) fun z hz => by
            have h1 : z < wB.heap.size := Nat.lt_of_lt_of_le hz Hb0B.out.size
            exact (hP2.bel.block z h1).trans ((HPW2.out.bel.block z h1).symm)
          have hwB2 : wB.heap.size ≤ w2.heap.size := hP2.bel.size
          have hfi := rfits_calls A o c (m : Int) (· < w.heap.size) w2 a2 (by rw [← Hln.out]; exact a1) hA2 (fun z hz => by have := Hb0B.out.size; omega)
          rw [← Hln.out] at hfi
          obtain ⟨ok, hok⟩ : ∃ ok, ok = fitsI (m : Int) o := ⟨_, rfl⟩
          rw [← hok] at hfi Hadd
          have Hok := hide hok
          have HP2 := hide hP2
          have HA2 := hide hA2
          have Hfi := hide hfi
          clear hown hown2 hgrow2 hm2 hP2 hA2 hfi hok
          go_wp2_with fail
          refine Hfi.out.mono ?_
          rintro _ w3 ⟨rfl, hb3⟩
          have hP3 := HP2.out.below hb3
          have HA3 := hide (HA2.out.keep (w' := w3) fun z hz => hb3.block z (by have := Hb0B.out.size; omega))
          have HP3 := hide hP3
          obtain ⟨D3, hown3, hTd3, hat3⟩ := hP3.mp
          have HTd3 := hide hTd3
          have Hat3 := hide hat3
          clear hP3 hb3 hTd3 hat3
          cases ok
          · have hwm : Hid ((Lit.int .i64 (-1 : Int)).wf = true) := hide (WalkArith.wf_i64 (by omega))
            go_wp2_with (first
              | (at_mapUpdate; refine wpList_mapUpdate_own _ rfl _ _ _ 46 rfl 3 3 law3 Try.underlying46 _ mb (N + 1) _ rfl hown3 (by unfold maxLen; omega) _ _ _ rfl rfl (keyOf_int_mk Try.underlying3 hwd.out) _ [] (plainElem_int Try.underlying3 hwm.out) ?_; intro w4 hown4 hgrow4
                 have hP4 := HP3.out.set (MapL.put HTd3.out Hat3.out hown4) hgrow4
                 obtain ⟨D4, hown5, hTd4, hat4⟩ := hP4.mp
                 have H4j := hide (show D4.atKey (.int .i64 (j : Int)) (.lit (.int .i64 0)) = .lit (.int .i64 (-1)) by rw [hat4]; simp)
                 have HP4 := hide hP4
                 clear hown3 hown4 hgrow4 hTd4 hat4 hP4)
              | (at_lookup; refine wpList_lookup_own_int _ rfl _ _ 46 rfl 3 3 .i64 law3 Try.underlying46 Try.underlying3 (zero3 _) mb (N + 1 + 1) _ rfl hown5 _ _ rfl (keyOf_int_mk Try.underlying3 hwd.out) ?_; intro c' hat' hwc; obtain rfl : c' = -1 := (by rw [H4j.out] at hat'; simpa using hat'.symm); clear hat' hwc))
            refine ⟨⟨j + 1, E, S, N + 1 + 1, _, by rw [Int.natCast_succ], by omega, ?_, HP4.out, by omega⟩, by simp only [intOf]; omega⟩
            have h := Hadd.out
            rw [if_neg (by simp)] at h
            exact h.lext fun k => by by_cases e : k = j <;> simp [e]
          · have H3j := hide (show D3.atKey (.int .i64 (j : Int)) (.lit (.int .i64 0)) = .lit (.int .i64 (ln : Int)) by rw [Hat3.out]; simp)
            by_cases h1 : ln = 1
            · have h10 : 0 < o.length := by have := Hln.out; omega
              obtain ⟨b5, off5, u5, rfl, hs5, hu5, hc5⟩ := HA3.out.at1 rfl h10
              obtain ⟨rfl, hwx⟩ := Kd.int_cell hu5
              have ho1 : o = [o[0]] := by
                match o, h10, Hln.out with
                | [x], _, _ => rfl
                | x :: y :: r, _, h => simp at h; omega
              obtain ⟨x, hx⟩ : ∃ x, x = o[0] := ⟨_, rfl⟩
              rw [← hx] at hc5 ho1 hwx
              rw [Nat.add_zero] at hc5
              obtain ⟨w5, hw5⟩ : ∃ w5, w5 = w3.alloc (.cells #[.int .i64 x] 3) := ⟨_, rfl⟩
              have hb5 : Below w3.heap.size w3 w5 := by rw [hw5]; exact balloc w3 _
              have hP5 := HP3.out.below hb5
              have hlit : RdL kInt (· = w3.heap.size) w5 (some ⟨w3.heap.size, 0, none⟩) [x] := by
                rw [hw5]
                exact ints_lit (l := [x]) (heap_alloc_new w3 _) (fun y hy => by rw [List.mem_singleton.1 hy]; exact hwx) rfl
              have hpu := ql_push (some ⟨w3.heap.size, 0, none⟩) 1 [x] (· = w3.heap.size) hP5.q (by have := Hsm.out; simp; omega) (by simp [maxLen]) (by simp) hlit (fun z hz => ⟨by rw [hz, hw5]; simp, fun hs => by have := HP3.out.q.lt z hs; omega⟩)
              have Hpu := hide hpu
              have HP5 := hide hP5
              have Hw5 := hide hw5
              have Ho1 := hide ho1
              have i3 : (0 : Int) ≤ 0 := Int.le_refl _
              have H1 := hide h1
              have Hb5 := hide hb5
              subst h1
              clear hpu hP5 hw5 ho1 hlit hwx hx hu5 hs5 h10 hb5
              go_wp2_with (at_lookup; refine wpList_lookup_own_int _ rfl _ _ 46 rfl 3 3 .i64 law3 Try.underlying46 Try.underlying3 (zero3 _) mb (N + 1) _ rfl hown3 _ _ rfl (keyOf_int_mk Try.underlying3 hwd.out) ?_; intro c' hat' hwc; obtain rfl : c' = (((1 : Nat) : Int) : Int) := (by rw [H3j.out] at hat'; simpa using hat'.symm); clear hat' hwc)
              rw [← Hw5.out]
              refine Hpu.out.mono ?_
              rintro _ w6' ⟨rfl, S6, hq6, hs6⟩
              have HP6 := hide (HP5.out.more hq6 hs6)
              clear hq6 hs6
              go_wp2_with fail
              refine ⟨⟨j + 1, _, S6, N + 1, _, by rw [Int.natCast_succ], by omega, ?_, HP6.out, by omega⟩, by simp only [intOf]; omega⟩
              have h := Hadd.out
              rw [if_pos (by simp)] at h
              rw [pushLE, ← Ho1.out]
              exact h.lext fun k => by by_cases e : k = j <;> simp [e]
            · have e1 : ((ln : Int) == 1) = false := by simp; omega
              have H1 := hide h1
              clear h1
              go_wp2_with (at_lookup; refine wpList_lookup_own_int _ rfl _ _ 46 rfl 3 3 .i64 law3 Try.underlying46 Try.underlying3 (zero3 _) mb (N + 1) _ rfl hown3 _ _ rfl (keyOf_int_mk Try.underlying3 hwd.out) ?_; intro c' hat' hwc; obtain rfl : c' = (ln : Int) := (by rw [H3j.out] at hat'; simpa using hat'.symm); clear hat' hwc)
              refine ⟨⟨j + 1, E, S, N + 1, _, by rw [Int.natCast_succ], by omega, ?_, HP3.out, by omega⟩, by simp only [intOf]; omega⟩
              have h := Hadd.out
              rw [if_neg (fun h => H1.out h.2)] at h
              exact h.lext fun k => by by_cases e : k = j <;> simp [e]
        · obtain rfl : lo = j := by omega
          have hfull : of.take lo = of := List.take_of_length_le (by rw [← Hlo.out]; exact Nat.le_refl _)
          rw [hfull] at hPI
          have hsm := hPI.small Hpeel.out.len
          have hpop := pw_pop hPW (by omega)
          have hPI2 : PI m of vs E (fun _ => E.take 0) fv := hPI.peq fun k => rfl
          have Hpop := hide hpop
          have HPI := hide hPI2
          have hN0 : N ≤ 600 := by omega
          clear hpop hPI hPI2 hPW hsm hfull
          go_wp2_with fail
          refine Hpop.out.mono ?_
          rintro _ w7 ⟨b0, ok0, S7, rfl, hor7⟩
          have Hor7 := hide hor7
          clear hor7
          go_wp2_with fail
          go_loopg [15, 16] m (fun gk bv okv wr => ∃ (b : Int) (ok : Bool) (E : List Int) (S : Nat → Prop) (N : Nat) (fv : Nat → Int) (p : Nat), bv = .int .i64 b ∧ okv = .bool ok ∧ PI m of vs E (fun _ => E.take p) fv ∧ N ≤ 600 + 300 * p ∧ ((ok = true ∧ (∃ hp : p < E.length, b = E[p]) ∧ PW wB wr mb g S E (p + 1) N fv) ∨ (ok = false ∧ p = E.length ∧ PW wB wr mb g S E p N fv)) ∧ gk = m - p)
          case atStart => exact ⟨b0, ok0, E, S7, N, fv, 0, rfl, rfl, HPI.out, by omega, Hor7.out, by omega⟩
          case round =>
            obtain ⟨b, ok, E, S, N, fv, p, rfl, rfl, hPI, hN, hor, rfl⟩ := hrel
            have hsm := hPI.small Hpeel.out.len
            rcases hor with ⟨rfl, ⟨hpE, hbe⟩, hPW⟩ | ⟨rfl, rfl, hPW⟩
            · obtain ⟨Q, hQ⟩ : ∃ Q, Q = E.take p := ⟨_, rfl⟩
              have htk : E.take (p + 1) = Q ++ [b] := by rw [List.take_succ_eq_append_getElem hpE, hQ, hbe]
              have hnd : (Q ++ [b]).Nodup := by rw [← htk]; exact hPI.nd.sublist (List.take_sublist _ _)
              have hbQ : b ∉ Q := fun h => by
                have := (List.nodup_append.1 hnd).2.2 b h b (by simp)
                exact this rfl
              have hkb := hPI.kn b (by rw [hbe]; exact List.getElem_mem hpE)
              obtain ⟨bn, rfl, hbn⟩ := kn_range Hpeel.out.len hkb
              have hPI2 : PI m of vs E (fun k => if k < 0 then Q ++ [(bn : Int)] else Q) fv := hPI.peq fun k => by rw [hQ]; simp
              have hp40 : p < 40 := by omega
              have HPI := hide hPI2
              have HPW := hide hPW
              have Htk := hide htk
              have HbQ := hide hbQ
              have hwb := hide (show (Lit.int .i64 (bn : Int)).wf = true from WalkArith.wf_i64 (by omega))
              have hpl := hide hpE
              have q3 := keep8 Hn2.out hPW.bel
              clear hPI hPI2 hPW htk hbQ hnd hkb hbe hQ hpE
              go_wp2_with fail
              go_loopw [111] (fun i wr => ∃ (j : Nat) (E' : List Int) (S : Nat → Prop) (N' : Nat) (fv : Nat → Int), i = .int .i64 (j : Int) ∧ j ≤ lo ∧ PI m of vs E' (fun k => if k < j then Q ++ [(bn : Int)] else Q) fv ∧ E'.take (p + 1) = Q ++ [(bn : Int)] ∧ p < E'.length ∧ PW wB wr mb g S E' (p + 1) N' fv ∧ N' ≤ 600 + 300 * p + j) (fun i _ => lo - (intOf i).toNat)
              case atStart => exact ⟨0, E, S, N, fv, rfl, Nat.zero_le _, HPI.out, Htk.out, hpl.out, HPW.out, by omega⟩
              case round =>
                obtain ⟨j, E', S', N', fv', rfl, hj, hPI, htk, hpE, hPW, hN'⟩ := hrel
                by_cases hlt : j < lo
                · have hjo : j < of.length := by rw [← Hlo.out]; exact hlt
                  have hleft := hPI.left j hjo
                  have hbE : (bn : Int) ∈ E' := List.mem_of_mem_take (i := p + 1) (by rw [htk]; simp)
                  have hsk := hPI.skipQ hjo hbE
                  have htu := hPI.turnQ Hpeel.out hjo hbE HbQ.out
                  have hsm' := hPI.small Hpeel.out.len
                  obtain ⟨b5, off5, A, c, rfl, hsb, q0, a1, a2, hrA⟩ := sl_at (Hof.out.keep (w' := wr) fun z hz => hPW.bel.block z (Nat.lt_of_lt_of_le hz Hb0B.out.size)) hjo
                  have hol := Hlen.out.2 of[j] (List.getElem_mem hjo)
                  generalize of[j] = o at hleft hsk htu q0 a1 hrA hol
                  obtain ⟨ln, hln⟩ : ∃ ln, ln = o.length := ⟨_, rfl⟩
                  rw [← hln] at q0 a1 hol
                  obtain ⟨D, hown, hTd, hat⟩ := hPW.mp
                  have hwd : Hid ((Lit.int .i64 (j : Int)).wf = true) := hide (WalkArith.wf_i64 (by omega))
                  have Hsk := hide hsk
                  have Htu := hide htu
                  have HPI := hide hPI
                  have HPW2 := hide hPW
                  have HTd := hide hTd
                  have Hat := hide hat
                  have HrA := hide hrA
                  have Hln := hide hln
                  have HbE := hide hbE
                  have Htk := hide htk
                  have HpE := hide hpE
                  have Hsm := hide hsm'
                  have i1 : (0 : Int) ≤ (j : Int) := by omega
                  have i2 : (j : Int) < (lo : Int) := by omega
                  have hN9 : N' ≤ 600 + 300 * 40 + 300 := by omega
                  clear hPI hPW hTd hat hrA hln hsb hsm' hsk htu hbE htk hpE
                  cases hf : fitsI (m : Int) o
                  · have Hf := hide hf
                    rw [hf] at hleft
                    have H1 := hide (show D.atKey (.int .i64 (j : Int)) (.lit (.int .i64 0)) = .lit (.int .i64 (-1)) by rw [Hat.out, hleft]; simp)
                    clear hf hleft
                    go_wp2_with (at_lookup; refine wpList_lookup_own_int _ rfl _ _ 46 rfl 3 3 .i64 law3 Try.underlying46 Try.underlying3 (zero3 _) mb _ _ rfl hown _ _ rfl (keyOf_int_mk Try.underlying3 hwd.out) ?_; intro c' hat' hwc; obtain rfl : c' = -1 := (by rw [H1.out] at hat'; simpa using hat'.symm); clear hat' hwc)
                    exact ⟨⟨j + 1, E', S', N', fv', by rw [Int.natCast_succ], by omega, Hsk.out (.inl Hf.out), Htk.out, HpE.out, HPW2.out, by omega⟩, by simp only [intOf]; omega⟩
                  · have Hf := hide hf
                    rw [hf, if_pos rfl] at hleft
                    obtain ⟨y, hy⟩ : ∃ y, y = (restP (if j < j then Q ++ [(bn : Int)] else Q) o).length := ⟨_, rfl⟩
                    have hyl : y ≤ 300 := by
                      rw [hy]
                      have : (restP (if j < j then Q ++ [(bn : Int)] else Q) o).length ≤ o.length := List.length_filter_le _ _
                      have := Hln.out
                      omega
                    rw [← hy] at hleft
                    have H1 := hide (show D.atKey (.int .i64 (j : Int)) (.lit (.int .i64 0)) = .lit (.int .i64 (y : Int)) by rw [Hat.out, hleft])
                    have t1 : decide ((y : Int) < 0) = false := by simp
                    obtain ⟨w5, hw5⟩ : ∃ w5, w5 = wr.alloc (.cells #[.int .i64 (bn : Int)] 3) := ⟨_, rfl⟩
                    have hb5 : Below wr.heap.size wr w5 := by rw [hw5]; exact balloc wr _
                    have hg5 : w5.cell? ⟨wr.heap.size, 0, none⟩ = some (.int .i64 (bn : Int)) := by rw [hw5, cell_of_row _ _ 0 _ _ _ (heap_alloc_new wr _)]; rfl
                    have hP5 := HPW2.out.below hb5
                    have hA5 := HrA.out.keep (w' := w5) fun z hz => hb5.block z (by have := HPW2.out.bel.size; have := Hb0B.out.size; omega)
                    have hcl := closed1_calls A o c wr.heap.size (bn : Int) _ w5 a2 (by rw [← Hln.out]; exact a1) (by rw [← Hln.out]; omega) hA5 (fits_sorted Hf.out) hg5
                    rw [← Hln.out] at hcl
                    obtain ⟨bi, hbi⟩ : ∃ bi, bi = decide ((bn : Int) ∈ o) := ⟨_, rfl⟩
                    rw [← hbi] at hcl
                    have Hbi := hide hbi
                    have Hcl := hide hcl
                    have Hw5 := hide hw5
                    have HP5 := hide hP5
                    have HA5 := hide hA5
                    have Hleft := hide hleft
                    clear hf hleft hy hbi hcl hw5 hP5 hA5 hb5 hg5
                    go_wp2_with (at_lookup; refine wpList_lookup_own_int _ rfl _ _ 46 rfl 3 3 .i64 law3 Try.underlying46 Try.underlying3 (zero3 _) mb _ _ rfl hown _ _ rfl (keyOf_int_mk Try.underlying3 hwd.out) ?_; intro c' hat' hwc; obtain rfl : c' = (y : Int) := (by rw [H1.out] at hat'; simpa using hat'.symm); clear hat' hwc)
                    rw [← Hw5.out]
                    refine Hcl.out.mono ?_
                    rintro _ w6' ⟨rfl, rfl⟩
                    cases bi
                    · go_wp2_with fail
                      exact ⟨⟨j + 1, E', S', N', fv', by rw [Int.natCast_succ], by omega, Hsk.out (.inr (by have := Hbi.out; simpa using this.symm)), Htk.out, HpE.out, HP5.out, by omega⟩, by simp only [intOf]; omega⟩
                    · obtain ⟨y', hy', hPI'⟩ := Htu.out Hf.out (by have := Hbi.out; simpa using this.symm)
                      have hyy : y = y' + 1 := by have := Hleft.out; omega
                      subst hyy
                      obtain ⟨D5, hown5, hTd5, hat5⟩ := HP5.out.mp
                      have H5 := hide (show D5.atKey (.int .i64 (j : Int)) (.lit (.int .i64 0)) = .lit (.int .i64 ((y' + 1 : Nat) : Int)) by rw [hat5, Hleft.out])
                      have hwy : Hid ((Lit.int .i64 (y' : Int)).wf = true) := hide (WalkArith.wf_i64 (by omega))
                      have HTd5 := hide hTd5
                      have Hat5 := hide hat5
                      have HPI' := hide hPI'
                      have hstep := hide (fun (w6 : World) (h : w6.ownsMap Try.prog 3 (plainElem Try.prog 3) mb (N' + 1) (D5.put (.int .i64 (j : Int)) (.lit (.int .i64 (y' : Int))))) (hg : w5.grownBy w6 (some mb)) => HP5.out.set (MapL.put HTd5.out Hat5.out h) hg)
                      have hyl2 : y' ≤ 300 := by omega
                      clear hTd5 hat5 hPI' hy' hown
                      by_cases h1 : y' = 1
                      · have t2 : ((y' : Int) == 1) = true := by simp [h1]
                        have H9 := hide h1
                        clear h1
                        go_wp2_with (first
                          | (at_mapUpdate; refine wpList_mapUpdate_own _ rfl _ _ _ 46 rfl 3 3 law3 Try.underlying46 _ mb _ _ rfl hown5 (by unfold maxLen; omega) _ _ _ rfl rfl (keyOf_int_mk Try.underlying3 hwd.out) _ [] (plainElem_int Try.underlying3 hwy.out) ?_; intro w7' hown7 hgrow7
                             have hP7 := hstep.out _ hown7 hgrow7
                             obtain ⟨D7, hown8, hTd7, hat7⟩ := hP7.mp
                             have H7 := hide (show D7.atKey (.int .i64 (j : Int)) (.lit (.int .i64 0)) = .lit (.int .i64 (y' : Int)) by rw [hat7]; simp)
                             have HP7 := hide hP7
                             clear hown5 hown7 hgrow7 hTd7 hat7 hP7)
                          | (at_lookup; refine wpList_lookup_own_int _ rfl _ _ 46 rfl 3 3 .i64 law3 Try.underlying46 Try.underlying3 (zero3 _) mb _ _ rfl hown8 _ _ rfl (keyOf_int_mk Try.underlying3 hwd.out) ?_; intro c' hat' hwc; obtain rfl : c' = (y' : Int) := (by rw [H7.out] at hat'; simpa using hat'.symm); clear hat' hwc)
                          | (at_lookup; refine wpList_lookup_own_int _ rfl _ _ 46 rfl 3 3 .i64 law3 Try.underlying46 Try.underlying3 (zero3 _) mb _ _ rfl hown5 _ _ rfl (keyOf_int_mk Try.underlying3 hwd.out) ?_; intro c' hat' hwc; obtain rfl : c' = ((y' + 1 : Nat) : Int) := (by rw [H5.out] at hat'; simpa using hat'.symm); clear hat' hwc))
                        have hA7 := HA5.out.keep (w' := w7') fun z hz => by
                          have h1 : z < wB.heap.size := Nat.lt_of_lt_of_le hz Hb0B.out.size
                          exact (HP7.out.bel.block z h1).trans ((HP5.out.bel.block z h1).symm)
                        have hpu := ql_push A c o (· < w.heap.size) HP7.out.q (by have := Hsm.out; have := Hln.out; omega) a2 (by rw [← Hln.out]; exact a1) hA7 (fun z hz => ⟨by have := HP7.out.bel.size; have := Hb0B.out.size; omega, fun hs => by have := HP7.out.q.ge z hs; have := Hb0B.out.size; omega⟩)
                        rw [← Hln.out] at hpu
                        refine hpu.mono ?_
                        rintro _ w8' ⟨rfl, S8, hq8, hs8⟩
                        have HP8 := hide (HP7.out.more hq8 hs8)
                        have htk2 := hide (pushE_take (xs := o) (E := E') (p := p + 1) HpE.out)
                        clear hpu hq8 hs8 hA7 hown8
                        go_wp2_with fail
                        refine ⟨⟨j + 1, pushL E' o, S8, N' + 1, _, by rw [Int.natCast_succ], by omega, ?_, ?_, ?_, HP8.out, by omega⟩, by simp only [intOf]; omega⟩
                        · have h := HPI'.out
                          rw [if_pos H9.out] at h
                          rw [pushLE]
                          exact h
                        · rw [pushLE, htk2.out.1]; exact Htk.out
                        · rw [pushLE]; exact Nat.lt_of_lt_of_le HpE.out htk2.out.2
                      · have t2 : ((y' : Int) == 1) = false := by simp; omega
                        have H9 := hide h1
                        clear h1
                        go_wp2_with (first
                          | (at_mapUpdate; refine wpList_mapUpdate_own _ rfl _ _ _ 46 rfl 3 3 law3 Try.underlying46 _ mb _ _ rfl hown5 (by unfold maxLen; omega) _ _ _ rfl rfl (keyOf_int_mk Try.underlying3 hwd.out) _ [] (plainElem_int Try.underlying3 hwy.out) ?_; intro w7' hown7 hgrow7
                             have hP7 := hstep.out _ hown7 hgrow7
                             obtain ⟨D7, hown8, hTd7, hat7⟩ := hP7.mp
                             have H7 := hide (show D7.atKey (.int .i64 (j : Int)) (.lit (.int .i64 0)) = .lit (.int .i64 (y' : Int)) by rw [hat7]; simp)
                             have HP7 := hide hP7
                             clear hown5 hown7 hgrow7 hTd7 hat7 hP7)
                          | (at_lookup; refine wpList_lookup_own_int _ rfl _ _ 46 rfl 3 3 .i64 law3 Try.underlying46 Try.underlying3 (zero3 _) mb _ _ rfl hown8 _ _ rfl (keyOf_int_mk Try.underlying3 hwd.out) ?_; intro c' hat' hwc; obtain rfl : c' = (y' : Int) := (by rw [H7.out] at hat'; simpa using hat'.symm); clear hat' hwc)
                          | (at_lookup; refine wpList_lookup_own_int _ rfl _ _ 46 rfl 3 3 .i64 law3 Try.underlying46 Try.underlying3 (zero3 _) mb _ _ rfl hown5 _ _ rfl (keyOf_int_mk Try.underlying3 hwd.out) ?_; intro c' hat' hwc; obtain rfl : c' = ((y' + 1 : Nat) : Int) := (by rw [H5.out] at hat'; simpa using hat'.symm); clear hat' hwc))
                        refine ⟨⟨j + 1, E', S', N' + 1, _, by rw [Int.natCast_succ], by omega, ?_, Htk.out, HpE.out, HP7.out, by omega⟩, by simp only [intOf]; omega⟩
                        have h := HPI'.out
                        rw [if_neg H9.out] at h
                        exact h
                · obtain rfl : lo = j := by omega
                  have hsm' := hPI.small Hpeel.out.len
                  have hpop := pw_pop hPW (by omega)
                  have hPI2 : PI m of vs E' (fun _ => E'.take (p + 1)) fv' := hPI.pext (fun k hk => by rw [← Hlo.out] at hk; rw [if_pos hk, htk]) fun k x hx => List.mem_of_mem_take hx
                  have Hpop := hide hpop
                  have HPI2 := hide hPI2
                  have HpE := hide hpE
                  have Hsm' := hide hsm'
                  clear hpop hPI hPI2 hPW htk hpE hsm'
                  go_wp2_with fail
                  refine Hpop.out.mono ?_
                  rintro _ w7' ⟨b7, ok7, S8, rfl, hor8⟩
                  have Hor8 := hide hor8
                  clear hor8
                  go_wp2_with fail
                  go_roundg (m - (p + 1))
                  case measure => have := HpE.out; have := Hsm'.out; omega
                  case rel => exact ⟨b7, ok7, E', S8, N', fv', p + 1, rfl, rfl, HPI2.out, by omega, Hor8.out, rfl⟩
            · have hPI2 : PI m of vs E (fun _ => E) fv := hPI.peq fun k => by rw [List.take_length]
              have hfn := hPI2.fin Hpeel.out
              have Hfn := hide hfn
              have HPW := hide hPW
              obtain ⟨wE, hwE⟩ : ∃ wE : World, wE = wr := ⟨_, rfl⟩
              rw [← hwE] at HPW ⊢
              clear hwE hPI hPI2 hfn hPW
              go_wp2_with fail
              go_loopw [19, 139] (fun v i wr => ∃ j : Nat, j ≤ m ∧ i = .int .i64 (j : Int) ∧ OI wE wr v (knT vs j)) (fun _ i _ => m - (intOf i).toNat)
              case atStart => exact ⟨0, Nat.zero_le _, rfl, ⟨(Row.nil : Row wE 3 (.slice none 0 0) []), (fun z hz => by cases hz), Below.refl _ _⟩⟩
              case round =>
                obtain ⟨j, hj, rfl, hO⟩ := hrel
                obtain ⟨Af, cf2, rfl, hf1, hf2⟩ := hO.shape
                have hsuc := knT_succ vs j
                have hlen := knT_len vs j
                by_cases hlt : j < m
                · have hev := ever_calls (j : Int) (WalkArith.wf_i64 (by omega)) ((HPW.out.below hO.bel).q.qs)
                  rw [Hfn.out] at hev
                  obtain ⟨kb, hkb⟩ : ∃ kb, kb = knB vs (j : Int) := ⟨_, rfl⟩
                  rw [← hkb] at hev hsuc
                  obtain ⟨ys, hys⟩ : ∃ ys, ys = knT vs j := ⟨_, rfl⟩
                  rw [← hys] at hO hf1 hsuc hlen ⊢
                  have Hev := hide hev
                  have Hsuc := hide hsuc
                  have Hlen2 := hide hlen
                  have HO := hide hO
                  clear hev hsuc hlen hO hkb hys
                  go_wp2_with fail
                  refine Hev.out.mono ?_
                  rintro _ w7' ⟨rfl, hb7⟩
                  have hO7 : OI wE w7' (.slice Af ys.length cf2) ys := ⟨HO.out.row.keep fun z hz => hb7.block z (HO.out.row.lt hz), HO.out.own, HO.out.bel.trans (hb7.mono HO.out.bel.size)⟩
                  have HO7 := hide hO7
                  clear hO7 hb7
                  cases kb
                  · go_wp2_with fail
                    exact ⟨⟨j + 1, by omega, by rw [Int.natCast_succ], by rw [Hsuc.out, if_neg (by simp), List.append_nil]; exact HO7.out⟩, by simp only [intOf]; omega⟩
                  · have hr7 := hide (HO7.out.row.keep (w' := w7'.alloc (.cells #[.int .i64 (j : Int)] 3)) fun z hz => (balloc w7' _).block z (HO7.out.row.lt hz))
                    have s7 := hide (Src.lit1 w7' (.int .i64 (j : Int)) 3)
                    have hym := hide (show (ys.map encI).length = ys.length from List.length_map _)
                    have hone := hide (show ∀ u ∈ [Value.int .i64 (j : Int)], u.oneCell' = true from fun u hu => by simp at hu; subst hu; rfl)
                    have hby := hide (show ((ys.map encI).length + [Value.int .i64 (j : Int)].length) * 8 ≤ 140737488355328 ∧ (ys.map encI).length + [Value.int .i64 (j : Int)].length ≤ maxLen from ⟨by have := Hlen2.out; rw [hym.out, List.length_singleton]; omega, by have := Hlen2.out; rw [hym.out, List.length_singleton]; unfold maxLen; omega⟩)
                    go_wp2_with (at_builtin; with_reducible refine wp_app 147 rfl rfl (.tmp 144) (.tmp 146) 31 rfl Try.underlying31 infoI ?_ (us := ys.map encI) ?_ hr7.out (A := some ⟨w7'.heap.size, 0, none⟩) (c := 1) (news := [.int .i64 (j : Int)]) ?_ s7.out hone.out hby.out.1 hby.out.2 ?_)
                    all_goals first | rfl | skip
                    intro v9 w9' hr9 g9 o9
                    have Hnew := hide (HO7.out.push hr9 g9 o9)
                    clear hr9 g9 o9
                    go_wp2_with fail
                    exact ⟨⟨j + 1, by omega, by rw [Int.natCast_succ], by rw [Hsuc.out]; simpa using Hnew.out⟩, by simp only [intOf]; omega⟩
                · obtain rfl : j = m := by omega
                  rw [← Hkn.out] at hO hf1 ⊢
                  have hbE := HPW.out.bel.trans (hO.bel.mono HPW.out.bel.size)
                  have hsame := same_calls Af kn cf2 Ak kn ck (· < wr.heap.size) wr hf2 hf1 (row_ints hO.row (by rw [Hkn.out]; intro x hx; obtain ⟨k, rfl, hk, -⟩ := knT_mem hx; exact WalkArith.wf_i64 (by omega)) fun z hz => hO.row.lt hz) hck2 hck1 ((Hkr.out.below hbE).mono fun z hz => Nat.lt_of_lt_of_le hz hbE.size) (fun z hz => hz)
                  rw [sameN_yes] at hsame
                  have m0 := keep8 Hm0.out hbE
                  have Hsame := hide hsame
                  have Hend := hide (Hb0B.out.trans (hbE.mono Hb0B.out.size))
                  clear hsame hbE hO hsuc hlen
                  go_wp2_with fail
                  refine Hsame.out.mono ?_
                  rintro _ w7' ⟨rfl, hb7⟩
                  have Hb7 := hide hb7
                  clear hb7
                  go_wp2_with fail
                  exact hR.out _ _ ⟨rfl, Hend.out.trans (Hb7.out.mono Hend.out.size)⟩
end Go.Proofs.Ytdppjhfndolbjaa
