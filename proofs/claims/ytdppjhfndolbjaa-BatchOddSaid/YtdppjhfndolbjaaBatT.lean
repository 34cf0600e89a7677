/- The reference's rest: an equation's value with all of its known blocks put upon it. -/
import Derived.Test.YtdppjhfndolbjaaBatS
set_option linter.unusedVariables false
set_option linter.unusedSimpArgs false
namespace Go.Proofs.Ytdppjhfndolbjaa
open Go.RowKit

theorem zs_xor (x : List UInt8) : xorL (zs x.length) x = x := by
  apply List.ext_getElem
  · simp [xorL, zs]
  · intro i h1 h2
    simp [xorL, zs]
theorem sum_rest (vs : Vals) (of : List Int) (v : List UInt8) : sumL (zs v.length) (v :: (of.filter (knB vs)).map (valAt vs)) = restV vs of v := by
  show sumL (xorL (zs v.length) v) _ = _
  rw [zs_xor]; rfl
def restL (vs : Vals) (of : List Int) (v : List UInt8) (k : Nat) : List (List UInt8) := v :: ((of.take k).filter (knB vs)).map (valAt vs)
theorem restL_succ {vs : Vals} {of : List Int} {v : List UInt8} {k : Nat} (hk : k < of.length) : restL vs of v (k + 1) = restL vs of v k ++ (if knB vs of[k] = true then [valAt vs of[k]] else []) := by
  rw [restL, List.take_succ_eq_append_getElem hk, List.filter_append, List.map_append]
  cases h : knB vs of[k] <;> simp [h, restL]
theorem restL_len (vs : Vals) (of : List Int) (v : List UInt8) (k : Nat) : (restL vs of v k).length ≤ k + 1 := by
  unfold restL
  have h1 := List.length_filter_le (knB vs) (of.take k)
  rw [List.length_take] at h1
  simp only [List.length_cons, List.length_map]
  omega
theorem orow_lit1 {α : Type} {d : Kd α} {S : Nat → Prop} {w : World} (e : TypeId) (u : Value) (x : α) (h1 : d.sz = 1) (h : d.R S (w.alloc (.cells #[u] e)) x [u]) : ORow d S (w.alloc (.cells #[u] e)) e (.slice (some ⟨w.heap.size, 0, none⟩) 1 1) [x] :=
  ⟨[u], ⟨by simp [h1], .inr ⟨_, _, _, rfl, Nat.zero_le _, heap_alloc_new w _, by simp, by simp [maxLen], by simp [h1], by simp [h1]⟩⟩, fun i y hy => by
    cases i with
    | zero =>
      simp at hy; subst hy
      exact ⟨[u], h, fun j v hv => by simpa using hv⟩
    | succ i => simp at hy⟩
set_option maxHeartbeats 4000000 in
theorem rrest_calls {K A B C : Option Addr} {kn of : List Int} {v : List UInt8} {ck c d n cv : Nat} {vs : Vals} {S : Nat → Prop} {w : World} (hkc : kn.length ≤ ck) (hkm : ck ≤ maxLen) (hc : of.length ≤ c) (hm : c ≤ maxLen) (hol : of.length ≤ 100000) (hd : v.length ≤ d) (hdm : d ≤ maxLen) (hv : v.length ≤ 1000) (hn : n = vs.length) (hn1 : n ≤ 100000)
    (hK : RdL kInt S w K kn) (hA : RdL kInt S w A of) (hB : RdL Kd.byte S w B v) (hC : VO S w (.slice C n cv) vs) (hCo : ∀ z, (Value.slice C n cv).ownBlock = some z → S z) (hS : ∀ k, S k → k < w.heap.size) (hhas : ∀ i, hasI kn i = knB vs i) (hlen : ∀ i, knB vs i = true → (valAt vs i).length = v.length) :
    Calls Try.prog 29 #[.slice K kn.length ck, .slice A of.length c, .slice B v.length d, .slice C n cv] w fun e w' => ∃ g, e = .returned (.slice (some ⟨g, 0, none⟩) v.length v.length) ∧ Wr w' (some ⟨g, 0, none⟩) g [] [] 5 (restV vs of v) ∧ w.heap.size ≤ g ∧ g < w'.heap.size ∧ Below w.heap.size w w' := by
  refine cps fun R hR => ?_
  have Hkm := hide hkm
  unfold maxLen at hm
  have HK := hide hK
  have HA := hide hA
  have HB := hide hB
  have HC := hide hC
  have HS := hide hS
  have HCo := hide hCo
  have Hhas := hide hhas
  have Hlen := hide hlen
  have Hn := hide hn
  obtain ⟨L, hL⟩ : ∃ L, L = of.length := ⟨_, rfl⟩
  rw [← hL] at hc hol ⊢
  have HL := hide hL
  obtain ⟨lk, hlk⟩ : ∃ lk, lk = kn.length := ⟨_, rfl⟩
  rw [← hlk] at hkc ⊢
  have Hlk := hide hlk
  obtain ⟨lv, hlv⟩ : ∃ lv, lv = v.length := ⟨_, rfl⟩
  rw [← hlv] at hd hv hR ⊢
  have Hlv := hide hlv
  have hdm' : d ≤ 9223372036854775807 := by unfold maxLen at hdm; exact hdm
  have hb0 := balloc w (.cells #[.slice B lv d] 38)
  have H0 := hide (orow_lit1 (d := Kd.sl Kd.byte) (S := S) (w := w) 38 (.slice B lv d) v rfl ⟨B, d, by rw [hlv], by rw [← hlv]; exact hd, hdm, hB.keep fun k hk => hb0.block k (hS k hk)⟩)
  have Hb0 := hide hb0
  clear hK hA hB hC hS hCo hhas hlen hn hL hlk hlv hkm hb0 hdm
  go_enter Try.func29, Try.ntmps29
  go_wp2_with fail
  go_loopw [9, 10] (fun l i wr => ∃ k : Nat, k ≤ L ∧ i = .int .i64 (k : Int) ∧ ORow (Kd.sl Kd.byte) S wr 38 l (restL vs of v k) ∧ (∀ z, l.ownBlock = some z → w.heap.size ≤ z) ∧ Below w.heap.size w wr) (fun _ i _ => L - (intOf i).toNat)
  case atStart => exact ⟨0, Nat.zero_le _, rfl, H0.out, fun z hz => by have hz' : some w.heap.size = some z := hz; injection hz' with hz'; omega, Hb0.out⟩
  case round =>
    obtain ⟨k, hkl, rfl, ho, hown, hbw⟩ := hrel
    obtain ⟨Ao, co, rfl, hco, hcm⟩ := ho.shape
    by_cases hlt : k < L
    · have hko : k < of.length := by rw [← HL.out]; exact hlt
      obtain ⟨b, off, u, rfl, -, hu, hcx⟩ := (HA.out.keep (w' := wr) fun z hz => hbw.block z (HS.out z hz)).at1 rfl hko
      obtain rfl := (Kd.int_cell hu).1
      have hsu := restL_succ (vs := vs) (v := v) hko
      have hll := restL_len vs of v k
      obtain ⟨x, hx⟩ : ∃ x, x = of[k] := ⟨_, rfl⟩
      rw [← hx] at hcx hsu
      have hkx := rhas_calls K kn ck x S wr Hkm.out (by rw [← Hlk.out]; exact hkc) (HK.out.keep (w' := wr) fun z hz => hbw.block z (HS.out z hz))
      rw [← Hlk.out, Hhas.out x] at hkx
      obtain ⟨ys, hys⟩ : ∃ ys, ys = restL vs of v k := ⟨_, rfl⟩
      rw [← hys] at ho hco hown hsu hll ⊢
      obtain ⟨kb, hkb⟩ : ∃ kb, kb = knB vs x := ⟨_, rfl⟩
      rw [← hkb] at hsu hkx
      have Hkb := hide hkb
      have Hsu := hide hsu
      have Hkx := hide hkx
      have Ho := hide ho
      have Hll := hide hll
      have Hown := hide hown
      have Hbw := hide hbw
      have i1 : (0 : Int) ≤ (k : Int) := by omega
      have i2 : (k : Int) < (L : Int) := by omega
      clear ho hu hsu hx hys hkb hll hkx hown hbw
      go_wp2_with fail
      refine Hkx.out.mono ?_
      rintro _ w2 ⟨rfl, rfl⟩
      cases kb
      · go_wp2_with fail
        go_roundw
        case rel => exact ⟨k + 1, by omega, by go_num, by rw [Hsu.out, if_neg (by simp), List.append_nil]; exact Ho.out, Hown.out, Hbw.out⟩
        case measure => simp [intOf]; omega
      · obtain ⟨kx, bx, rfl, hbx⟩ := knB_iff.1 Hkb.out.symm
        have hkv : kx < vs.length := (List.getElem?_eq_some_iff.1 hbx).1
        have hva : valAt vs (kx : Int) = bx := valAt_of hbx
        have hvl : bx.length = lv := by have := Hlen.out (kx : Int) Hkb.out.symm; rw [hva] at this; exact this.trans Hlv.out.symm
        obtain ⟨q, u, eC, hcu, hru⟩ := (HC.out.keep (w' := wr) fun z hz => Hbw.out.block z (hz.elim (HS.out z) fun hz => HS.out z (HCo.out z hz))).at hkv
        rw [(List.getElem?_eq_some_iff.1 hbx).2] at hru
        obtain ⟨a, cx, hu', g1, g2, g3⟩ := hru
        injection hu' with hu'
        subst hu'
        obtain ⟨lx, hlx⟩ : ∃ lx, lx = bx.length := ⟨_, rfl⟩
        rw [← hlx] at hcu g1
        have Hq := hide (show C = some ⟨q, 0, none⟩ from eC)
        obtain ⟨w3, hw3⟩ : ∃ w3, w3 = wr.alloc (.cells #[.slice (some a) lx cx] 38) := ⟨_, rfl⟩
        have hb3 : Below wr.heap.size wr w3 := by rw [hw3]; exact balloc wr _
        have hor : ORow (Kd.sl Kd.byte) S w3 38 (.slice Ao ys.length co) ys := Ho.out.keep fun z hz => hb3.block z (hz.elim (fun hz => Nat.lt_of_lt_of_le (HS.out z hz) Hbw.out.size) fun hz => Ho.out.lt hz)
        have hel : (Kd.sl Kd.byte).R S w3 bx [.slice (some a) lx cx] := ⟨some a, cx, by rw [hlx], by rw [← hlx]; exact g1, g2, g3.keep fun z hz => hb3.block z (Nat.lt_of_lt_of_le (HS.out z hz) Hbw.out.size)⟩
        have hnew : w3.heap[wr.heap.size]? = some (.cells #[.slice (some a) lx cx] 38 (0, 0)) := by rw [hw3]; exact heap_alloc_new wr _
        have Hor := hide hor
        have Hel := hide hel
        have Hnew := hide hnew
        have hone := hide (show ∀ u ∈ [Value.slice (some a) lx cx], u.oneCell' = true from fun u hu => by simp at hu; subst hu; rfl)
        have hby := hide (show (ys.length + 1) * 24 ≤ 140737488355328 ∧ ys.length + 1 ≤ maxLen from ⟨by have := Hll.out; omega, by have := Hll.out; unfold maxLen; omega⟩)
        have hSc := hide (show ∀ z, S z → z < w3.heap.size ∧ some z ≠ (Value.slice Ao ys.length co).ownBlock from fun z hz => ⟨by have := HS.out z hz; have := Hbw.out.size; have := hb3.size; omega, fun e => by have := Hown.out z e.symm; have := HS.out z hz; omega⟩)
        have Hb3 := hide hb3
        have Hw3 := hide hw3
        have hvax := hide (show (if (true = true) then [valAt vs (kx : Int)] else []) = [bx] by rw [hva]; rfl)
        have i3 : (0 : Int) ≤ (kx : Int) := by omega
        have i4 : (kx : Int) < (n : Int) := by have := Hn.out; omega
        subst eC
        clear hor hel hnew hb3 hw3 hva hvl hlx hbx hkv g3
        go_wp2_with (at_builtin; rw [← Hw3.out]; with_reducible refine wp_push 34 rfl rfl (.tmp 25) (.tmp 33) 23 rfl Try.underlying23 infoSB ?_ (d := Kd.sl Kd.byte) (S := S) (xs := ys) ?_ Hor.out (g := wr.heap.size) (y := bx) (cs := [.slice (some a) lx cx]) ?_ Hnew.out Hel.out hone.out hby.out.1 hby.out.2 hSc.out ?_)
        all_goals first | rfl | skip
        intro v9 w9 hr9 g9 o9
        have hb9 : Below w.heap.size w w9 := (Ch.of_grown g9).below (Hbw.out.trans (Hb3.out.mono Hbw.out.size)) (Nat.le_trans Hbw.out.size Hb3.out.size) Hown.out
        have hown9 : ∀ z, v9.ownBlock = some z → w.heap.size ≤ z := fun z hz => by
          rcases o9 with e | e
          · exact Hown.out z (e ▸ hz)
          · rw [hz] at e; injection e with e; have := Hbw.out.size; have := Hb3.out.size; omega
        have Hr9 := hide hr9
        have Hb9 := hide hb9
        have Hown9 := hide hown9
        clear hr9 g9 o9 hb9 hown9
        go_wp2_with fail
        go_roundw
        case rel => exact ⟨k + 1, by omega, by go_num, by rw [Hsu.out, hvax.out]; exact Hr9.out, Hown9.out, Hb9.out⟩
        case measure => simp [intOf]; omega
    · obtain rfl : k = L := by omega
      have hfull : restL vs of v k = v :: (of.filter (knB vs)).map (valAt vs) := by rw [restL, List.take_of_length_le (by rw [← HL.out]; exact Nat.le_refl _)]
      have hll := restL_len vs of v k
      have hss := refsum_calls lv Ao (restL vs of v k) co (fun z => S z ∨ (Value.slice Ao (restL vs of v k).length co).ownBlock = some z) wr (by omega) hcm hco (fun y hy => by
        rw [hfull] at hy
        rcases List.mem_cons.1 hy with rfl | hy
        · exact Hlv.out.symm
        · obtain ⟨i, hi, rfl⟩ := List.mem_map.1 hy
          exact (Hlen.out i (List.mem_filter.1 hi).2).trans Hlv.out.symm) ho.rd (fun z hz => hz.elim (fun hz => Nat.lt_of_lt_of_le (HS.out z hz) hbw.size) fun hz => ho.lt hz)
      have hrs : sumL (zs lv) (restL vs of v k) = restV vs of v := by rw [hfull, Hlv.out, sum_rest]
      rw [hrs] at hss
      obtain ⟨lr, hlr⟩ : ∃ lr, lr = (restL vs of v k).length := ⟨_, rfl⟩
      rw [← hlr] at hss hco ⊢
      have Hss := hide hss
      have Hbw := hide hbw
      clear hss hbw hrs hfull ho hown hlr hll
      go_wp2_with fail
      refine Hss.out.mono ?_
      rintro _ w6 ⟨rfl, h3, h4, h5⟩
      have H3 := hide h3
      have H4 := hide h4
      have H5 := hide h5
      clear h3 h4 h5
      go_wp2_with fail
      exact hR.out _ _ ⟨wr.heap.size, rfl, H3.out, Hbw.out.size, H4.out, Hbw.out.trans (H5.out.mono Hbw.out.size)⟩
end Go.Proofs.Ytdppjhfndolbjaa
