/- NetKeeps, walked. -/
import Derived.Test.YtehkdionodnhjaaNetKeeps0
set_option linter.unusedVariables false
set_option linter.unusedSimpArgs false
namespace Go.Proofs.Ytehkdionodnhjaa
open Go.RowKit Go.Maps

theorem opO_head {w : World} {q : Nat} {kind pt : Int} {m : UInt32} {B : Option Addr} {n d : Nat} (h : w.heap[q]? = some (opO kind pt m B n d)) : w.cell? ⟨q, 0, none⟩ = some (.int .i64 kind) ∧ w.cell? ⟨q, 1, none⟩ = some (.int .i64 pt) ∧ w.cell? ⟨q, 2, none⟩ = some (.int .u32 (m.toNat : Int)) ∧ w.cell? ⟨q, 3, none⟩ = some (.slice B n d) :=
  ⟨by rw [cell_of_row w q 0 _ _ (0, 0) h]; rfl, by rw [cell_of_row w q 1 _ _ (0, 0) h]; rfl, by rw [cell_of_row w q 2 _ _ (0, 0) h]; rfl, by rw [cell_of_row w q 3 _ _ (0, 0) h]; rfl⟩
theorem key_rd (w : World) (k : Nat) (x : Int) (hx : x = ((UInt8.ofNat k).toNat : Int)) : RdL Kd.byte (fun q => q = w.heap.size) (w.alloc (.cells #[.int .u8 x, .int .u8 9] 5)) (some ⟨w.heap.size, 0, none⟩) (keyL k) := by
  subst hx
  exact bytes_lit w (keyL k)
theorem below_t3 {a : Nat} {w w1 w2 : World} (h : Below a w w1) (ha : a ≤ w1.heap.size) (h2 : Below w1.heap.size w1 w2) : Below a w w2 := h.trans (h2.mono ha)
/-- How often each has come behind t of them. -/
def cumF (f : Nat → Nat) (xs : List Nat) (t : Nat) (j : Nat) : Nat := f j + (xs.take t).count j
theorem cumF_succ (f : Nat → Nat) (xs : List Nat) (t : Nat) (h : t < xs.length) (j : Nat) : cumF f xs (t + 1) j = cumF f xs t j + if j = xs[t] then 1 else 0 := by
  unfold cumF
  rw [List.take_succ_eq_append_getElem h, List.count_append]
  by_cases e : j = xs[t]
  · subst e; simp [Nat.add_assoc]
  · simp [e, Ne.symm e]
theorem op_store {w : World} {q : Nat} {k0 p0 : Int} {m0 m : UInt32} {B0 B : Option Addr} {n0 d0 n d : Nat} {kd po : Int} (h : w.heap[q]? = some (opO k0 p0 m0 B0 n0 d0)) :
    ((((w.setCell ⟨q, 0, none⟩ (.int .i64 kd)).setCell ⟨q, 1, none⟩ (.int .i64 po)).setCell ⟨q, 2, none⟩ (.int .u32 (m.toNat : Int))).setCell ⟨q, 3, none⟩ (.slice B n d)).heap[q]? = some (opO kd po m B n d) := by
  have h1 := set_blk h 0 (.int .i64 kd)
  have h2 := set_blk h1 1 (.int .i64 po)
  have h3 := set_blk h2 2 (.int .u32 (m.toNat : Int))
  have h4 := set_blk h3 3 (.slice B n d)
  simpa using h4
theorem u8_of (k : Nat) (h : k < 60) : IntKind.u8.wrap (k : Int) = ((UInt8.ofNat k).toNat : Int) := by
  rw [UInt8.toNat_ofNat']
  simp [IntKind.wrap, IntKind.bits, IntKind.signed]
set_option maxHeartbeats 8000000 in
set_option maxRecDepth 100000 in
theorem Keeps_calls (A : Option Addr) (acts : List OpT) (c : Nat) (many : Int) (w : World) (hm0 : 0 ≤ many) (hm1 : many ≤ 255) (hc : acts.length ≤ c) (hcm : c ≤ maxLen) (hf : RdL Kd.op (· < w.heap.size) w A acts) :
    Calls Try.prog 9 #[.slice A acts.length c, .int .u8 many] w fun e w' => e = .returned (.bool true) ∧ Below w.heap.size w w' := by
  refine cps fun R hR => ?_
  have Hsp := hide (nspeaks w)
  have Hf := hide hf
  have Hcm := hide hcm
  unfold maxLen at hcm
  have hmm := @run_makeMap Try.prog
  obtain ⟨N, hN⟩ : ∃ N, N = acts.length := ⟨_, rfl⟩
  rw [← hN] at hc ⊢
  have HN := hide hN
  clear hN hf
  by_cases h60 : 60 < N
  · go_enter Try.func9, Try.ntmps9
    go_wp2_with fail
    refine Hsp.out.mono ?_
    rintro _ w1 ⟨rfl, hb1⟩
    go_wp2_with fail
    exact hR.out _ _ ⟨rfl, hb1⟩
  go_enter Try.func9, Try.ntmps9
  go_wp2_with fail
  refine Hsp.out.mono ?_
  rintro _ w1 ⟨rfl, hb1⟩
  have hq1 := nl_new w w1 hb1
  obtain ⟨w2, hw2⟩ : ∃ w2, w2 = w1.alloc (.cells #[.slice none 0 0] 62) := ⟨_, rfl⟩
  rw [← hw2] at hq1
  obtain ⟨g, hg⟩ : ∃ g, g = w1.heap.size := ⟨_, rfl⟩
  rw [← hg] at hq1
  obtain ⟨w3, hw3⟩ : ∃ w3, w3 = w2.alloc (.map #[] 0) := ⟨_, rfl⟩
  obtain ⟨mb, hmb⟩ : ∃ mb, mb = w2.heap.size := ⟨_, rfl⟩
  have hq3 : NL w w3 (fun k => k = g) g [] := by rw [hw3]; exact hq1.below (balloc w2 _)
  have hm3 : MapK w3 mb fun _ => 0 := by rw [hw3, hmb]; exact mapK_new w2
  have hmg : mb ≠ g := by rw [hmb, hg, hw2]; simp
  have hmw : w.heap.size ≤ mb := by rw [hmb]; exact hq1.bel.size
  have HW2 := hide hw2
  have Hg := hide hg
  have HW3 := hide hw3
  have Hmb := hide hmb
  have Hq3 := hide hq3
  have Hm3 := hide hm3
  have Hmg := hide (show mb ≠ g ∧ w.heap.size ≤ mb from ⟨hmg, hmw⟩)
  clear hw2 hq1 hb1 hg Hsp hw3 hmb hq3 hm3 hmg hmw
  go_upto_region 6 with fail
  rw [← HW2.out, ← Hg.out]
  clear HW2 Hg
  go_upto_region 7 with fail
  rw [← HW3.out, ← Hmb.out]
  clear HW3 Hmb hmm
  go_wp2_with fail
  obtain ⟨M, hM60, hM⟩ : ∃ M : Nat, M < 60 ∧ many % 60 = (M : Int) := ⟨(many % 60).toNat, by omega, by omega⟩
  rw [hM]
  have Hmany := hide hM
  clear hM
  go_loopw [25] (fun i wr => ∃ (k : Nat) (S : Nat → Prop) (is : List Nat) (f : Nat → Nat), k ≤ M ∧ i = .int .i64 (k : Int) ∧ NL w wr S g (is.map keyL) ∧ ¬ S mb ∧ MapK wr mb f ∧ (∀ j, j < 60 → f j + is.count j = totK acts k j) ∧ (∀ j ∈ is, j < 60) ∧ is.length ≤ k) (fun i _ => M - (intOf i).toNat)
  case atStart => exact ⟨0, _, [], _, by omega, rfl, Hq3.out, Hmg.out.1, Hm3.out, fun j hj => by simp [totK], (fun j hj => by cases hj), by simp⟩
  case round =>
    obtain ⟨k, S, is, f, hk, rfl, hq, hmS, hmap, hfc, his, hil⟩ := hrel
    by_cases hlt : k < M
    · have hk60 : k < 60 := by omega
      have Hq := hide hq
      have Hmap := hide hmap
      have Hfc := hide hfc
      have His := hide his
      have HmS := hide hmS
      have Hil := hide hil
      obtain ⟨q, hqq⟩ : ∃ q, q = wr.heap.size := ⟨_, rfl⟩
      obtain ⟨w5, hw5⟩ : ∃ w5, w5 = wr.alloc (opO 0 0 0 none 0 0) := ⟨_, rfl⟩
      have hb5 : Below wr.heap.size wr w5 := by rw [hw5]; exact balloc wr _
      have hh5 : w5.heap[q]? = some (opO 0 0 0 none 0 0) := by rw [hw5, hqq]; exact heap_alloc_new wr _
      have hu8 := u8_of k hk60
      obtain ⟨xb, hxb⟩ : ∃ xb, xb = ((UInt8.ofNat k).toNat : Int) := ⟨_, rfl⟩
      rw [← hxb] at hu8
      have Hxb := hide hxb
      have HW5 := hide hw5
      have Hb5 := hide hb5
      have Hh5 := hide hh5
      have Hqq := hide hqq
      clear hq hmap hfc his hmS hil hw5 hb5 hh5 hqq hxb
      go_upto_region 11 with fail
      have hopw : (Obj.cells #[Value.int .i64 0, .int .i64 0, .int .u32 0, .slice none 0 0] 59) = opO 0 0 0 none 0 0 := rfl
      rw [hopw, ← HW5.out, ← Hqq.out]
      clear HW5 hopw
      by_cases hkN : k < N
      · have hkl : k < acts.length := by rw [← HN.out]; exact hkN
        obtain ⟨bo, oo, Bo, co, rfl, hbo, ⟨o0, o1, o2, o3⟩, wp, hlo, hco, hro⟩ := Hf.out.op hkl
        have heff : effK acts k = if harmB acts[k].1 && acts[k].1 != 1 then acts[k].1 else 0 := by
          unfold effK; rw [List.getElem?_eq_getElem hkl]; rfl
        obtain ⟨kd, hkd⟩ : ∃ kd, kd = acts[k].1 := ⟨_, rfl⟩
        obtain ⟨po, hpo⟩ : ∃ po, po = acts[k].2.1 := ⟨_, rfl⟩
        obtain ⟨mo, hmo⟩ : ∃ mo, mo = acts[k].2.2.1 := ⟨_, rfl⟩
        obtain ⟨bso, hbso⟩ : ∃ bso, bso = acts[k].2.2.2 := ⟨_, rfl⟩
        rw [← hkd] at heff o0
        rw [← hpo] at o1 wp
        rw [← hmo] at o2
        rw [← hbso] at o3 hlo hro
        clear hkd hpo hmo hbso
        have hB5 := below_t3 Hq.out.bel Hq.out.bel.size Hb5.out
        have q0 : w5.cell? ⟨bo, oo + k * 4, none⟩ = some (.int .i64 kd) := (hB5.cell hbo).trans o0
        have q1 : w5.cell? ⟨bo, oo + k * 4 + 1, none⟩ = some (.int .i64 po) := (hB5.cell hbo).trans o1
        have q2 : w5.cell? ⟨bo, oo + k * 4 + 2, none⟩ = some (.int .u32 (mo.toNat : Int)) := (hB5.cell hbo).trans o2
        have q3 : w5.cell? ⟨bo, oo + k * 4 + 3, none⟩ = some (.slice Bo bso.length co) := (hB5.cell hbo).trans o3
        have HB5 := hide hB5
        have Heff := hide heff
        have Hro := hide hro
        have Hwp := hide wp
        have Hlo := hide hlo
        have Hco := hide hco
        have Hbo := hide hbo
        have hhm := hide (harmless_calls kd po mo Bo bso.length co w5)
        clear hB5 heff hro wp hlo hco o0 o1 o2 o3 hkl
        cases hh : harmB kd
        · rw [hh] at hhm Heff
          clear hh
          go_wp2_with fail
          refine hhm.out.mono ?_
          rintro _ w6 ⟨rfl, hb6⟩
          go_upto_region 13 with fail
          have hh6 : w6.heap[q]? = some (opO 0 0 0 none ([] : List UInt8).length 0) := (hb6.block q (Array.getElem?_eq_some_iff.1 Hh5.out).1).trans Hh5.out
          have hbr6 : Below wr.heap.size wr w6 := below_t3 Hb5.out Hb5.out.size hb6
          have hB6' := below_t3 Hq.out.bel Hq.out.bel.size hbr6
          obtain ⟨w7, hw7⟩ : ∃ w7, w7 = w6.alloc (.cells #[.int .u8 xb, .int .u8 9] 5) := ⟨_, rfl⟩
          have hb7 : Below w6.heap.size w6 w7 := by rw [hw7]; exact balloc w6 _
          have hb57 := hbr6
          have hb7' := below_t3 hb57 hb57.size hb7
          have hr7 : RdL Kd.byte (fun z => z = w6.heap.size) w7 (some ⟨w6.heap.size, 0, none⟩) (keyL k) := by rw [hw7]; exact key_rd w6 k xb Hxb.out
          have hBs : RdL Kd.byte (fun z => z = w6.heap.size ∨ z < w.heap.size) w7 none [] := RdL.nil
          have hdo := nl_do 0 0 0 none [] 0 (some ⟨w6.heap.size, 0, none⟩) (keyL k) 2 (fun z => z = w6.heap.size ∨ z < w.heap.size) w7 (Hq.out.below hb7') (by simp [keyL]) (by rw [List.length_map]; have := Hil.out; omega) (by decide) (by decide) (by decide) (by decide) (by simp [keyL]) (by unfold maxLen; omega) (fun z hz => by
            have h1 := hb7.size
            have h2 := hB6'.size
            have h3 : w7.heap.size = w6.heap.size + 1 := by rw [hw7]; simp
            rcases hz with hz | hz <;> omega) (hr7.mono fun z hz => .inl hz) hBs
          have hst := doL_step is 0 0 0 [] k (by rfl) (by decide)
          rw [hst] at hdo
          have hlk : (keyL k).length = 2 := rfl
          rw [hlk] at hdo
          have hmb7 : mb < w7.heap.size := by have := Hmap.out.lt; have := hb7'.size; omega
          have hmb6 : mb < w6.heap.size := by have := Hmap.out.lt; have := hb57.size; omega
          have hmap7 := hide (Hmap.out.keep (w' := w7) (hb7'.block mb Hmap.out.lt))
          obtain ⟨is', his'⟩ : ∃ is', is' = (stepI is 0 k).1 := ⟨_, rfl⟩
          obtain ⟨xs, hxs⟩ : ∃ xs, xs = (stepI is 0 k).2 := ⟨_, rfl⟩
          rw [← his', ← hxs] at hdo
          have hcount := hide (show ∀ j, is'.count j + xs.count j = is.count j + if j = k then (if effK acts k = 2 then 2 else 1) else 0 from fun j => by rw [his', hxs, Heff.out]; exact step_count is 0 k j)
          have hmem := hide (show (∀ i ∈ is', i < 60) ∧ ∀ i ∈ xs, i < 60 from by rw [his', hxs]; exact step_mem His.out hk60)
          have hlens := hide (show is'.length ≤ is.length + 1 ∧ xs.length ≤ is.length + 2 from by rw [his', hxs]; exact step_len is 0 k)
          have Hdo := hide hdo
          have HW7 := hide hw7
          obtain ⟨p0, p1, p2, p3⟩ := opO_head hh6
          have Hmb7 := hide hmb7
          have Hb7 := hide hb7'
          clear his' hxs hdo hw7 hb7 hb57 hb7' hr7 hBs hst hlk hmb7 hmb6 hbr6 hB6' hh6 hb6
          go_wp2_with fail
          rw [← HW7.out]
          clear HW7
          refine Hdo.out.mono ?_
          rintro _ w8 ⟨A8, c8, us8, S8, T8, rfl, hq8, hfr8, hch8, hnew8, hout8⟩
          have hm8 : MapK w8 mb f := hmap7.out.keep (hch8.block mb Hmb7.out HmS.out)
          have hmT : ∀ z, (T8 z ∨ (Value.slice A8 (xs.map keyL).length c8).ownBlock = some z) → z ≠ mb := fun z hz e => by
            subst e
            rcases (hout8 z hz).1 with h1 | h1
            · exact HmS.out h1
            · have := Hmb7.out; omega
          have hmS8 : ¬ S8 mb := fun hz => by
            rcases hnew8 mb hz with h1 | h1
            · exact HmS.out h1
            · have := Hmb7.out; omega
          have HmT := hide hmT
          have HTlt := hide (show ∀ z, T8 z → z < w8.heap.size from fun z hz => (hout8 z (.inl hz)).2)
          have HmS8 := hide hmS8
          have Hm8 := hide hm8
          have Hq8 := hide hq8
          have Hrow8 := hide hfr8.row
          have hxl : Hid ((xs.map keyL).length = xs.length) := hide (List.length_map _)
          have hxm : Hid (xs.length ≤ 62) := hide (by have := hlens.out; have := Hil.out; omega)
          clear hq8 hfr8 hch8 hnew8 hout8 hm8 hmT hmS8 Hdo hmap7 p0 p1 p2 p3
          rw [hxl.out] at Hrow8 HmT ⊢
          obtain ⟨L, hL⟩ : ∃ L, L = xs.length := ⟨_, rfl⟩
          rw [← hL] at Hrow8 HmT hxm ⊢
          have HL := hide hL
          clear hL
          go_wp2_with fail
          go_loopw [58] (fun i wr => ∃ t : Nat, t ≤ L ∧ i = .int .i64 (t : Int) ∧ MapK wr mb (cumF f xs t) ∧ Ch (fun z => z = mb) w8 wr) (fun i _ => L - (intOf i).toNat)
          case atStart => exact ⟨0, by omega, rfl, Hm8.out.ext fun j hj => by simp [cumF], Ch.refl w8⟩
          case round =>
            obtain ⟨t, ht, rfl, hmt, hct⟩ := hrel
            by_cases htl : t < L
            · have htx : t < xs.length := by have := HL.out; omega
              have htk : t < (xs.map keyL).length := by rw [List.length_map]; exact htx
              obtain ⟨b8, u8, rfl, hbo8, -, hcell8, hu8'⟩ := Hrow8.out.cell htk
              have hb8m : b8 ≠ mb := HmT.out b8 (.inr hbo8)
              have hcr : wr.cell? ⟨b8, t, none⟩ = some u8 := hct.cell hcell8 hb8m
              have hu8r := Kd.ow.keep (w' := wr) (fun z hz => hct.block z (HTlt.out z hz) (HmT.out z (.inl hz))) hu8'
              obtain ⟨A9, c9, rfl, -, -, hrd9⟩ := ow_shape hu8r
              have hkx : (xs.map keyL)[t] = keyL xs[t] := List.getElem_map ..
              rw [hkx] at hrd9 hcr
              have hx60 := hmem.out.2 xs[t] (List.getElem_mem _)
              obtain ⟨j, hj⟩ : ∃ j, j = xs[t] := ⟨_, rfl⟩
              have hsucc := hide (show ∀ i, cumF f xs (t + 1) i = cumF f xs t i + if i = j then 1 else 0 from fun i => by rw [hj]; exact cumF_succ f xs t htx i)
              rw [← hj] at hrd9 hcr hx60
              have hstr := run_str (P := Try.prog) (w := wr) Try.underlying57 Try.underlying5 Try.underlying9 hrd9.srcB c9
              have hcr' : wr.cell? ⟨b8, t, none⟩ = some (.slice A9 2 c9) := hcr
              have hstr' : (convert 57 9 (.slice A9 2 c9)).run Try.prog wr = .ok (.string (bstr (keyL j))) wr := hstr
              have hkey := keyS j
              obtain ⟨D, hown, hT, hat, hhas, hsz⟩ := hmt
              obtain ⟨str, hs⟩ : ∃ str, str = bstr (keyL j) := ⟨_, rfl⟩
              rw [← hs] at hstr' hkey
              have Hkey := hide hkey
              have HD := hide (show Tidy D ∧ (∀ i, i < 60 → D.atKey (kLit i) (.lit (.int .i64 0)) = .lit (.int .i64 (cumF f xs t i : Int))) ∧ (∀ i, i < 60 → Maps.has D (kLit i) = decide (0 < cumF f xs t i)) ∧ Maps.size D = numK (fun i => decide (0 < cumF f xs t i)) 60 from ⟨hT, hat, hhas, hsz⟩)
              have Hct := hide hct
              have Hx60 := hide hx60
              have hbd : Hid (cumF f xs t j ≤ 1000) := hide (by
                have h1 := Hfc.out j hx60
                have h2 : totK acts k j ≤ 2 := by unfold totK; split <;> (try split) <;> omega
                have h3 := List.count_le_length (a := j) (l := xs.take t)
                have h4 : (xs.take t).length ≤ t := List.length_take_le _ _
                have := hxm.out
                unfold cumF; omega)
              have htb : (t : Int) ≤ 62 := by have := hxm.out; omega
              clear hs hkey hstr hcr hrd9 hkx hu8r hcell8 hu8' hT hat hhas hsz hct hx60 hj htk
              go_wp2_with (first
                | (at_lookup; refine wpList_lookup_own_int _ rfl _ _ 74 rfl 9 3 .i64 lawS Try.underlying74 Try.underlying3 (zeroI _) mb 60 _ rfl hown _ _ rfl Hkey.out ?_; intro cc hcat hwc)
                | (at_mapUpdate; refine wpList_mapUpdate_own _ rfl _ _ _ 74 rfl 9 3 lawS Try.underlying74 _ mb 60 _ rfl hown (by unfold maxLen; omega) _ _ _ rfl rfl Hkey.out _ [] (plainElem_int Try.underlying3 (wrap64_wf _)) ?_; intro w9 hown9 hgrow9))
              have hcc : cc = (cumF f xs t j : Int) := by
                rw [HD.out.2.1 j Hx60.out] at hcat
                simpa using hcat.symm
              have hb1000 := hbd.out
              have e1 : wrap64 (cc + 1) = ((cumF f xs t j + 1 : Nat) : Int) := by rw [hcc, IntWalk.wrap64_in _ ⟨by omega, by omega⟩]; omega
              rw [e1] at hown9
              have hM9 := MapK.put HD.out.1 HD.out.2.1 HD.out.2.2.1 HD.out.2.2.2 Hx60.out hown9
              have hC9 : Ch (fun z => z = mb) w8 w9 := Hct.out.trans ((Ch.of_grown hgrow9).mono fun z _ hz => by injection hz with hz; exact hz.symm) fun z hz => .inl hz
              clear e1 hcat hown9
              exact ⟨⟨t + 1, by omega, by rw [Int.natCast_succ], hM9.ext fun i hi => (hsucc.out i).symm, hC9⟩, by simp only [intOf]; omega⟩
            · obtain rfl : t = L := by omega
              have hxt : xs.take t = xs := List.take_of_length_le (by rw [← HL.out]; exact Nat.le_refl _)
              have Hmt := hide hmt
              have Hct := hide hct
              clear hmt hct
              go_wp2_with fail
              refine ⟨⟨k + 1, S8, is', cumF f xs t, by omega, by rw [Int.natCast_succ], Hq8.out.keep Hct.out (fun z hz => hz ▸ Hmg.out.2) (fun z hz hz' => HmS8.out (hz' ▸ hz)), HmS8.out, Hmt.out, fun j hj => ?_, hmem.out.1, by have := hlens.out; have := Hil.out; omega⟩, by simp only [intOf]; omega⟩
              have h1 := hcount.out j
              have h2 := Hfc.out j hj
              rw [tot_succ]
              unfold cumF
              rw [hxt]
              omega
        · rw [hh] at hhm Heff
          have Hh := hide hh
          clear hh
          by_cases h1 : kd = 1
          · subst h1
            go_wp2_with fail
            refine hhm.out.mono ?_
            rintro _ w6 ⟨rfl, hb6⟩
            have q0' : w6.cell? ⟨bo, oo + k * 4, none⟩ = some (.int .i64 1) := (hb6.cell (World.block_lt_of_cell? _ _ q0)).trans q0
            go_upto_region 13 with fail
            have hh6 : w6.heap[q]? = some (opO 0 0 0 none ([] : List UInt8).length 0) := (hb6.block q (Array.getElem?_eq_some_iff.1 Hh5.out).1).trans Hh5.out
            have hbr6 : Below wr.heap.size wr w6 := below_t3 Hb5.out Hb5.out.size hb6
            have hB6' := below_t3 Hq.out.bel Hq.out.bel.size hbr6
            obtain ⟨w7, hw7⟩ : ∃ w7, w7 = w6.alloc (.cells #[.int .u8 xb, .int .u8 9] 5) := ⟨_, rfl⟩
            have hb7 : Below w6.heap.size w6 w7 := by rw [hw7]; exact balloc w6 _
            have hb57 := hbr6
            have hb7' := below_t3 hb57 hb57.size hb7
            have hr7 : RdL Kd.byte (fun z => z = w6.heap.size) w7 (some ⟨w6.heap.size, 0, none⟩) (keyL k) := by rw [hw7]; exact key_rd w6 k xb Hxb.out
            have hBs : RdL Kd.byte (fun z => z = w6.heap.size ∨ z < w.heap.size) w7 none [] := RdL.nil
            have hdo := nl_do 0 0 0 none [] 0 (some ⟨w6.heap.size, 0, none⟩) (keyL k) 2 (fun z => z = w6.heap.size ∨ z < w.heap.size) w7 (Hq.out.below hb7') (by simp [keyL]) (by rw [List.length_map]; have := Hil.out; omega) (by decide) (by decide) (by decide) (by decide) (by simp [keyL]) (by unfold maxLen; omega) (fun z hz => by
              have h1 := hb7.size
              have h2 := hB6'.size
              have h3 : w7.heap.size = w6.heap.size + 1 := by rw [hw7]; simp
              rcases hz with hz | hz <;> omega) (hr7.mono fun z hz => .inl hz) hBs
            have hst := doL_step is 0 0 0 [] k (by rfl) (by decide)
            rw [hst] at hdo
            have hlk : (keyL k).length = 2 := rfl
            rw [hlk] at hdo
            have hmb7 : mb < w7.heap.size := by have := Hmap.out.lt; have := hb7'.size; omega
            have hmb6 : mb < w6.heap.size := by have := Hmap.out.lt; have := hb57.size; omega
            have hmap7 := hide (Hmap.out.keep (w' := w7) (hb7'.block mb Hmap.out.lt))
            obtain ⟨is', his'⟩ : ∃ is', is' = (stepI is 0 k).1 := ⟨_, rfl⟩
            obtain ⟨xs, hxs⟩ : ∃ xs, xs = (stepI is 0 k).2 := ⟨_, rfl⟩
            rw [← his', ← hxs] at hdo
            have hcount := hide (show ∀ j, is'.count j + xs.count j = is.count j + if j = k then (if effK acts k = 2 then 2 else 1) else 0 from fun j => by rw [his', hxs, Heff.out]; exact step_count is 0 k j)
            have hmem := hide (show (∀ i ∈ is', i < 60) ∧ ∀ i ∈ xs, i < 60 from by rw [his', hxs]; exact step_mem His.out hk60)
            have hlens := hide (show is'.length ≤ is.length + 1 ∧ xs.length ≤ is.length + 2 from by rw [his', hxs]; exact step_len is 0 k)
            have Hdo := hide hdo
            have HW7 := hide hw7
            obtain ⟨p0, p1, p2, p3⟩ := opO_head hh6
            have Hmb7 := hide hmb7
            have Hb7 := hide hb7'
            clear his' hxs hdo hw7 hb7 hb57 hb7' hr7 hBs hst hlk hmb7 hmb6 hbr6 hB6' hh6 hb6
            go_wp2_with fail
            rw [← HW7.out]
            clear HW7
            refine Hdo.out.mono ?_
            rintro _ w8 ⟨A8, c8, us8, S8, T8, rfl, hq8, hfr8, hch8, hnew8, hout8⟩
            have hm8 : MapK w8 mb f := hmap7.out.keep (hch8.block mb Hmb7.out HmS.out)
            have hmT : ∀ z, (T8 z ∨ (Value.slice A8 (xs.map keyL).length c8).ownBlock = some z) → z ≠ mb := fun z hz e => by
              subst e
              rcases (hout8 z hz).1 with h1 | h1
              · exact HmS.out h1
              · have := Hmb7.out; omega
            have hmS8 : ¬ S8 mb := fun hz => by
              rcases hnew8 mb hz with h1 | h1
              · exact HmS.out h1
              · have := Hmb7.out; omega
            have HmT := hide hmT
            have HTlt := hide (show ∀ z, T8 z → z < w8.heap.size from fun z hz => (hout8 z (.inl hz)).2)
            have HmS8 := hide hmS8
            have Hm8 := hide hm8
            have Hq8 := hide hq8
            have Hrow8 := hide hfr8.row
            have hxl : Hid ((xs.map keyL).length = xs.length) := hide (List.length_map _)
            have hxm : Hid (xs.length ≤ 62) := hide (by have := hlens.out; have := Hil.out; omega)
            clear hq8 hfr8 hch8 hnew8 hout8 hm8 hmT hmS8 Hdo hmap7 p0 p1 p2 p3
            rw [hxl.out] at Hrow8 HmT ⊢
            obtain ⟨L, hL⟩ : ∃ L, L = xs.length := ⟨_, rfl⟩
            rw [← hL] at Hrow8 HmT hxm ⊢
            have HL := hide hL
            clear hL
            go_wp2_with fail
            go_loopw [58] (fun i wr => ∃ t : Nat, t ≤ L ∧ i = .int .i64 (t : Int) ∧ MapK wr mb (cumF f xs t) ∧ Ch (fun z => z = mb) w8 wr) (fun i _ => L - (intOf i).toNat)
            case atStart => exact ⟨0, by omega, rfl, Hm8.out.ext fun j hj => by simp [cumF], Ch.refl w8⟩
            case round =>
              obtain ⟨t, ht, rfl, hmt, hct⟩ := hrel
              by_cases htl : t < L
              · have htx : t < xs.length := by have := HL.out; omega
                have htk : t < (xs.map keyL).length := by rw [List.length_map]; exact htx
                obtain ⟨b8, u8, rfl, hbo8, -, hcell8, hu8'⟩ := Hrow8.out.cell htk
                have hb8m : b8 ≠ mb := HmT.out b8 (.inr hbo8)
                have hcr : wr.cell? ⟨b8, t, none⟩ = some u8 := hct.cell hcell8 hb8m
                have hu8r := Kd.ow.keep (w' := wr) (fun z hz => hct.block z (HTlt.out z hz) (HmT.out z (.inl hz))) hu8'
                obtain ⟨A9, c9, rfl, -, -, hrd9⟩ := ow_shape hu8r
                have hkx : (xs.map keyL)[t] = keyL xs[t] := List.getElem_map ..
                rw [hkx] at hrd9 hcr
                have hx60 := hmem.out.2 xs[t] (List.getElem_mem _)
                obtain ⟨j, hj⟩ : ∃ j, j = xs[t] := ⟨_, rfl⟩
                have hsucc := hide (show ∀ i, cumF f xs (t + 1) i = cumF f xs t i + if i = j then 1 else 0 from fun i => by rw [hj]; exact cumF_succ f xs t htx i)
                rw [← hj] at hrd9 hcr hx60
                have hstr := run_str (P := Try.prog) (w := wr) Try.underlying57 Try.underlying5 Try.underlying9 hrd9.srcB c9
                have hcr' : wr.cell? ⟨b8, t, none⟩ = some (.slice A9 2 c9) := hcr
                have hstr' : (convert 57 9 (.slice A9 2 c9)).run Try.prog wr = .ok (.string (bstr (keyL j))) wr := hstr
                have hkey := keyS j
                obtain ⟨D, hown, hT, hat, hhas, hsz⟩ := hmt
                obtain ⟨str, hs⟩ : ∃ str, str = bstr (keyL j) := ⟨_, rfl⟩
                rw [← hs] at hstr' hkey
                have Hkey := hide hkey
                have HD := hide (show Tidy D ∧ (∀ i, i < 60 → D.atKey (kLit i) (.lit (.int .i64 0)) = .lit (.int .i64 (cumF f xs t i : Int))) ∧ (∀ i, i < 60 → Maps.has D (kLit i) = decide (0 < cumF f xs t i)) ∧ Maps.size D = numK (fun i => decide (0 < cumF f xs t i)) 60 from ⟨hT, hat, hhas, hsz⟩)
                have Hct := hide hct
                have Hx60 := hide hx60
                have hbd : Hid (cumF f xs t j ≤ 1000) := hide (by
                  have h1 := Hfc.out j hx60
                  have h2 : totK acts k j ≤ 2 := by unfold totK; split <;> (try split) <;> omega
                  have h3 := List.count_le_length (a := j) (l := xs.take t)
                  have h4 : (xs.take t).length ≤ t := List.length_take_le _ _
                  have := hxm.out
                  unfold cumF; omega)
                have htb : (t : Int) ≤ 62 := by have := hxm.out; omega
                clear hs hkey hstr hcr hrd9 hkx hu8r hcell8 hu8' hT hat hhas hsz hct hx60 hj htk
                go_wp2_with (first
                  | (at_lookup; refine wpList_lookup_own_int _ rfl _ _ 74 rfl 9 3 .i64 lawS Try.underlying74 Try.underlying3 (zeroI _) mb 60 _ rfl hown _ _ rfl Hkey.out ?_; intro cc hcat hwc)
                  | (at_mapUpdate; refine wpList_mapUpdate_own _ rfl _ _ _ 74 rfl 9 3 lawS Try.underlying74 _ mb 60 _ rfl hown (by unfold maxLen; omega) _ _ _ rfl rfl Hkey.out _ [] (plainElem_int Try.underlying3 (wrap64_wf _)) ?_; intro w9 hown9 hgrow9))
                have hcc : cc = (cumF f xs t j : Int) := by
                  rw [HD.out.2.1 j Hx60.out] at hcat
                  simpa using hcat.symm
                have hb1000 := hbd.out
                have e1 : wrap64 (cc + 1) = ((cumF f xs t j + 1 : Nat) : Int) := by rw [hcc, IntWalk.wrap64_in _ ⟨by omega, by omega⟩]; omega
                rw [e1] at hown9
                have hM9 := MapK.put HD.out.1 HD.out.2.1 HD.out.2.2.1 HD.out.2.2.2 Hx60.out hown9
                have hC9 : Ch (fun z => z = mb) w8 w9 := Hct.out.trans ((Ch.of_grown hgrow9).mono fun z _ hz => by injection hz with hz; exact hz.symm) fun z hz => .inl hz
                clear e1 hcat hown9
                exact ⟨⟨t + 1, by omega, by rw [Int.natCast_succ], hM9.ext fun i hi => (hsucc.out i).symm, hC9⟩, by simp only [intOf]; omega⟩
              · obtain rfl : t = L := by omega
                have hxt : xs.take t = xs := List.take_of_length_le (by rw [← HL.out]; exact Nat.le_refl _)
                have Hmt := hide hmt
                have Hct := hide hct
                clear hmt hct
                go_wp2_with fail
                refine ⟨⟨k + 1, S8, is', cumF f xs t, by omega, by rw [Int.natCast_succ], Hq8.out.keep Hct.out (fun z hz => hz ▸ Hmg.out.2) (fun z hz hz' => HmS8.out (hz' ▸ hz)), HmS8.out, Hmt.out, fun j hj => ?_, hmem.out.1, by have := hlens.out; have := Hil.out; omega⟩, by simp only [intOf]; omega⟩
                have h1 := hcount.out j
                have h2 := Hfc.out j hj
                rw [tot_succ]
                unfold cumF
                rw [hxt]
                omega
          · have h1' : (kd != 1) = true := by simpa using h1
            have hq6l : q < w5.heap.size := (Array.getElem?_eq_some_iff.1 Hh5.out).1
            have Hq6l := hide hq6l
            have H1 := hide h1
            clear h1 hq6l
            go_wp2_with fail
            refine hhm.out.mono ?_
            rintro _ w6x ⟨rfl, hb6x⟩
            have q0' : w6x.cell? ⟨bo, oo + k * 4, none⟩ = some (.int .i64 kd) := (hb6x.cell (World.block_lt_of_cell? _ _ q0)).trans q0
            have q1' : w6x.cell? ⟨bo, oo + k * 4 + 1, none⟩ = some (.int .i64 po) := (hb6x.cell (World.block_lt_of_cell? _ _ q1)).trans q1
            have q2' : w6x.cell? ⟨bo, oo + k * 4 + 2, none⟩ = some (.int .u32 (mo.toNat : Int)) := (hb6x.cell (World.block_lt_of_cell? _ _ q2)).trans q2
            have q3' : w6x.cell? ⟨bo, oo + k * 4 + 3, none⟩ = some (.slice Bo bso.length co) := (hb6x.cell (World.block_lt_of_cell? _ _ q3)).trans q3
            have hhx : w6x.heap[q]? = some (opO 0 0 0 none 0 0) := (hb6x.block q Hq6l.out).trans Hh5.out
            obtain ⟨z0, z1, z2, z3⟩ := opO_head hhx
            have fz0 : w6x.frozen? ⟨q, 0, none⟩ = false := by simp [World.frozen?, hhx]
            have fz1 : w6x.frozen? ⟨q, 1, none⟩ = false := by simp [World.frozen?, hhx]
            have fz2 : w6x.frozen? ⟨q, 2, none⟩ = false := by simp [World.frozen?, hhx]
            have fz3 : w6x.frozen? ⟨q, 3, none⟩ = false := by simp [World.frozen?, hhx]
            have Hhx := hide hhx
            have Hb6x := hide hb6x
            clear hhx hb6x
            go_upto_region 13 with fail
            obtain ⟨w6, hw6⟩ : ∃ w6, w6 = ((((w6x.setCell ⟨q, 0, none⟩ (.int .i64 kd)).setCell ⟨q, 1, none⟩ (.int .i64 po)).setCell ⟨q, 2, none⟩ (.int .u32 (mo.toNat : Int))).setCell ⟨q, 3, none⟩ (.slice Bo bso.length co)) := ⟨_, rfl⟩
            have Hh6x := hide (show w6.heap[q]? = some (opO kd po mo Bo bso.length co) from hw6 ▸ op_store Hhx.out)
            have Hbr6 := hide (show Below wr.heap.size wr w6 from by
              have h1 := below_t3 Hb5.out Hb5.out.size Hb6x.out
              have hq : wr.heap.size ≤ q := by have := Hqq.out; omega
              rw [hw6]
              exact (((h1.setCell (p := ⟨q, 0, none⟩) hq _).setCell (p := ⟨q, 1, none⟩) hq _).setCell (p := ⟨q, 2, none⟩) hq _).setCell (p := ⟨q, 3, none⟩) hq _)
            have hb6 : True := trivial
            have Hbl : Hid (kd = 7 → bso.length ≤ 1000) := hide fun e => by subst e; exact absurd Hh.out (by decide)
            have Heff := hide (show effK acts k = kd by rw [Heff.out]; simp [H1.out])
            rw [← hw6]
            clear hw6 q0 q1 q2 q3 q0' q1' q2' q3' z0 z1 z2 z3 fz0 fz1 fz2 fz3
            have hh6 : w6.heap[q]? = some (opO kd po mo Bo (bso : List UInt8).length co) := Hh6x.out
            have hbr6 : Below wr.heap.size wr w6 := Hbr6.out
            have hB6' := below_t3 Hq.out.bel Hq.out.bel.size hbr6
            obtain ⟨w7, hw7⟩ : ∃ w7, w7 = w6.alloc (.cells #[.int .u8 xb, .int .u8 9] 5) := ⟨_, rfl⟩
            have hb7 : Below w6.heap.size w6 w7 := by rw [hw7]; exact balloc w6 _
            have hb57 := hbr6
            have hb7' := below_t3 hb57 hb57.size hb7
            have hr7 : RdL Kd.byte (fun z => z = w6.heap.size) w7 (some ⟨w6.heap.size, 0, none⟩) (keyL k) := by rw [hw7]; exact key_rd w6 k xb Hxb.out
            have hBs : RdL Kd.byte (fun z => z = w6.heap.size ∨ z < w.heap.size) w7 Bo bso := ((Hro.out.below hB6').keep fun z hz => hb7.block z (by have := hB6'.size; omega)).mono fun z hz => .inr hz
            have hdo := nl_do kd po mo Bo bso co (some ⟨w6.heap.size, 0, none⟩) (keyL k) 2 (fun z => z = w6.heap.size ∨ z < w.heap.size) w7 (Hq.out.below hb7') (by simp [keyL]) (by rw [List.length_map]; have := Hil.out; omega) Hbl.out Hwp.out Hlo.out Hco.out (by simp [keyL]) (by unfold maxLen; omega) (fun z hz => by
              have h1 := hb7.size
              have h2 := hB6'.size
              have h3 : w7.heap.size = w6.heap.size + 1 := by rw [hw7]; simp
              rcases hz with hz | hz <;> omega) (hr7.mono fun z hz => .inl hz) hBs
            have hst := doL_step is kd po mo bso k Hh.out H1.out
            rw [hst] at hdo
            have hlk : (keyL k).length = 2 := rfl
            rw [hlk] at hdo
            have hmb7 : mb < w7.heap.size := by have := Hmap.out.lt; have := hb7'.size; omega
            have hmb6 : mb < w6.heap.size := by have := Hmap.out.lt; have := hb57.size; omega
            have hmap7 := hide (Hmap.out.keep (w' := w7) (hb7'.block mb Hmap.out.lt))
            obtain ⟨is', his'⟩ : ∃ is', is' = (stepI is kd k).1 := ⟨_, rfl⟩
            obtain ⟨xs, hxs⟩ : ∃ xs, xs = (stepI is kd k).2 := ⟨_, rfl⟩
            rw [← his', ← hxs] at hdo
            have hcount := hide (show ∀ j, is'.count j + xs.count j = is.count j + if j = k then (if effK acts k = 2 then 2 else 1) else 0 from fun j => by rw [his', hxs, Heff.out]; exact step_count is kd k j)
            have hmem := hide (show (∀ i ∈ is', i < 60) ∧ ∀ i ∈ xs, i < 60 from by rw [his', hxs]; exact step_mem His.out hk60)
            have hlens := hide (show is'.length ≤ is.length + 1 ∧ xs.length ≤ is.length + 2 from by rw [his', hxs]; exact step_len is kd k)
            have Hdo := hide hdo
            have HW7 := hide hw7
            obtain ⟨p0, p1, p2, p3⟩ := opO_head hh6
            have Hmb7 := hide hmb7
            have Hb7 := hide hb7'
            clear his' hxs hdo hw7 hb7 hb57 hb7' hr7 hBs hst hlk hmb7 hmb6 hbr6 hB6' hh6 hb6
            go_wp2_with fail
            rw [← HW7.out]
            clear HW7
            refine Hdo.out.mono ?_
            rintro _ w8 ⟨A8, c8, us8, S8, T8, rfl, hq8, hfr8, hch8, hnew8, hout8⟩
            have hm8 : MapK w8 mb f := hmap7.out.keep (hch8.block mb Hmb7.out HmS.out)
            have hmT : ∀ z, (T8 z ∨ (Value.slice A8 (xs.map keyL).length c8).ownBlock = some z) → z ≠ mb := fun z hz e => by
              subst e
              rcases (hout8 z hz).1 with h1 | h1
              · exact HmS.out h1
              · have := Hmb7.out; omega
            have hmS8 : ¬ S8 mb := fun hz => by
              rcases hnew8 mb hz with h1 | h1
              · exact HmS.out h1
              · have := Hmb7.out; omega
            have HmT := hide hmT
            have HTlt := hide (show ∀ z, T8 z → z < w8.heap.size from fun z hz => (hout8 z (.inl hz)).2)
            have HmS8 := hide hmS8
            have Hm8 := hide hm8
            have Hq8 := hide hq8
            have Hrow8 := hide hfr8.row
            have hxl : Hid ((xs.map keyL).length = xs.length) := hide (List.length_map _)
            have hxm : Hid (xs.length ≤ 62) := hide (by have := hlens.out; have := Hil.out; omega)
            clear hq8 hfr8 hch8 hnew8 hout8 hm8 hmT hmS8 Hdo hmap7 p0 p1 p2 p3
            rw [hxl.out] at Hrow8 HmT ⊢
            obtain ⟨L, hL⟩ : ∃ L, L = xs.length := ⟨_, rfl⟩
            rw [← hL] at Hrow8 HmT hxm ⊢
            have HL := hide hL
            clear hL
            go_wp2_with fail
            go_loopw [58] (fun i wr => ∃ t : Nat, t ≤ L ∧ i = .int .i64 (t : Int) ∧ MapK wr mb (cumF f xs t) ∧ Ch (fun z => z = mb) w8 wr) (fun i _ => L - (intOf i).toNat)
            case atStart => exact ⟨0, by omega, rfl, Hm8.out.ext fun j hj => by simp [cumF], Ch.refl w8⟩
            case round =>
              obtain ⟨t, ht, rfl, hmt, hct⟩ := hrel
              by_cases htl : t < L
              · have htx : t < xs.length := by have := HL.out; omega
                have htk : t < (xs.map keyL).length := by rw [List.length_map]; exact htx
                obtain ⟨b8, u8, rfl, hbo8, -, hcell8, hu8'⟩ := Hrow8.out.cell htk
                have hb8m : b8 ≠ mb := HmT.out b8 (.inr hbo8)
                have hcr : wr.cell? ⟨b8, t, none⟩ = some u8 := hct.cell hcell8 hb8m
                have hu8r := Kd.ow.keep (w' := wr) (fun z hz => hct.block z (HTlt.out z hz) (HmT.out z (.inl hz))) hu8'
                obtain ⟨A9, c9, rfl, -, -, hrd9⟩ := ow_shape hu8r
                have hkx : (xs.map keyL)[t] = keyL xs[t] := List.getElem_map ..
                rw [hkx] at hrd9 hcr
                have hx60 := hmem.out.2 xs[t] (List.getElem_mem _)
                obtain ⟨j, hj⟩ : ∃ j, j = xs[t] := ⟨_, rfl⟩
                have hsucc := hide (show ∀ i, cumF f xs (t + 1) i = cumF f xs t i + if i = j then 1 else 0 from fun i => by rw [hj]; exact cumF_succ f xs t htx i)
                rw [← hj] at hrd9 hcr hx60
                have hstr := run_str (P := Try.prog) (w := wr) Try.underlying57 Try.underlying5 Try.underlying9 hrd9.srcB c9
                have hcr' : wr.cell? ⟨b8, t, none⟩ = some (.slice A9 2 c9) := hcr
                have hstr' : (convert 57 9 (.slice A9 2 c9)).run Try.prog wr = .ok (.string (bstr (keyL j))) wr := hstr
                have hkey := keyS j
                obtain ⟨D, hown, hT, hat, hhas, hsz⟩ := hmt
                obtain ⟨str, hs⟩ : ∃ str, str = bstr (keyL j) := ⟨_, rfl⟩
                rw [← hs] at hstr' hkey
                have Hkey := hide hkey
                have HD := hide (show Tidy D ∧ (∀ i, i < 60 → D.atKey (kLit i) (.lit (.int .i64 0)) = .lit (.int .i64 (cumF f xs t i : Int))) ∧ (∀ i, i < 60 → Maps.has D (kLit i) = decide (0 < cumF f xs t i)) ∧ Maps.size D = numK (fun i => decide (0 < cumF f xs t i)) 60 from ⟨hT, hat, hhas, hsz⟩)
                have Hct := hide hct
                have Hx60 := hide hx60
                have hbd : Hid (cumF f xs t j ≤ 1000) := hide (by
                  have h1 := Hfc.out j hx60
                  have h2 : totK acts k j ≤ 2 := by unfold totK; split <;> (try split) <;> omega
                  have h3 := List.count_le_length (a := j) (l := xs.take t)
                  have h4 : (xs.take t).length ≤ t := List.length_take_le _ _
                  have := hxm.out
                  unfold cumF; omega)
                have htb : (t : Int) ≤ 62 := by have := hxm.out; omega
                clear hs hkey hstr hcr hrd9 hkx hu8r hcell8 hu8' hT hat hhas hsz hct hx60 hj htk
                go_wp2_with (first
                  | (at_lookup; refine wpList_lookup_own_int _ rfl _ _ 74 rfl 9 3 .i64 lawS Try.underlying74 Try.underlying3 (zeroI _) mb 60 _ rfl hown _ _ rfl Hkey.out ?_; intro cc hcat hwc)
                  | (at_mapUpdate; refine wpList_mapUpdate_own _ rfl _ _ _ 74 rfl 9 3 lawS Try.underlying74 _ mb 60 _ rfl hown (by unfold maxLen; omega) _ _ _ rfl rfl Hkey.out _ [] (plainElem_int Try.underlying3 (wrap64_wf _)) ?_; intro w9 hown9 hgrow9))
                have hcc : cc = (cumF f xs t j : Int) := by
                  rw [HD.out.2.1 j Hx60.out] at hcat
                  simpa using hcat.symm
                have hb1000 := hbd.out
                have e1 : wrap64 (cc + 1) = ((cumF f xs t j + 1 : Nat) : Int) := by rw [hcc, IntWalk.wrap64_in _ ⟨by omega, by omega⟩]; omega
                rw [e1] at hown9
                have hM9 := MapK.put HD.out.1 HD.out.2.1 HD.out.2.2.1 HD.out.2.2.2 Hx60.out hown9
                have hC9 : Ch (fun z => z = mb) w8 w9 := Hct.out.trans ((Ch.of_grown hgrow9).mono fun z _ hz => by injection hz with hz; exact hz.symm) fun z hz => .inl hz
                clear e1 hcat hown9
                exact ⟨⟨t + 1, by omega, by rw [Int.natCast_succ], hM9.ext fun i hi => (hsucc.out i).symm, hC9⟩, by simp only [intOf]; omega⟩
              · obtain rfl : t = L := by omega
                have hxt : xs.take t = xs := List.take_of_length_le (by rw [← HL.out]; exact Nat.le_refl _)
                have Hmt := hide hmt
                have Hct := hide hct
                clear hmt hct
                go_wp2_with fail
                refine ⟨⟨k + 1, S8, is', cumF f xs t, by omega, by rw [Int.natCast_succ], Hq8.out.keep Hct.out (fun z hz => hz ▸ Hmg.out.2) (fun z hz hz' => HmS8.out (hz' ▸ hz)), HmS8.out, Hmt.out, fun j hj => ?_, hmem.out.1, by have := hlens.out; have := Hil.out; omega⟩, by simp only [intOf]; omega⟩
                have h1 := hcount.out j
                have h2 := Hfc.out j hj
                rw [tot_succ]
                unfold cumF
                rw [hxt]
                omega
      · have hkN' : ¬ ((k : Int) < (N : Int)) := by omega
        have Heff : Hid (effK acts k = 0) := hide (by unfold effK; rw [List.getElem?_eq_none (by rw [← HN.out]; omega)]; rfl)
        obtain ⟨w6, hw6⟩ : ∃ w6, w6 = w5 := ⟨_, rfl⟩
        have hb6 : Below w5.heap.size w5 w6 := by rw [hw6]; exact Below.refl _ _
        go_upto_region 13 with fail
        rw [← hw6]
        clear hw6
        have hh6 : w6.heap[q]? = some (opO 0 0 0 none ([] : List UInt8).length 0) := (hb6.block q (Array.getElem?_eq_some_iff.1 Hh5.out).1).trans Hh5.out
        have hbr6 : Below wr.heap.size wr w6 := below_t3 Hb5.out Hb5.out.size hb6
        have hB6' := below_t3 Hq.out.bel Hq.out.bel.size hbr6
        obtain ⟨w7, hw7⟩ : ∃ w7, w7 = w6.alloc (.cells #[.int .u8 xb, .int .u8 9] 5) := ⟨_, rfl⟩
        have hb7 : Below w6.heap.size w6 w7 := by rw [hw7]; exact balloc w6 _
        have hb57 := hbr6
        have hb7' := below_t3 hb57 hb57.size hb7
        have hr7 : RdL Kd.byte (fun z => z = w6.heap.size) w7 (some ⟨w6.heap.size, 0, none⟩) (keyL k) := by rw [hw7]; exact key_rd w6 k xb Hxb.out
        have hBs : RdL Kd.byte (fun z => z = w6.heap.size ∨ z < w.heap.size) w7 none [] := RdL.nil
        have hdo := nl_do 0 0 0 none [] 0 (some ⟨w6.heap.size, 0, none⟩) (keyL k) 2 (fun z => z = w6.heap.size ∨ z < w.heap.size) w7 (Hq.out.below hb7') (by simp [keyL]) (by rw [List.length_map]; have := Hil.out; omega) (by decide) (by decide) (by decide) (by decide) (by simp [keyL]) (by unfold maxLen; omega) (fun z hz => by
          have h1 := hb7.size
          have h2 := hB6'.size
          have h3 : w7.heap.size = w6.heap.size + 1 := by rw [hw7]; simp
          rcases hz with hz | hz <;> omega) (hr7.mono fun z hz => .inl hz) hBs
        have hst := doL_step is 0 0 0 [] k (by rfl) (by decide)
        rw [hst] at hdo
        have hlk : (keyL k).length = 2 := rfl
        rw [hlk] at hdo
        have hmb7 : mb < w7.heap.size := by have := Hmap.out.lt; have := hb7'.size; omega
        have hmb6 : mb < w6.heap.size := by have := Hmap.out.lt; have := hb57.size; omega
        have hmap7 := hide (Hmap.out.keep (w' := w7) (hb7'.block mb Hmap.out.lt))
        obtain ⟨is', his'⟩ : ∃ is', is' = (stepI is 0 k).1 := ⟨_, rfl⟩
        obtain ⟨xs, hxs⟩ : ∃ xs, xs = (stepI is 0 k).2 := ⟨_, rfl⟩
        rw [← his', ← hxs] at hdo
        have hcount := hide (show ∀ j, is'.count j + xs.count j = is.count j + if j = k then (if effK acts k = 2 then 2 else 1) else 0 from fun j => by rw [his', hxs, Heff.out]; exact step_count is 0 k j)
        have hmem := hide (show (∀ i ∈ is', i < 60) ∧ ∀ i ∈ xs, i < 60 from by rw [his', hxs]; exact step_mem His.out hk60)
        have hlens := hide (show is'.length ≤ is.length + 1 ∧ xs.length ≤ is.length + 2 from by rw [his', hxs]; exact step_len is 0 k)
        have Hdo := hide hdo
        have HW7 := hide hw7
        obtain ⟨p0, p1, p2, p3⟩ := opO_head hh6
        have Hmb7 := hide hmb7
        have Hb7 := hide hb7'
        clear his' hxs hdo hw7 hb7 hb57 hb7' hr7 hBs hst hlk hmb7 hmb6 hbr6 hB6' hh6 hb6
        go_wp2_with fail
        rw [← HW7.out]
        clear HW7
        refine Hdo.out.mono ?_
        rintro _ w8 ⟨A8, c8, us8, S8, T8, rfl, hq8, hfr8, hch8, hnew8, hout8⟩
        have hm8 : MapK w8 mb f := hmap7.out.keep (hch8.block mb Hmb7.out HmS.out)
        have hmT : ∀ z, (T8 z ∨ (Value.slice A8 (xs.map keyL).length c8).ownBlock = some z) → z ≠ mb := fun z hz e => by
          subst e
          rcases (hout8 z hz).1 with h1 | h1
          · exact HmS.out h1
          · have := Hmb7.out; omega
        have hmS8 : ¬ S8 mb := fun hz => by
          rcases hnew8 mb hz with h1 | h1
          · exact HmS.out h1
          · have := Hmb7.out; omega
        have HmT := hide hmT
        have HTlt := hide (show ∀ z, T8 z → z < w8.heap.size from fun z hz => (hout8 z (.inl hz)).2)
        have HmS8 := hide hmS8
        have Hm8 := hide hm8
        have Hq8 := hide hq8
        have Hrow8 := hide hfr8.row
        have hxl : Hid ((xs.map keyL).length = xs.length) := hide (List.length_map _)
        have hxm : Hid (xs.length ≤ 62) := hide (by have := hlens.out; have := Hil.out; omega)
        clear hq8 hfr8 hch8 hnew8 hout8 hm8 hmT hmS8 Hdo hmap7 p0 p1 p2 p3
        rw [hxl.out] at Hrow8 HmT ⊢
        obtain ⟨L, hL⟩ : ∃ L, L = xs.length := ⟨_, rfl⟩
        rw [← hL] at Hrow8 HmT hxm ⊢
        have HL := hide hL
        clear hL
        go_wp2_with fail
        go_loopw [58] (fun i wr => ∃ t : Nat, t ≤ L ∧ i = .int .i64 (t : Int) ∧ MapK wr mb (cumF f xs t) ∧ Ch (fun z => z = mb) w8 wr) (fun i _ => L - (intOf i).toNat)
        case atStart => exact ⟨0, by omega, rfl, Hm8.out.ext fun j hj => by simp [cumF], Ch.refl w8⟩
        case round =>
          obtain ⟨t, ht, rfl, hmt, hct⟩ := hrel
          by_cases htl : t < L
          · have htx : t < xs.length := by have := HL.out; omega
            have htk : t < (xs.map keyL).length := by rw [List.length_map]; exact htx
            obtain ⟨b8, u8, rfl, hbo8, -, hcell8, hu8'⟩ := Hrow8.out.cell htk
            have hb8m : b8 ≠ mb := HmT.out b8 (.inr hbo8)
            have hcr : wr.cell? ⟨b8, t, none⟩ = some u8 := hct.cell hcell8 hb8m
            have hu8r := Kd.ow.keep (w' := wr) (fun z hz => hct.block z (HTlt.out z hz) (HmT.out z (.inl hz))) hu8'
            obtain ⟨A9, c9, rfl, -, -, hrd9⟩ := ow_shape hu8r
            have hkx : (xs.map keyL)[t] = keyL xs[t] := List.getElem_map ..
            rw [hkx] at hrd9 hcr
            have hx60 := hmem.out.2 xs[t] (List.getElem_mem _)
            obtain ⟨j, hj⟩ : ∃ j, j = xs[t] := ⟨_, rfl⟩
            have hsucc := hide (show ∀ i, cumF f xs (t + 1) i = cumF f xs t i + if i = j then 1 else 0 from fun i => by rw [hj]; exact cumF_succ f xs t htx i)
            rw [← hj] at hrd9 hcr hx60
            have hstr := run_str (P := Try.prog) (w := wr) Try.underlying57 Try.underlying5 Try.underlying9 hrd9.srcB c9
            have hcr' : wr.cell? ⟨b8, t, none⟩ = some (.slice A9 2 c9) := hcr
            have hstr' : (convert 57 9 (.slice A9 2 c9)).run Try.prog wr = .ok (.string (bstr (keyL j))) wr := hstr
            have hkey := keyS j
            obtain ⟨D, hown, hT, hat, hhas, hsz⟩ := hmt
            obtain ⟨str, hs⟩ : ∃ str, str = bstr (keyL j) := ⟨_, rfl⟩
            rw [← hs] at hstr' hkey
            have Hkey := hide hkey
            have HD := hide (show Tidy D ∧ (∀ i, i < 60 → D.atKey (kLit i) (.lit (.int .i64 0)) = .lit (.int .i64 (cumF f xs t i : Int))) ∧ (∀ i, i < 60 → Maps.has D (kLit i) = decide (0 < cumF f xs t i)) ∧ Maps.size D = numK (fun i => decide (0 < cumF f xs t i)) 60 from ⟨hT, hat, hhas, hsz⟩)
            have Hct := hide hct
            have Hx60 := hide hx60
            have hbd : Hid (cumF f xs t j ≤ 1000) := hide (by
              have h1 := Hfc.out j hx60
              have h2 : totK acts k j ≤ 2 := by unfold totK; split <;> (try split) <;> omega
              have h3 := List.count_le_length (a := j) (l := xs.take t)
              have h4 : (xs.take t).length ≤ t := List.length_take_le _ _
              have := hxm.out
              unfold cumF; omega)
            have htb : (t : Int) ≤ 62 := by have := hxm.out; omega
            clear hs hkey hstr hcr hrd9 hkx hu8r hcell8 hu8' hT hat hhas hsz hct hx60 hj htk
            go_wp2_with (first
              | (at_lookup; refine wpList_lookup_own_int _ rfl _ _ 74 rfl 9 3 .i64 lawS Try.underlying74 Try.underlying3 (zeroI _) mb 60 _ rfl hown _ _ rfl Hkey.out ?_; intro cc hcat hwc)
              | (at_mapUpdate; refine wpList_mapUpdate_own _ rfl _ _ _ 74 rfl 9 3 lawS Try.underlying74 _ mb 60 _ rfl hown (by unfold maxLen; omega) _ _ _ rfl rfl Hkey.out _ [] (plainElem_int Try.underlying3 (wrap64_wf _)) ?_; intro w9 hown9 hgrow9))
            have hcc : cc = (cumF f xs t j : Int) := by
              rw [HD.out.2.1 j Hx60.out] at hcat
              simpa using hcat.symm
            have hb1000 := hbd.out
            have e1 : wrap64 (cc + 1) = ((cumF f xs t j + 1 : Nat) : Int) := by rw [hcc, IntWalk.wrap64_in _ ⟨by omega, by omega⟩]; omega
            rw [e1] at hown9
            have hM9 := MapK.put HD.out.1 HD.out.2.1 HD.out.2.2.1 HD.out.2.2.2 Hx60.out hown9
            have hC9 : Ch (fun z => z = mb) w8 w9 := Hct.out.trans ((Ch.of_grown hgrow9).mono fun z _ hz => by injection hz with hz; exact hz.symm) fun z hz => .inl hz
            clear e1 hcat hown9
            exact ⟨⟨t + 1, by omega, by rw [Int.natCast_succ], hM9.ext fun i hi => (hsucc.out i).symm, hC9⟩, by simp only [intOf]; omega⟩
          · obtain rfl : t = L := by omega
            have hxt : xs.take t = xs := List.take_of_length_le (by rw [← HL.out]; exact Nat.le_refl _)
            have Hmt := hide hmt
            have Hct := hide hct
            clear hmt hct
            go_wp2_with fail
            refine ⟨⟨k + 1, S8, is', cumF f xs t, by omega, by rw [Int.natCast_succ], Hq8.out.keep Hct.out (fun z hz => hz ▸ Hmg.out.2) (fun z hz hz' => HmS8.out (hz' ▸ hz)), HmS8.out, Hmt.out, fun j hj => ?_, hmem.out.1, by have := hlens.out; have := Hil.out; omega⟩, by simp only [intOf]; omega⟩
            have h1 := hcount.out j
            have h2 := Hfc.out j hj
            rw [tot_succ]
            unfold cumF
            rw [hxt]
            omega
    · obtain rfl : k = M := by omega
      have hHl : (is.map keyL).length = is.length := List.length_map _
      have hrev : (is.map keyL).reverse = is.reverse.map keyL := List.map_reverse.symm
      have hfl := hide (flush_calls hq.ns (by rw [hHl]; omega))
      have hm8' := hide hmap
      have HmS := hide hmS
      have Hq := hide hq
      have Hmlt := hide hmap.lt
      have hmem := hide his
      have Hfc := hide hfc
      have Hil := hide hil
      clear hq hmap hfc his hmS hil hHl
      go_wp2_with fail
      refine hfl.out.mono ?_
      rintro _ w8 ⟨r8, us8, T8, rfl, hcm8, hch8, ho8⟩
      rw [hrev] at hcm8
      obtain ⟨xs, hxs⟩ : ∃ xs, xs = is.reverse := ⟨_, rfl⟩
      rw [← hxs] at hcm8
      obtain ⟨A8, c8, rfl, -, -⟩ := hcm8.row.shape
      have hm8 : MapK w8 mb f := hm8'.out.keep (hch8.block mb Hmlt.out Hmg.out.1)
      have hmT : ∀ z, (T8 z ∨ (Value.slice A8 (xs.map keyL).length c8).ownBlock = some z) → z ≠ mb := fun z hz e => by
        subst e
        rcases (hcm8.out z hz).2.1 with h1 | h1
        · exact HmS.out h1
        · have := Hmlt.out; omega
      have HmT := hide hmT
      have HTlt := hide (show ∀ z, T8 z → z < w8.heap.size from fun z hz => (hcm8.out z (.inl hz)).2.2)
      have Hm8 := hide hm8
      have Hrow8 := hide hcm8.row
      have HB8 := hide (show Below w.heap.size w w8 from hch8.below Hq.out.bel Hq.out.bel.size fun z hz => by
        subst hz
        obtain ⟨_, _, _, hna⟩ := Hq.out.ns
        exact Hq.out.ge _ hna.sg)
      have hxl : Hid ((xs.map keyL).length = xs.length) := hide (List.length_map _)
      have hxm : Hid (xs.length ≤ 62) := hide (by rw [hxs, List.length_reverse]; have := Hil.out; omega)
      have hx60a : Hid (∀ i ∈ xs, i < 60) := hide (by rw [hxs]; intro i hi; exact hmem.out i (List.mem_reverse.1 hi))
      have hxc : Hid (∀ j, xs.count j = is.count j) := hide (by intro j; rw [hxs, List.count_reverse])
      clear hcm8 hch8 ho8 hm8 hmT hfl hrev hxs
      rw [hxl.out] at Hrow8 HmT ⊢
      obtain ⟨L, hL⟩ : ∃ L, L = xs.length := ⟨_, rfl⟩
      rw [← hL] at Hrow8 HmT hxm ⊢
      have HL := hide hL
      clear hL
      go_wp2_with fail
      go_loopw [71] (fun i wr => ∃ t : Nat, t ≤ L ∧ i = .int .i64 (t : Int) ∧ MapK wr mb (cumF f xs t) ∧ Ch (fun z => z = mb) w8 wr) (fun i _ => L - (intOf i).toNat)
      case atStart => exact ⟨0, by omega, rfl, Hm8.out.ext fun j hj => by simp [cumF], Ch.refl w8⟩
      case round =>
        obtain ⟨t, ht, rfl, hmt, hct⟩ := hrel
        by_cases htl : t < L
        · have htx : t < xs.length := by have := HL.out; omega
          have htk : t < (xs.map keyL).length := by rw [List.length_map]; exact htx
          obtain ⟨b8, u8, rfl, hbo8, -, hcell8, hu8'⟩ := Hrow8.out.cell htk
          have hb8m : b8 ≠ mb := HmT.out b8 (.inr hbo8)
          have hcr : wr.cell? ⟨b8, t, none⟩ = some u8 := hct.cell hcell8 hb8m
          have hu8r := Kd.ow.keep (w' := wr) (fun z hz => hct.block z (HTlt.out z hz) (HmT.out z (.inl hz))) hu8'
          obtain ⟨A9, c9, rfl, -, -, hrd9⟩ := ow_shape hu8r
          have hkx : (xs.map keyL)[t] = keyL xs[t] := List.getElem_map ..
          rw [hkx] at hrd9 hcr
          have hx60 := hx60a.out xs[t] (List.getElem_mem _)
          obtain ⟨j, hj⟩ : ∃ j, j = xs[t] := ⟨_, rfl⟩
          have hsucc := hide (show ∀ i, cumF f xs (t + 1) i = cumF f xs t i + if i = j then 1 else 0 from fun i => by rw [hj]; exact cumF_succ f xs t htx i)
          rw [← hj] at hrd9 hcr hx60
          have hstr := run_str (P := Try.prog) (w := wr) Try.underlying57 Try.underlying5 Try.underlying9 hrd9.srcB c9
          have hcr' : wr.cell? ⟨b8, t, none⟩ = some (.slice A9 2 c9) := hcr
          have hstr' : (convert 57 9 (.slice A9 2 c9)).run Try.prog wr = .ok (.string (bstr (keyL j))) wr := hstr
          have hkey := keyS j
          obtain ⟨D, hown, hT, hat, hhas, hsz⟩ := hmt
          obtain ⟨str, hs⟩ : ∃ str, str = bstr (keyL j) := ⟨_, rfl⟩
          rw [← hs] at hstr' hkey
          have Hkey := hide hkey
          have HD := hide (show Tidy D ∧ (∀ i, i < 60 → D.atKey (kLit i) (.lit (.int .i64 0)) = .lit (.int .i64 (cumF f xs t i : Int))) ∧ (∀ i, i < 60 → Maps.has D (kLit i) = decide (0 < cumF f xs t i)) ∧ Maps.size D = numK (fun i => decide (0 < cumF f xs t i)) 60 from ⟨hT, hat, hhas, hsz⟩)
          have Hct := hide hct
          have Hx60 := hide hx60
          have hbd : Hid (cumF f xs t j ≤ 1000) := hide (by
            have h1 := Hfc.out j hx60
            have h2 : totK acts k j ≤ 2 := by unfold totK; split <;> (try split) <;> omega
            have h3 := List.count_le_length (a := j) (l := xs.take t)
            have h4 : (xs.take t).length ≤ t := List.length_take_le _ _
            have := hxm.out
            unfold cumF; omega)
          have htb : (t : Int) ≤ 62 := by have := hxm.out; omega
          clear hs hkey hstr hcr hrd9 hkx hu8r hcell8 hu8' hT hat hhas hsz hct hx60 hj htk
          go_wp2_with (first
            | (at_lookup; refine wpList_lookup_own_int _ rfl _ _ 74 rfl 9 3 .i64 lawS Try.underlying74 Try.underlying3 (zeroI _) mb 60 _ rfl hown _ _ rfl Hkey.out ?_; intro cc hcat hwc)
            | (at_mapUpdate; refine wpList_mapUpdate_own _ rfl _ _ _ 74 rfl 9 3 lawS Try.underlying74 _ mb 60 _ rfl hown (by unfold maxLen; omega) _ _ _ rfl rfl Hkey.out _ [] (plainElem_int Try.underlying3 (wrap64_wf _)) ?_; intro w9 hown9 hgrow9))
          have hcc : cc = (cumF f xs t j : Int) := by
            rw [HD.out.2.1 j Hx60.out] at hcat
            simpa using hcat.symm
          have hb1000 := hbd.out
          have e1 : wrap64 (cc + 1) = ((cumF f xs t j + 1 : Nat) : Int) := by rw [hcc, IntWalk.wrap64_in _ ⟨by omega, by omega⟩]; omega
          rw [e1] at hown9
          have hM9 := MapK.put HD.out.1 HD.out.2.1 HD.out.2.2.1 HD.out.2.2.2 Hx60.out hown9
          have hC9 : Ch (fun z => z = mb) w8 w9 := Hct.out.trans ((Ch.of_grown hgrow9).mono fun z _ hz => by injection hz with hz; exact hz.symm) fun z hz => .inl hz
          clear e1 hcat hown9
          exact ⟨⟨t + 1, by omega, by rw [Int.natCast_succ], hM9.ext fun i hi => (hsucc.out i).symm, hC9⟩, by simp only [intOf]; omega⟩
        · obtain rfl : t = L := by omega
          have hxt : xs.take t = xs := List.take_of_length_le (by rw [← HL.out]; exact Nat.le_refl _)
          have hmt' : MapK wr mb (totK acts k) := hmt.ext fun j hj => by
            have h2 := Hfc.out j hj
            have h3 := hxc.out j
            unfold cumF
            rw [hxt]
            omega
          have Hmt := hide hmt'
          have Hbw := hide (hct.below HB8.out HB8.out.size fun z hz => by rw [hz]; exact Hmg.out.2)
          clear hmt hct hmt' hxt
          obtain ⟨wo, hwo⟩ : ∃ wo : World, wo = wr := ⟨_, rfl⟩
          rw [← hwo] at Hmt Hbw ⊢
          clear hwo
          obtain ⟨M0, hM0⟩ : ∃ M0, M0 = k := ⟨_, rfl⟩
          rw [← hM0] at Hmt ⊢
          have hM60' : M0 < 60 := by omega
          have hM60i : (M0 : Int) < 60 := by omega
          have hmr : many % 60 = (M0 : Int) := by rw [Hmany.out, hM0]
          clear hM0
          have Hmr := hide hmr
          clear hmr
          go_wp2_with fail
          rw [Hmr.out]
          go_loopw [84] (fun i wr => ∃ j : Nat, j ≤ M0 ∧ i = .int .i64 (j : Int) ∧ MapK wr mb (totK acts M0) ∧ Below w.heap.size w wr) (fun i _ => M0 - (intOf i).toNat)
          case atStart => exact ⟨0, by omega, rfl, Hmt.out, Hbw.out⟩
          case round =>
            obtain ⟨j, hj, rfl, hmt, hbt⟩ := hrel
            by_cases hjl : j < M0
            · have hj60 : j < 60 := by omega
              have hu8 := u8_of j hj60
              obtain ⟨xb, hxb⟩ : ∃ xb, xb = ((UInt8.ofNat j).toNat : Int) := ⟨_, rfl⟩
              rw [← hxb] at hu8
              obtain ⟨w9, hw9⟩ : ∃ w9, w9 = wr.alloc (.cells #[.int .u8 xb, .int .u8 9] 5) := ⟨_, rfl⟩
              have hb9 : Below wr.heap.size wr w9 := by rw [hw9]; exact balloc wr _
              have hm9 : MapK w9 mb (totK acts M0) := hmt.keep (hb9.block mb hmt.lt)
              have hr9 : RdL Kd.byte (fun z => z = wr.heap.size) w9 (some ⟨wr.heap.size, 0, none⟩) (keyL j) := by rw [hw9]; exact key_rd wr j xb hxb
              have hstr := run_str (P := Try.prog) (w := w9) Try.underlying57 Try.underlying5 Try.underlying9 hr9.srcB 2
              have hstr' : (convert 57 9 (.slice (some ⟨wr.heap.size, 0, none⟩) 2 2)).run Try.prog w9 = .ok (.string (bstr (keyL j))) w9 := hstr
              have hkey := keyS j
              obtain ⟨D, hown, hT, hat, hhas, hsz⟩ := hm9
              have hatj := hat j hj60
              obtain ⟨str, hs⟩ : ∃ str, str = bstr (keyL j) := ⟨_, rfl⟩
              rw [← hs] at hstr' hkey
              have Hkey := hide hkey
              have Hat := hide hatj
              have hbt9 := hide (below_t3 hbt hbt.size hb9)
              have hm9' := hide (hmt.keep (hb9.block mb hmt.lt))
              have HW9 := hide hw9
              have htot : totK acts M0 j = if dblB acts j then 2 else 1 := by unfold totK; rw [if_pos hjl]
              have Htot := hide htot
              clear hs hkey hstr hr9 hT hat hhas hsz hmt hbt hxb hb9 hw9 hatj htot
              by_cases hjN : j < N
              · have hkl : j < acts.length := by rw [← HN.out]; exact hjN
                obtain ⟨bo, oo, Bo, co, rfl, hbo, ⟨o0, o1, o2, o3⟩, wp, hlo, hco, hro⟩ := Hf.out.op hkl
                have hdb : dblB acts j = decide (acts[j].1 = 2) := by unfold dblB; rw [List.getElem?_eq_getElem hkl]; rfl
                obtain ⟨kd, hkd⟩ : ∃ kd, kd = acts[j].1 := ⟨_, rfl⟩
                rw [← hkd] at hdb o0
                have q0 : w9.cell? ⟨bo, oo + j * 4, none⟩ = some (.int .i64 kd) := (hbt9.out.cell hbo).trans o0
                have Hdb := hide hdb
                clear hkd o0 o1 o2 o3 wp hlo hco hro hdb hkl
                by_cases h2 : kd = 2
                · subst h2
                  have Hv : Hid (totK acts M0 j = 2) := hide (by rw [Htot.out, Hdb.out]; rfl)
                  go_upto_region 27 with fail
                  go_wp2_with (first
                    | (rw [← HW9.out])
                    | (at_lookup; refine wpList_lookup_own_int _ rfl _ _ 74 rfl 9 3 .i64 lawS Try.underlying74 Try.underlying3 (zeroI _) mb 60 _ rfl hown _ _ rfl Hkey.out ?_; intro cc hcat hwc; obtain rfl : cc = 2 := by (rw [Hat.out, Hv.out] at hcat; simpa using hcat.symm)))
                  exact ⟨⟨j + 1, by omega, by rw [Int.natCast_succ], hm9'.out, hbt9.out⟩, by simp only [intOf]; omega⟩
                · have h2' : ((kd : Int) == 2) = false := by simpa using h2
                  have Hv : Hid (totK acts M0 j = 1) := hide (by rw [Htot.out, Hdb.out, decide_eq_false h2]; rfl)
                  clear h2
                  go_upto_region 27 with fail
                  go_wp2_with (first
                    | (rw [← HW9.out])
                    | (at_lookup; refine wpList_lookup_own_int _ rfl _ _ 74 rfl 9 3 .i64 lawS Try.underlying74 Try.underlying3 (zeroI _) mb 60 _ rfl hown _ _ rfl Hkey.out ?_; intro cc hcat hwc; obtain rfl : cc = 1 := by (rw [Hat.out, Hv.out] at hcat; simpa using hcat.symm)))
                  exact ⟨⟨j + 1, by omega, by rw [Int.natCast_succ], hm9'.out, hbt9.out⟩, by simp only [intOf]; omega⟩
              · have hjN' : ¬ ((j : Int) < (N : Int)) := by omega
                have Hv : Hid (totK acts M0 j = 1) := hide (by rw [Htot.out]; unfold dblB; rw [List.getElem?_eq_none (by rw [← HN.out]; omega)]; rfl)
                go_upto_region 27 with fail
                go_wp2_with (first
                  | (rw [← HW9.out])
                  | (at_lookup; refine wpList_lookup_own_int _ rfl _ _ 74 rfl 9 3 .i64 lawS Try.underlying74 Try.underlying3 (zeroI _) mb 60 _ rfl hown _ _ rfl Hkey.out ?_; intro cc hcat hwc; obtain rfl : cc = 1 := by (rw [Hat.out, Hv.out] at hcat; simpa using hcat.symm)))
                exact ⟨⟨j + 1, by omega, by rw [Int.natCast_succ], hm9'.out, hbt9.out⟩, by simp only [intOf]; omega⟩
            · obtain rfl : j = M0 := by omega
              obtain ⟨D, hown, hT, hat, hhas, hsz⟩ := hmt
              have hszM : Maps.size D = j := by
                rw [hsz, numK_ext (q := fun i => decide (i < j)) fun i hi => ?_, numK_lt j 60 (by omega)]
                unfold totK
                by_cases h : i < j
                · rw [if_pos h]; split <;> simp [h]
                · rw [if_neg h]; simp [h]
              have HszM := hide hszM
              have hmr := Hmr.out
              have Hbt := hide hbt
              have hjj : ((j : Int) == (j : Int)) = true := by simp
              clear hT hat hhas hsz hbt hszM
              go_wp2_with (at_len; refine wpList_len_own _ rfl _ 74 rfl 9 3 Try.underlying74 _ mb 60 D rfl hown ?_; rw [HszM.out])
              exact hR.out _ _ ⟨rfl, Hbt.out⟩
end Go.Proofs.Ytehkdionodnhjaa
