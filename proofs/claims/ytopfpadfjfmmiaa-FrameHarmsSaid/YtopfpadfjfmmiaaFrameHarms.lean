/- FrameHarms, walked. -/
import Derived.Test.YtopfpadfjfmmiaaFrameParses
import Derived.StillTailTactics
set_option linter.unusedVariables false
set_option linter.unusedSimpArgs false
namespace Go.Proofs.Ytopfpadfjfmmiaa
open Go.RowKit

theorem harm_math {se id : UInt64} {N B Q E F len : Int} {pl b : List UInt8} (h0 : encK N B Q E F len pl = 0) (hb : encBs se id N B Q E F len pl = b) :
    fErr b = 0 ∧ (∀ (mk : UInt32) (first : Nat), fErr (burst mk first 32 b) = 0 ↔ burst mk first 32 b = b) ∧ (∀ m, m < b.length → fErr (b.take m) ≠ 0) ∧ ∀ more : List UInt8, fErr (b ++ more) = 0 ↔ more = [] := by
  have hl := encBs_len h0 hb
  have hf0 : fErr b = 0 := by
    obtain ⟨n, q, e, f, l, rfl, rfl, rfl, rfl, rfl, rfl, hmay, hb'⟩ := encBs_yes h0 hb
    exact (enc_par se.toNat_lt id.toNat_lt hmay rfl hb').1
  have key : ∀ y : List UInt8, fErr y = 0 → 42 ≤ y.length ∧ y.length = 42 + getN (mid y 15 2) ∧ rightB y = true := fun y hy => by
    obtain ⟨hz, _⟩ | ⟨hz, _⟩ | ⟨hz, _⟩ | ⟨hz, _⟩ | ⟨hz, _⟩ | ⟨hz, _⟩ | ⟨-, h42, -, -, -, h7, h8⟩ := fErr_cases y
    · omega
    · omega
    · omega
    · omega
    · omega
    · omega
    · exact ⟨h42, h7, h8⟩
  obtain ⟨k1, k2, k3⟩ := key b hf0
  refine ⟨hf0, fun mk first => ⟨fun h => ?_, fun h => by rw [h]; exact hf0⟩, fun m hm h => ?_, fun more => ⟨fun h => ?_, fun h => by rw [h, List.append_nil]; exact hf0⟩⟩
  · obtain ⟨x1, -, x3⟩ := key _ h
    have e1 := (right_iff _ (by omega)).1 k3
    have e2 := (right_iff _ (by omega)).1 x3
    exact (burst_iff 4294967295 mk first b).1 (e2.trans e1.symm)
  · obtain ⟨x1, x2, -⟩ := key _ h
    rw [List.length_take] at x1 x2
    have e : mid (b.take m) 15 2 = mid b 15 2 := mid_congr fun i h1 h2 => by rw [List.getElem?_take_of_lt (by omega)]
    rw [e] at x2
    omega
  · obtain ⟨x1, x2, -⟩ := key _ h
    rw [List.length_append] at x1 x2
    have e : mid (b ++ more) 15 2 = mid b 15 2 := mid_congr fun i h1 h2 => by rw [List.getElem?_append_left (by omega)]
    rw [e] at x2
    exact List.eq_nil_of_length_eq_zero (by omega)
theorem run_mx0' (P : Program) (w : World) (ts : Array TypeId) (t : TypeId) (a : Int) : (Builtin.max_ ts t #[.int .i64 a, .int .i64 0]).run P w = .ok (.int .i64 (a.toNat : Int)) w := by
  simp [Builtin.max_, Builtin.max2]
  omega
/-- A codec, a frame's bytes, and one block more, behind w. -/
structure FH (w y : World) (g gt m a1 : Nat) (A1 : Option Addr) (bs : List UInt8) (hx : Nat) (o : Obj) : Prop where
  fc : FC w y g gt m a1 A1 bs
  hx : y.heap[hx]? = some o
section
variable {w y z : World} {g gt m a1 hx : Nat} {A1 : Option Addr} {bs : List UInt8} {o : Obj}
theorem FH.below (h : FH w y g gt m a1 A1 bs hx o) (hb : Below y.heap.size y z) : FH w z g gt m a1 A1 bs hx o := ⟨h.fc.below hb, (hb.block hx (Array.getElem?_eq_some_iff.1 h.hx).1).trans h.hx⟩
theorem FH.ch (h : FH w y g gt m a1 A1 bs hx o) {q : Nat} (hc : Ch (· = q) y z) (h0 : w.heap.size ≤ q) (h1 : q ≠ g) (h2 : q ≠ gt) (h3 : (Value.slice A1 m a1).ownBlock ≠ some q) (h4 : q ≠ hx) : FH w z g gt m a1 A1 bs hx o :=
  ⟨⟨hc.below h.fc.bel h.fc.bel.size (fun b hb => by omega), (hc.block g h.fc.glt (by omega)).trans h.fc.cod, h.fc.tab.keep (hc.block gt h.fc.tab.lt (by omega)), h.fc.row.keep fun k e => hc.block k (h.fc.row.lt e) fun e' => h3 (e' ▸ e)⟩, (hc.block hx (Array.getElem?_eq_some_iff.1 h.hx).1 (by omega)).trans h.hx⟩
end
theorem gr_none {w w' : World} (h : Below w.heap.size w w') : w.grownBy w' Option.none := ⟨h.os, h.tape, h.output, h.size, fun k hk _ => h.block k hk⟩
theorem gr_of_none {w w' : World} (h : w.grownBy w' Option.none) : Below w.heap.size w w' := ⟨h.os, h.tape, h.output, h.size, fun k hk => h.block k hk (by simp)⟩
theorem NewV.full {e : TypeId} {w w' : World} {v' : Value} {us : List Value} (h : NewV e w w' v' us) (hp : 0 < us.length) : ∃ c, v' = .slice (some ⟨w.heap.size, 0, none⟩) us.length c ∧ Row w' e (.slice (some ⟨w.heap.size, 0, none⟩) us.length c) us ∧ us.length ≤ c ∧ c ≤ maxLen ∧ Below w.heap.size w w' := by
  obtain ⟨A, c, rfl, h1, h2, hb, h3⟩ := h
  rcases h3 with ⟨h3, -⟩ | ⟨rfl, h4, rest, h5, h6⟩
  · rw [h3] at hp; simp at hp
  · exact ⟨c, rfl, ⟨(Nat.mul_one _).symm, .inr ⟨w.heap.size, c, _, rfl, Nat.zero_le _, h6, h1, h2, by simp; omega, by simp⟩⟩, h1, h2, hb⟩
theorem Ch.drewR {S : Nat → Prop} {w w' : World} (h : Ch S w w') : Ch S w { w' with drawn := w'.drawn + 1 } := ⟨h.os, h.tape, h.output, h.size, h.block⟩
/-- Parse of any bytes: which error. -/
theorem parK {m : Nat} (b : List UInt8) (hbm : b.length = m) (hl : m ≤ 100000) (gc gt : Nat) (A : Option Addr) (c : Nat) (w : World) (hg : w.heap[gc]? = some (.cells #[.pointer (some ⟨gt, 0, none⟩)] 62 (0, 0))) (ht : TabAt w gt 256) (hm : c ≤ maxLen) (hc : m ≤ c) (hr : RdL Kd.byte (· < w.heap.size) w A b) :
    Calls Try.prog 11 #[.pointer (some ⟨gc, 0, none⟩), .slice A m c] w fun e w' => ∃ (s : Nat) (N B Q E F len : Int) (d : Nat) (A' : Option Addr) (n' c' : Nat), e = .returned (.tuple #[.agg #[.int .u64 (s : Int), .int .i64 N, .int .i64 B, .int .i64 Q, .int .i64 E, .int .i64 F, .int .i64 len, .int .u64 (d : Int), .slice A' n' c'], .int .i64 (fErr b : Int)]) ∧ Below w.heap.size w w' := by
  subst hbm
  obtain ⟨se, id, N, B, Q, E, F, len, pl, hP, -, -⟩ := par_any b hl
  exact (hP gc gt A c w hg ht hm hc hr).mono fun e w' ⟨A', c', h1, _, _, _, h2⟩ => ⟨_, _, _, _, _, _, _, _, _, _, _, h1, h2⟩
theorem box4 (w : World) (v0 v1 v2 v3 : Value) (t : TypeId) : ∃ W, W = w.alloc (.cells #[v0, v1, v2, v3] t) ∧ Below w.heap.size w W ∧ W.heap.size = w.heap.size + 1 ∧ W.heap[w.heap.size]? = some (.cells #[v0, v1, v2, v3] t (0, 0)) :=
  ⟨_, rfl, balloc w _, by simp, heap_alloc_new w _⟩
theorem cells4 {w : World} {g : Nat} {t : TypeId} {v0 v1 v2 v3 : Value} (h : w.heap[g]? = some (.cells #[v0, v1, v2, v3] t (0, 0))) :
    w.cell? ⟨g, 0, none⟩ = some v0 ∧ w.cell? ⟨g, 1, none⟩ = some v1 ∧ w.cell? ⟨g, 2, none⟩ = some v2 ∧ w.cell? ⟨g, 3, none⟩ = some v3 := by
  refine ⟨?_, ?_, ?_, ?_⟩ <;> rw [cell_of_row w g _ _ t (0, 0) h] <;> rfl
set_option maxRecDepth 100000 in
set_option maxHeartbeats 1000000 in
theorem Harms_calls (se id : UInt64) (N B Q E F len : Int) (A : Option Addr) (pl : List UInt8) (c : Nat) (pt : Nat) (mk : UInt32) (cut : Nat) (M : Option Addr) (mo : List UInt8) (d : Nat) (w : World) (hm : c ≤ maxLen) (hc : pl.length ≤ c) (hr : RdL Kd.byte (· < w.heap.size) w A pl)
    (hpt : pt ≤ 65535) (hcut : cut ≤ 255) (hdm : d ≤ maxLen) (hdl : mo.length ≤ d) (hmr : RdL Kd.byte (· < w.heap.size) w M mo) :
    Calls Try.prog 5 #[.agg #[.int .u64 (se.toNat : Int), .int .i64 N, .int .i64 B, .int .i64 Q, .int .i64 E, .int .i64 F, .int .i64 len, .int .u64 (id.toNat : Int), .slice A pl.length c], .agg #[.int .u16 (pt : Int), .int .u32 (mk.toNat : Int), .int .u8 (cut : Int), .slice M mo.length d]] w fun e w' => e = .returned (.bool true) ∧ Below w.heap.size w w' := by
  refine cps fun R hR => ?_
  obtain ⟨W, hW, hbW, hWs, hWh⟩ := pbox' w (.int .u64 (se.toNat : Int)) (.int .i64 N) (.int .i64 B) (.int .i64 Q) (.int .i64 E) (.int .i64 F) (.int .i64 len) (.int .u64 (id.toNat : Int)) (.slice A pl.length c) 32
  obtain ⟨V, hV, hbV, hVs, hVh⟩ := box4 W (.int .u16 (pt : Int)) (.int .u32 (mk.toNat : Int)) (.int .u8 (cut : Int)) (.slice M mo.length d) 50
  have Hr := hide hr
  have Hmr := hide hmr
  have HW := hide hW
  have HV := hide hV
  rw [hWs] at hVh hVs
  have HVh := hide hVh
  have HWh := hide ((hbV.block w.heap.size (by omega)).trans hWh)
  clear hr hW hWh hV hVh hmr
  have HF := hide (fun (y : World) (hy : RdL Kd.byte (· < y.heap.size) y A pl) => renc_any se id N B Q E F len A pl c y hm hc hy)
  have Hmath := hide (fun (b : List UInt8) h0 hb => And.intro (encBs_len h0 hb) (harm_math (se := se) (id := id) (N := N) (B := B) (Q := Q) (E := E) (F := F) (len := len) (pl := pl) (b := b) h0 hb))
  generalize encK N B Q E F len pl = k at *
  generalize hbs : encBs se id N B Q E F len pl = bs at *
  have Hbs := hide hbs
  clear hbs
  generalize hn : pl.length = n at *
  generalize hln : mo.length = nm at *
  have Hn := hide hn
  have Hnm := hide hln
  clear hn hln
  have hpt' : (pt : Int) ≤ 65535 := by omega
  have hcut' : (cut : Int) ≤ 255 := by omega
  go_enter Try.func5, Try.ntmps5
  go_wp2_with fail
  rw [← HW.out, ← HV.out]
  refine (fspeaks_calls V).mono ?_
  rintro e w1 ⟨rfl, hb1⟩
  have Hh1 := hide ((hb1.block w.heap.size (by omega)).trans HWh.out)
  have Hx1 := hide ((hb1.block (w.heap.size + 1) (by omega)).trans HVh.out)
  obtain ⟨c0, c1, c2, c3, c4, c5, c6, c7, c8⟩ := cells9 Hh1.out
  obtain ⟨d0, d1, d2, d3⟩ := cells4 Hx1.out
  have Hb1 := hide (hbW.trans ((hbV.trans (hb1.mono (by omega))).mono hbW.size))
  have z1 := hb1.size
  clear hb1
  by_cases h5 : 300 < n
  · go_wp2_with fail
    exact hR.out _ _ ⟨rfl, Hb1.out⟩
  by_cases h6 : 100 < nm
  · go_wp2_with fail
    exact hR.out _ _ ⟨rfl, Hb1.out⟩
  go_wp2_with fail
  clear c0 c1 c2 c3 c4 c5 c6 c7 c8 d0 d1 d2 d3
  have Hr1 := hide ((Hr.out.keep fun k hk => Hb1.out.block k hk).mono (S' := (· < w1.heap.size)) fun k hk => Nat.lt_of_lt_of_le hk Hb1.out.size)
  refine (HF.out w1 Hr1.out).mono ?_
  rintro e w2 ⟨v2, rfl, hf2⟩
  have Hb2 := hide (Hb1.out.trans (hf2.2.1.mono Hb1.out.size))
  have Hx2 := hide ((hf2.2.1.block (w.heap.size + 1) (by omega)).trans Hx1.out)
  obtain ⟨A1, a1, rfl, hca1, hma1⟩ := hf2.1.shape
  rw [List.length_map] at *
  have Hrow := hide hf2.1
  have Hown := hide hf2.own
  have z12 := hf2.2.1.size
  clear hf2 HF Hr1
  by_cases hk0 : ¬ k = 0
  · go_wp2_with fail
    exact hR.out _ _ ⟨rfl, Hb2.out⟩
  obtain rfl : k = 0 := by omega
  obtain ⟨hl, hm0, hm1, hm2, hm3⟩ := Hmath.out bs (by trivial) rfl
  have Hl := hide hl
  have Hm0 := hide hm0
  have Hm1 := hide hm1
  have Hm2 := hide hm2
  have Hm3 := hide hm3
  clear hm0 hm1 hm2 hm3 Hmath
  rw [hl] at hca1 Hown Hrow ⊢
  generalize hm0 : 42 + n = m at hca1 Hl Hown Hrow ⊢
  have hm42 : 42 ≤ m ∧ m ≤ 342 := by omega
  clear hm0 hl
  go_wp2_with fail
  refine (fnew_calls w2).mono ?_
  rintro e w3 ⟨g, gt, rfl, hg, htab, hb3, hg0, ht0, hg1, ht1⟩
  have z23 := hb3.size
  have z02 := Hb2.out.size
  have Hfh := hide (show FH w w3 g gt m a1 A1 bs (w.heap.size + 1) _ from ⟨⟨Hb2.out.trans (hb3.mono Hb2.out.size), hg, htab, Hrow.out.keep fun k hk => hb3.block k (Hown.out k hk).2⟩, (hb3.block (w.heap.size + 1) (by omega)).trans Hx2.out⟩)
  clear hg htab hb3
  have hs3 := hide ((Hfh.out.fc.row.keep (w' := w3.alloc (.cells #[] 5)) fun k hk => (balloc w3 _).block k (Hfh.out.fc.row.lt hk)).src)
  have ho := hide (encB_one bs)
  have hlb := hide (show (bs.map encB).length = m by rw [List.length_map, Hl.out])
  go_wp2_with (at_builtin; with_reducible refine wp_app_lit 42 rfl rfl (.tmp 40) (.tmp 41) 22 rfl Try.underlying22 infoB ?_ (news := bs.map encB) (g := w3.heap.size) ?_ (A := A1) (c := a1) ?_ ?_ ho.out ?_ ?_ ?_)
  case refine_1 => rfl
  case refine_2 => rfl
  case refine_3 => rw [hlb.out]; rfl
  case refine_4 => exact hs3.out
  case refine_5 => rw [hlb.out]; omega
  case refine_6 => rw [hlb.out]; unfold maxLen; omega
  case refine_7 =>
  intro v4 w4 hn4
  obtain ⟨A4, g4, post4, c4, rfl, hc4, hm4, hb4, hg4, hgl4, hwr4⟩ := hn4.wr
  have hlt4 := (hgl4 (by rw [Hl.out]; omega)).1
  have hb34 := (balloc w3 (.cells #[] 5)).trans (hb4.mono (by simp))
  have Hfh4 := hide (Hfh.out.below hb34)
  have hw4 := hide (hwr4 w4 (Below.refl _ _))
  have z34 := hb34.size
  have hg4' : w3.heap.size ≤ g4 := by simp at hg4; omega
  rw [Hl.out] at hc4 ⊢
  obtain ⟨d0, d1, d2, d3⟩ := cells4 Hfh4.out.hx
  have hmod : ((pt : Int)).tmod (8 * (m : Int)) = ((pt % (8 * m) : Nat) : Int) := by
    rw [Int.tmod_eq_emod_of_nonneg (by omega)]; simp
  have hfl : pt % (8 * m) < 8 * m := Nat.mod_lt _ (by omega)
  generalize pt % (8 * m) = first at hmod hfl
  clear hn4 hb4 hwr4 hgl4 hs3 ho hlb hb34
  go_wp2_with fail
  clear d0 d1 d2 d3
  go_loopw [50] (fun i wr => ∃ (j : Nat), j ≤ 32 ∧ i = .int .i64 (j : Int) ∧ Wr wr A4 g4 [] post4 5 (burst mk first j bs) ∧ Ch (· = g4) w4 wr) (fun i wr => 32 - (intOf i).toNat)
  case atStart => exact ⟨0, Nat.zero_le _, rfl, hw4.out, Ch.refl _⟩
  case round =>
    obtain ⟨j, hj, rfl, hwr, hch⟩ := hrel
    have Hwr := hide hwr
    have Hfr := hide (Hfh4.out.ch hch (by omega) (by omega) (by omega) (fun e => by have := (Hown.out _ e).2; omega) (by omega))
    obtain ⟨-, d1, -, -⟩ := cells4 Hfr.out.hx
    clear hwr
    by_cases hjl : j < 32
    · have hbit := bit_raw mk j
      cases hb : mk.toNat.testBit j
      · rw [hb] at hbit
        have Hn' := hide (burst_succ_no (mask := mk) (first := first) (i := j) (xs := bs) (by rw [hb]; rfl))
        clear hb
        go_wp2_with fail
        go_roundw
        case rel => exact ⟨j + 1, by omega, by go_num, by rw [Hn'.out]; exact Hwr.out, hch⟩
        case measure => simp [intOf]; omega
      · rw [hb] at hbit
        by_cases hk : first + j < 8 * m
        · have f1 : decide ((first : Int) + (j : Int) < 8 * (m : Int)) = true := by simp; omega
          have Hn' := hide (burst_succ_yes (mask := mk) (first := first) (i := j) (xs := bs) (by rw [hb, Hl.out]; simpa using hk))
          clear hb
          have hlen : (burst mk first j bs).length = m := by rw [burst_len, Hl.out]
          have hi : (first + j) / 8 < (burst mk first j bs).length := by rw [hlen]; omega
          obtain ⟨hA, hc1, hf1⟩ := Hwr.out.cell hi
          have hset := Hwr.out.set hi ((burst mk first j bs)[(first + j) / 8] ^^^ (128 >>> UInt8.ofNat ((first + j) % 8)))
          have hgd : (burst mk first j bs).getD ((first + j) / 8) 0 = (burst mk first j bs)[(first + j) / 8] := by
            rw [List.getD_eq_getElem?_getD, List.getElem?_eq_getElem hi]; rfl
          rw [hgd] at Hn'
          simp only [List.length_nil, Nat.zero_add] at hA hc1 hf1 hset
          rw [← Hn'.out] at hset
          have Hset := hide hset
          obtain ⟨q1, q2⟩ := quo8 (first + j)
          rw [Int.natCast_add] at q1 q2
          have q3 := shr_128 ((first + j) % 8) (by omega)
          have q4 := xor8 (burst mk first j bs)[(first + j) / 8] (128 >>> UInt8.ofNat ((first + j) % 8))
          have hi8 : (first + j) / 8 < m := by omega
          subst hA
          clear hset hgd hlen
          generalize (burst mk first j bs)[(first + j) / 8] ^^^ (128 >>> UInt8.ofNat ((first + j) % 8)) = y at Hset q4
          generalize (burst mk first j bs)[(first + j) / 8] = x at hc1 q4
          generalize (128 >>> UInt8.ofNat ((first + j) % 8) : UInt8) = z at q3 q4
          have hk8 : (first + j) % 8 < 8 := by omega
          generalize (first + j) / 8 = a at q1 hc1 hf1 Hset hi8
          generalize (first + j) % 8 = r at q2 q3 hk8
          have e1 : IntKind.i64.wrap (a : Int) = (a : Int) := by rw [IntKind.wrap_i64]; omega
          have e2 : IntKind.i64.wrap (r : Int) = (r : Int) := by rw [IntKind.wrap_i64]; omega
          have e3 : IntKind.u8.wrap (z.toNat : Int) = (z.toNat : Int) := by have := z.toNat_lt; simp [IntKind.wrap, IntKind.bits, IntKind.signed]; omega
          have e4 : (a : Int) < (m : Int) := by omega
          have e5 : IntKind.i64.wrap ((first : Int) + (j : Int)) = (first : Int) + (j : Int) := by rw [IntKind.wrap_i64]; omega
          go_wp2_with fail
          go_still_tail 10, (by kernel_rfl)
          go_wp2_with fail
          refine ⟨⟨j + 1, by omega, by go_num, Hset.out.keep rfl, (hch.trans (Ch.set wr ⟨g4, a, none⟩ (.int .u8 (y.toNat : Int))) fun b hb => .inl hb).drewR⟩, by simp [intOf]; omega⟩
        · have f1 : decide ((first : Int) + (j : Int) < 8 * (m : Int)) = false := by simp; omega
          have Hn' := hide (burst_succ_no (mask := mk) (first := first) (i := j) (xs := bs) (by rw [hb, Hl.out]; simpa using hk))
          clear hb
          go_wp2_with fail
          go_roundw
          case rel => exact ⟨j + 1, by omega, by go_num, by rw [Hn'.out]; exact Hwr.out, hch⟩
          case measure => simp [intOf]; omega
    · obtain rfl : j = 32 := by omega
      obtain ⟨x, hx⟩ : ∃ x, x = burst mk first 32 bs := ⟨_, rfl⟩
      have hk1 := Hm1.out mk first
      have lx : (burst mk first 32 bs).length = m := by rw [burst_len, Hl.out]
      rw [← hx] at hk1 lx Hwr
      have Hk1 := hide hk1
      have Lx := hide lx
      have hrx := hide ((Hwr.out.rdB).mono (S' := (· < wr.heap.size)) fun q hq => by have := hch.size; omega)
      have hp1 := hide (parK x Lx.out (by omega) g gt A4 c4 wr Hfr.out.fc.cod Hfr.out.fc.tab hm4 hc4 hrx.out)
      generalize hke : fErr x = ke1 at hp1 Hk1
      have hkl1 : ke1 ≤ 8 := by rw [← hke]; rcases fErr_cases x with ⟨h, _⟩ | ⟨h, _⟩ | ⟨h, _⟩ | ⟨h, _⟩ | ⟨h, _⟩ | ⟨h, _⟩ | ⟨h, _⟩ <;> omega
      clear hk1 lx hx hke d1 hw4
      go_wp2_with fail
      refine hp1.out.mono ?_
      clear hp1
      rintro e w5 ⟨s5, N5, B5, Q5, E5, F5, l5, i5, A5, n5, c5, rfl, hb5⟩
      obtain ⟨W5, hW5, hbW5, hWs5, -⟩ := pbox' w5 (.int .u64 (s5 : Int)) (.int .i64 N5) (.int .i64 B5) (.int .i64 Q5) (.int .i64 E5) (.int .i64 F5) (.int .i64 l5) (.int .u64 (i5 : Int)) (.slice A5 n5 c5) 32
      have HW5 := hide hW5
      have b5 := hide (hb5.trans (hbW5.mono hb5.size))
      have Hf5 := hide (Hfr.out.below b5.out)
      have z5 := b5.out.size
      clear hW5 hb5 hbW5 hWs5
      obtain ⟨-, -, d2, -⟩ := cells4 Hf5.out.hx
      obtain ⟨m2, hm2⟩ : ∃ m2, m2 = ((m : Int) - 1 - (cut : Int)).toNat := ⟨_, rfl⟩
      have hmx := fun w ts t => run_mx0' Try.prog w ts t ((m : Int) - 1 - (cut : Int))
      rw [← hm2] at hmx
      have hm2a : m2 < m := by omega
      have hm2b : (m2 : Int) ≤ (a1 : Int) := by omega
      have hw1 : IntKind.i64.wrap ((m : Int) - 1) = (m : Int) - 1 := by rw [IntKind.wrap_i64]; omega
      have hw2 : IntKind.i64.wrap ((m : Int) - 1 - (cut : Int)) = (m : Int) - 1 - (cut : Int) := by rw [IntKind.wrap_i64]; omega
      have hk2 := hide (Hm2.out m2 (by rw [Hl.out]; exact hm2a))
      have hp2 := hide (parK (m := m2) (bs.take m2) (by rw [List.length_take, Hl.out]; omega) (by omega) g gt A1 a1 W5 Hf5.out.fc.cod Hf5.out.fc.tab hma1 (by omega) (Hf5.out.fc.row.rdlt.take m2))
      have hkl2 : fErr (bs.take m2) ≤ 8 := by rcases fErr_cases (bs.take m2) with ⟨h, _⟩ | ⟨h, _⟩ | ⟨h, _⟩ | ⟨h, _⟩ | ⟨h, _⟩ | ⟨h, _⟩ | ⟨h, _⟩ <;> omega
      generalize fErr (bs.take m2) = ke2 at hk2 hp2 hkl2
      clear hm2
      go_upto_region 19 with fail
      rw [← HW5.out]
      go_wp2_with fail
      with_reducible refine hp2.out.mono ?_
      clear hp2 hmx hw1 hw2 d2
      rintro e w6 ⟨s6, N6, B6, Q6, E6, F6, l6, i6, A6, n6, c6, rfl, hb6⟩
      obtain ⟨W6, hW6, hbW6, hWs6, -⟩ := pbox' w6 (.int .u64 (s6 : Int)) (.int .i64 N6) (.int .i64 B6) (.int .i64 Q6) (.int .i64 E6) (.int .i64 F6) (.int .i64 l6) (.int .u64 (i6 : Int)) (.slice A6 n6 c6) 32
      have HW6 := hide hW6
      have b6 := hide (hb6.trans (hbW6.mono hb6.size))
      have Hf6 := hide (Hf5.out.below b6.out)
      have z6 := b6.out.size
      clear hW6 hb6 hbW6 hWs6
      go_upto_region 20 with fail
      rw [← HW6.out]
      have hcs := hide (fun (y : World) (hy : Hid (Below W6.heap.size W6 y)) => (⟨(cells4 (Hf6.out.below hy.out).hx).2.2.2, hy⟩ : y.cell? ⟨w.heap.size + 1, 3, none⟩ = some (.slice M nm d) ∧ Hid (Below W6.heap.size W6 y)))
      have ho := hide (encB_one bs)
      have hom := hide (encB_one mo)
      have hlb := hide (show (bs.map encB).length = m by rw [List.length_map, Hl.out])
      have hlm := hide (show (mo.map encB).length = nm by rw [List.length_map, Hnm.out])
      have hlz := hide (show (bs ++ mo).length = m + nm by rw [List.length_append, Hl.out, Hnm.out])
      have hk3 := hide (Hm3.out mo)
      obtain ⟨ke3, hke3⟩ : ∃ ke3, fErr (bs ++ mo) = ke3 := ⟨_, rfl⟩
      rw [hke3] at hk3
      have hkl3 : ke3 ≤ 8 := by rw [← hke3]; rcases fErr_cases (bs ++ mo) with ⟨h, _⟩ | ⟨h, _⟩ | ⟨h, _⟩ | ⟨h, _⟩ | ⟨h, _⟩ | ⟨h, _⟩ | ⟨h, _⟩ <;> omega
      have Hke3 := hide hke3
      clear hke3
      go_cut [16, 17] from 101 to 111 (fun s16 s17 wx => (∃ ga : Addr, s16 = .pointer (some ga)) ∧ s17 = .int .i64 (ke3 : Int) ∧ Below W6.heap.size W6 wx)
      case first =>
        have d6 := hide (Below.refl W6.heap.size W6).drew
        have zd6 := d6.out.size
        refine wp_region_K 12 (fun y => y.cell? ⟨w.heap.size + 1, 3, none⟩ = some (.slice M nm d) ∧ Hid (Below W6.heap.size W6 y)) (by kernel_rfl) (hcs.out _ d6) (fun hHeld => ?_)
        generalize W6.drew = x6 at *
        refine wpAnyK_take0 (i := 0) (v := ?_) rfl (by kernel_rfl) (by kernel_rfl) (by kernel_rfl) (by decide) (fun _ _ _ h => h) (Or.inl ⟨by rfl, ?_⟩) (fun _ => by assumption) ?_
        rotate_left
        (focus (intro y hSw; go_simp; first | done | with_reducible rfl))
        (try simp only [Act.put, List.setIfInBounds_toArray, List.set_cons_zero, List.set_cons_succ])
        refine wpAnyK_take0 (i := 2) (v := ?_) rfl (by kernel_rfl) (by kernel_rfl) (by kernel_rfl) (by decide) (fun _ _ _ h => h) (Or.inl ⟨by rfl, ?_⟩) (fun _ => by assumption) ?_
        rotate_left
        (focus (intro y hSw; go_simp; first | done | with_reducible rfl))
        (try simp only [Act.put, List.setIfInBounds_toArray, List.set_cons_zero, List.set_cons_succ])
        refine wpAnyK_take0 (i := 4) (v := ?_) rfl (by kernel_rfl) (by kernel_rfl) (by kernel_rfl) (by decide) (fun _ _ _ h => h) (Or.inl ⟨by rfl, ?_⟩) (fun _ => by assumption) ?_
        rotate_left
        (focus (intro y hSw; go_simp; first | done | with_reducible rfl))
        (try simp only [Act.put, List.setIfInBounds_toArray, List.set_cons_zero, List.set_cons_succ])
        refine wpAnyK_take (i := 5) (v := ?_) rfl (by kernel_rfl) (by kernel_rfl) (by kernel_rfl) (by kernel_rfl) (fun _ _ _ h => h) (Or.inl ⟨by rfl, ?_⟩) (by assumption) ?_
        rotate_left
        (focus (intro y hSw; (try dsimp only at hSw); go_simp; first | done | with_reducible rfl))
        (try simp only [Act.put, List.setIfInBounds_toArray, List.set_cons_zero, List.set_cons_succ])
        refine wpAnyK_ready (rs := [1, 11]) (by kernel_rfl) (by simp) ?_
        refine (AllReadyK.cons rfl (fun K hK => ?_) (AllReadyK.cons rfl (fun K hK => ?_) AllReadyK.nil))
        · go_simp
          refine named_alloc (C := K _) ?_
          intro w1' h1' g1 z1' z1a
          clear h1'
          refine hK.out _ _ (hcs.out _ (hide (hHeld.2.out.trans ((gr_of_none g1).mono hHeld.2.out.size)))) (fun hHeld' => ?_)
          clear hK K hHeld
          have hHeld := hHeld'
          clear hHeld'
          (try simp only [Act.put, List.setIfInBounds_toArray, List.set_cons_zero, List.set_cons_succ])
          refine wpAnyK_ready (rs := [3, 11]) (by kernel_rfl) (by simp) ?_
          refine (AllReadyK.cons rfl (fun K hK => ?_) (AllReadyK.cons rfl (fun K hK => ?_) AllReadyK.nil))
          · have s3 := (Hf6.out.below hHeld.2.out).fc.row.src
            rw [if_pos (by rfl)]
            refine op_app_lit 105 rfl (.tmp 103) (.tmp 104) 22 rfl Try.underlying22 infoB rfl (g := _) (news := bs.map encB) rfl (A := A1) (c := a1) (by rw [hlb.out]; rfl) s3 ho.out (by rw [hlb.out]; omega) (by rw [hlb.out]; unfold maxLen; omega) ?_
            intro v3 w3' hn3
            obtain ⟨c3, rfl, r3, hc3, hm3, b3⟩ := hn3.full (by rw [hlb.out]; omega)
            have g3 := gr_none b3
            have z3' := g3.size
            have z3a := r3.lt rfl
            have R3 := hide r3
            rw [hlb.out] at R3 ⊢
            clear hn3 r3 s3
            refine hK.out _ _ (hcs.out _ (hide (hHeld.2.out.trans (b3.mono hHeld.2.out.size)))) (fun hHeld' => ?_)
            clear hK K hHeld
            have hHeld := hHeld'
            clear hHeld'
            (try simp only [Act.put, List.setIfInBounds_toArray, List.set_cons_zero, List.set_cons_succ])
            refine wpAnyK_ready (rs := [6, 11]) (by kernel_rfl) (by simp) ?_
            refine (AllReadyK.cons rfl (fun K hK => ?_) (AllReadyK.cons rfl (fun K hK => ?_) AllReadyK.nil))
            · have s6' := ((Hmr.out.below (Hf6.out.fc.bel.trans (hHeld.2.out.mono Hf6.out.fc.bel.size))).srcB)
              rw [if_pos (by rfl)]
              refine op_app 108 rfl (.tmp 105) (.tmp 107) 22 rfl Try.underlying22 infoB rfl (us := bs.map encB) (by rfl) (R3.out.keep fun k hk => by
                  simp [Value.ownBlock] at hk
                  subst hk
                  (repeat (first | with_reducible rfl | refine (g1.block _ (by omega) (by simp)).trans ?_ | refine (g3.block _ (by omega) (by simp)).trans ?_ | refine (g6.block _ (by omega) (by simp)).trans ?_ | refine (g7.block _ (by omega) (by simp)).trans ?_ | refine (g11.block _ (by omega) (by simp)).trans ?_))) (A := M) (c := d) (news := mo.map encB) (by rw [hlm.out]; rfl) s6' hom.out (by rw [hlb.out, hlm.out]; omega) (by rw [hlb.out, hlm.out]; unfold maxLen; omega) ?_
              intro v6 w6' r6 g6 a6'
              have z6' := g6.size
              rw [← List.map_append] at r6
              obtain ⟨A6', c6', rfl, hc6, hm6⟩ := r6.shape
              rw [List.length_map, hlz.out] at r6 hc6 a6' ⊢
              have R6 := hide r6
              have own6 := hide (show ∀ k, (Value.slice A6' (m + nm) c6').ownBlock = some k → W6.heap.size ≤ k from fun k hk => by
                  have zh := hHeld.2.out.size
                  rcases a6' with e | e
                  · rw [show (Value.slice A6' (m + nm) c6').ownBlock = _ from e] at hk; simp [Value.ownBlock] at hk; omega
                  · rw [show (Value.slice A6' (m + nm) c6').ownBlock = _ from e] at hk; injection hk with hk; omega)
              have b6' : Below W6.heap.size W6 w6' := (Ch.of_grown g6).below hHeld.2.out hHeld.2.out.size (fun b hb => by simp [Value.ownBlock] at hb; omega)
              clear r6 s6'
              refine hK.out _ _ (hcs.out _ (hide b6')) (fun hHeld' => ?_)
              clear hK K hHeld
              have hHeld := hHeld'
              clear hHeld'
              (try simp only [Act.put, List.setIfInBounds_toArray, List.set_cons_zero, List.set_cons_succ])
              refine wpAnyK_ready (rs := [7, 11]) (by kernel_rfl) (by simp) ?_
              refine (AllReadyK.cons rfl (fun K hK => ?_) (AllReadyK.cons rfl (fun K hK => ?_) AllReadyK.nil))
              · have f7 := Hf6.out.below hHeld.2.out
                have hp7 := hide (parK (m := m + nm) (bs ++ mo) hlz.out (by omega) g gt A6' c6' _ f7.fc.cod f7.fc.tab hm6 hc6 ((R6.out.keep fun k hk => by
                    have kl := R6.out.lt hk
                    (repeat (first | with_reducible rfl | refine (g1.block k (by omega) (by simp)).trans ?_ | refine (g3.block k (by omega) (by simp)).trans ?_ | refine (g6.block k (by omega) (by simp)).trans ?_ | refine (g7.block k (by omega) (by simp)).trans ?_ | refine (g11.block k (by omega) (by simp)).trans ?_))).rdlt))
                rw [Hke3.out] at hp7
                clear f7
                go_simp
                go_wp2_with ((go_at_call 11; (with_reducible refine hp7.out.mono ?_); rintro e w7 ⟨s7, N7, B7, Q7, E7, F7, l7, i7, A7, n7, c7, rfl, hb7⟩))
                have g7 := gr_none hb7
                have z7 := g7.size
                clear hp7
                refine hK.out _ _ (hcs.out _ (hide (hHeld.2.out.trans (hb7.mono hHeld.2.out.size)))) (fun hHeld' => ?_)
                clear hK K hHeld
                have hHeld := hHeld'
                clear hHeld'
                (try simp only [Act.put, List.setIfInBounds_toArray, List.set_cons_zero, List.set_cons_succ])
                refine wpAnyK_take0 (i := 8) (v := ?_) rfl (by kernel_rfl) (by kernel_rfl) (by kernel_rfl) (by decide) (fun _ _ _ h => h) (Or.inl ⟨by rfl, ?_⟩) (fun _ => by assumption) ?_
                rotate_left
                (focus (intro y hSw; go_simp; first | done | with_reducible rfl))
                (try simp only [Act.put, List.setIfInBounds_toArray, List.set_cons_zero, List.set_cons_succ])
                refine wpAnyK_take0 (i := 9) (v := ?_) rfl (by kernel_rfl) (by kernel_rfl) (by kernel_rfl) (by decide) (fun _ _ _ h => h) (Or.inl ⟨by rfl, ?_⟩) (fun _ => by assumption) ?_
                rotate_left
                (focus (intro y hSw; go_simp; first | done | with_reducible rfl))
                (try simp only [Act.put, List.setIfInBounds_toArray, List.set_cons_zero, List.set_cons_succ])
                refine wpAnyK_take0 (i := 10) (v := ?_) rfl (by kernel_rfl) (by kernel_rfl) (by kernel_rfl) (by decide) (fun _ _ _ h => h) (Or.inl ⟨by rfl, ?_⟩) (fun _ => by assumption) ?_
                rotate_left
                (focus (intro y hSw; go_simp; first | done | with_reducible rfl))
                (try simp only [Act.put, List.setIfInBounds_toArray, List.set_cons_zero, List.set_cons_succ])
                refine wpAnyK_ready (rs := [11]) (by kernel_rfl) (by simp) ?_
                refine (AllReadyK.cons rfl (fun K hK => ?_) AllReadyK.nil)
                · go_simp
                  refine named_alloc (C := K _) ?_
                  intro w11 h11 g11 z11 z11a
                  have H11 := hide h11
                  clear h11
                  refine hK.out _ _ (hcs.out _ (hide (hHeld.2.out.trans ((gr_of_none g11).mono hHeld.2.out.size)))) (fun hHeld' => ?_)
                  clear hK K hHeld
                  have hHeld := hHeld'
                  clear hHeld'
                  (try simp only [Act.put, List.setIfInBounds_toArray, List.set_cons_zero, List.set_cons_succ])
                  have hga : w11.heap[w7.heap.size]? = some (Obj.cells #[.int .u64 0, .int .i64 0, .int .i64 0, .int .i64 0, .int .i64 0, .int .i64 0, .int .i64 0, .int .u64 0, .slice none 0 0] 32 (0, 0)) := by (repeat (first | exact H11.out | refine (g1.block w7.heap.size (by omega) (by simp)).trans ?_ | refine (g3.block w7.heap.size (by omega) (by simp)).trans ?_ | refine (g6.block w7.heap.size (by omega) (by simp [Value.ownBlock]; omega)).trans ?_ | refine (g7.block w7.heap.size (by omega) (by simp)).trans ?_ | refine (g11.block w7.heap.size (by omega) (by simp)).trans ?_))
                  have hgW : W6.heap.size ≤ w7.heap.size := by omega
                  have b7 := hHeld.2.out
                  refine wpAnyK_ready (rs := [12]) (by kernel_rfl) (by simp) ?_
                  refine AllReadyK.late rfl (by kernel_rfl) (fun K hK => ?_) AllReadyK.nil
                  rw [if_pos (by rfl)]
                  refine wp_store_mid 32 (.tmp 16) (.tmp 110) rfl (w7.heap.size) 0 #[.int .u64 (s7 : Int), .int .i64 N7, .int .i64 B7, .int .i64 Q7, .int .i64 E7, .int .i64 F7, .int .i64 l7, .int .u64 (i7 : Int), .slice A7 n7 c7] (by rfl) (by rfl) (there9 hga) (by kernel_rfl) (by simp [Value.oneCell']) ?_
                  obtain ⟨Z, hZ⟩ : ∃ Z, Z = (((((((((w11.setCell ⟨w7.heap.size, 0, none⟩ (.int .u64 (s7 : Int))).setCell ⟨w7.heap.size, 1, none⟩ (.int .i64 N7)).setCell ⟨w7.heap.size, 2, none⟩ (.int .i64 B7)).setCell ⟨w7.heap.size, 3, none⟩ (.int .i64 Q7)).setCell ⟨w7.heap.size, 4, none⟩ (.int .i64 E7)).setCell ⟨w7.heap.size, 5, none⟩ (.int .i64 F7)).setCell ⟨w7.heap.size, 6, none⟩ (.int .i64 l7)).setCell ⟨w7.heap.size, 7, none⟩ (.int .u64 (i7 : Int))).setCell ⟨w7.heap.size, 8, none⟩ (.slice A7 n7 c7)) := ⟨_, rfl⟩
                  obtain ⟨-, hcZ⟩ := set9 _ _ _ _ _ _ _ _ _ hga hZ
                  refine at_world (C := K _) (Z := Z) (by rw [hZ]; rfl) ?_
                  clear hZ
                  refine hK.out _ _ ?_
                  clear hK K hHeld
                  (try simp only [Act.put, List.setIfInBounds_toArray, List.set_cons_zero, List.set_cons_succ])
                  refine wpAnyK_ready (rs := [13]) (by kernel_rfl) (by simp) ?_
                  refine AllReadyK.late rfl (by kernel_rfl) (fun K hK => ?_) AllReadyK.nil
                  go_simp
                  refine hK.out _ _ ?_
                  clear hK K
                  (try simp only [Act.put, List.setIfInBounds_toArray, List.set_cons_zero, List.set_cons_succ])
                  refine wpAnyK_done (by kernel_rfl) ?_ _
                  have bZ := hide (hcZ.below b7 b7.size (fun b hb => by omega))
                  go_wp2_with fail
                  go_meet
                  exact ⟨⟨_, rfl⟩, rfl, bZ.out⟩
              · go_simp
                refine named_alloc (C := K _) ?_
                intro w11 h11 g11 z11 z11a
                have H11 := hide h11
                clear h11
                refine hK.out _ _ (hcs.out _ (hide (hHeld.2.out.trans ((gr_of_none g11).mono hHeld.2.out.size)))) (fun hHeld' => ?_)
                clear hK K hHeld
                have hHeld := hHeld'
                clear hHeld'
                (try simp only [Act.put, List.setIfInBounds_toArray, List.set_cons_zero, List.set_cons_succ])
                refine wpAnyK_ready (rs := [7]) (by kernel_rfl) (by simp) ?_
                refine (AllReadyK.cons rfl (fun K hK => ?_) AllReadyK.nil)
                · have f7 := Hf6.out.below hHeld.2.out
                  have hp7 := hide (parK (m := m + nm) (bs ++ mo) hlz.out (by omega) g gt A6' c6' _ f7.fc.cod f7.fc.tab hm6 hc6 ((R6.out.keep fun k hk => by
                      have kl := R6.out.lt hk
                      (repeat (first | with_reducible rfl | refine (g1.block k (by omega) (by simp)).trans ?_ | refine (g3.block k (by omega) (by simp)).trans ?_ | refine (g6.block k (by omega) (by simp)).trans ?_ | refine (g7.block k (by omega) (by simp)).trans ?_ | refine (g11.block k (by omega) (by simp)).trans ?_))).rdlt))
                  rw [Hke3.out] at hp7
                  clear f7
                  go_simp
                  go_wp2_with ((go_at_call 11; (with_reducible refine hp7.out.mono ?_); rintro e w7 ⟨s7, N7, B7, Q7, E7, F7, l7, i7, A7, n7, c7, rfl, hb7⟩))
                  have g7 := gr_none hb7
                  have z7 := g7.size
                  clear hp7
                  refine hK.out _ _ (hcs.out _ (hide (hHeld.2.out.trans (hb7.mono hHeld.2.out.size)))) (fun hHeld' => ?_)
                  clear hK K hHeld
                  have hHeld := hHeld'
                  clear hHeld'
                  (try simp only [Act.put, List.setIfInBounds_toArray, List.set_cons_zero, List.set_cons_succ])
                  refine wpAnyK_take0 (i := 8) (v := ?_) rfl (by kernel_rfl) (by kernel_rfl) (by kernel_rfl) (by decide) (fun _ _ _ h => h) (Or.inl ⟨by rfl, ?_⟩) (fun _ => by assumption) ?_
                  rotate_left
                  (focus (intro y hSw; go_simp; first | done | with_reducible rfl))
                  (try simp only [Act.put, List.setIfInBounds_toArray, List.set_cons_zero, List.set_cons_succ])
                  refine wpAnyK_take0 (i := 9) (v := ?_) rfl (by kernel_rfl) (by kernel_rfl) (by kernel_rfl) (by decide) (fun _ _ _ h => h) (Or.inl ⟨by rfl, ?_⟩) (fun _ => by assumption) ?_
                  rotate_left
                  (focus (intro y hSw; go_simp; first | done | with_reducible rfl))
                  (try simp only [Act.put, List.setIfInBounds_toArray, List.set_cons_zero, List.set_cons_succ])
                  refine wpAnyK_take0 (i := 10) (v := ?_) rfl (by kernel_rfl) (by kernel_rfl) (by kernel_rfl) (by decide) (fun _ _ _ h => h) (Or.inl ⟨by rfl, ?_⟩) (fun _ => by assumption) ?_
                  rotate_left
                  (focus (intro y hSw; go_simp; first | done | with_reducible rfl))
                  (try simp only [Act.put, List.setIfInBounds_toArray, List.set_cons_zero, List.set_cons_succ])
                  have hga : w7.heap[w6'.heap.size]? = some (Obj.cells #[.int .u64 0, .int .i64 0, .int .i64 0, .int .i64 0, .int .i64 0, .int .i64 0, .int .i64 0, .int .u64 0, .slice none 0 0] 32 (0, 0)) := by (repeat (first | exact H11.out | refine (g1.block w6'.heap.size (by omega) (by simp)).trans ?_ | refine (g3.block w6'.heap.size (by omega) (by simp)).trans ?_ | refine (g6.block w6'.heap.size (by omega) (by simp [Value.ownBlock]; omega)).trans ?_ | refine (g7.block w6'.heap.size (by omega) (by simp)).trans ?_ | refine (g11.block w6'.heap.size (by omega) (by simp)).trans ?_))
                  have hgW : W6.heap.size ≤ w6'.heap.size := by omega
                  have b7 := hHeld.2.out
                  refine wpAnyK_ready (rs := [12]) (by kernel_rfl) (by simp) ?_
                  refine AllReadyK.late rfl (by kernel_rfl) (fun K hK => ?_) AllReadyK.nil
                  rw [if_pos (by rfl)]
                  refine wp_store_mid 32 (.tmp 16) (.tmp 110) rfl (w6'.heap.size) 0 #[.int .u64 (s7 : Int), .int .i64 N7, .int .i64 B7, .int .i64 Q7, .int .i64 E7, .int .i64 F7, .int .i64 l7, .int .u64 (i7 : Int), .slice A7 n7 c7] (by rfl) (by rfl) (there9 hga) (by kernel_rfl) (by simp [Value.oneCell']) ?_
                  obtain ⟨Z, hZ⟩ : ∃ Z, Z = (((((((((w7.setCell ⟨w6'.heap.size, 0, none⟩ (.int .u64 (s7 : Int))).setCell ⟨w6'.heap.size, 1, none⟩ (.int .i64 N7)).setCell ⟨w6'.heap.size, 2, none⟩ (.int .i64 B7)).setCell ⟨w6'.heap.size, 3, none⟩ (.int .i64 Q7)).setCell ⟨w6'.heap.size, 4, none⟩ (.int .i64 E7)).setCell ⟨w6'.heap.size, 5, none⟩ (.int .i64 F7)).setCell ⟨w6'.heap.size, 6, none⟩ (.int .i64 l7)).setCell ⟨w6'.heap.size, 7, none⟩ (.int .u64 (i7 : Int))).setCell ⟨w6'.heap.size, 8, none⟩ (.slice A7 n7 c7)) := ⟨_, rfl⟩
                  obtain ⟨-, hcZ⟩ := set9 _ _ _ _ _ _ _ _ _ hga hZ
                  refine at_world (C := K _) (Z := Z) (by rw [hZ]; rfl) ?_
                  clear hZ
                  refine hK.out _ _ ?_
                  clear hK K hHeld
                  (try simp only [Act.put, List.setIfInBounds_toArray, List.set_cons_zero, List.set_cons_succ])
                  refine wpAnyK_ready (rs := [13]) (by kernel_rfl) (by simp) ?_
                  refine AllReadyK.late rfl (by kernel_rfl) (fun K hK => ?_) AllReadyK.nil
                  go_simp
                  refine hK.out _ _ ?_
                  clear hK K
                  (try simp only [Act.put, List.setIfInBounds_toArray, List.set_cons_zero, List.set_cons_succ])
                  refine wpAnyK_done (by kernel_rfl) ?_ _
                  have bZ := hide (hcZ.below b7 b7.size (fun b hb => by omega))
                  go_wp2_with fail
                  go_meet
                  exact ⟨⟨_, rfl⟩, rfl, bZ.out⟩
            · go_simp
              refine named_alloc (C := K _) ?_
              intro w11 h11 g11 z11 z11a
              have H11 := hide h11
              clear h11
              refine hK.out _ _ (hcs.out _ (hide (hHeld.2.out.trans ((gr_of_none g11).mono hHeld.2.out.size)))) (fun hHeld' => ?_)
              clear hK K hHeld
              have hHeld := hHeld'
              clear hHeld'
              (try simp only [Act.put, List.setIfInBounds_toArray, List.set_cons_zero, List.set_cons_succ])
              refine wpAnyK_ready (rs := [6]) (by kernel_rfl) (by simp) ?_
              refine (AllReadyK.cons rfl (fun K hK => ?_) AllReadyK.nil)
              · have s6' := ((Hmr.out.below (Hf6.out.fc.bel.trans (hHeld.2.out.mono Hf6.out.fc.bel.size))).srcB)
                rw [if_pos (by rfl)]
                refine op_app 108 rfl (.tmp 105) (.tmp 107) 22 rfl Try.underlying22 infoB rfl (us := bs.map encB) (by rfl) (R3.out.keep fun k hk => by
                    simp [Value.ownBlock] at hk
                    subst hk
                    (repeat (first | with_reducible rfl | refine (g1.block _ (by omega) (by simp)).trans ?_ | refine (g3.block _ (by omega) (by simp)).trans ?_ | refine (g6.block _ (by omega) (by simp)).trans ?_ | refine (g7.block _ (by omega) (by simp)).trans ?_ | refine (g11.block _ (by omega) (by simp)).trans ?_))) (A := M) (c := d) (news := mo.map encB) (by rw [hlm.out]; rfl) s6' hom.out (by rw [hlb.out, hlm.out]; omega) (by rw [hlb.out, hlm.out]; unfold maxLen; omega) ?_
                intro v6 w6' r6 g6 a6'
                have z6' := g6.size
                rw [← List.map_append] at r6
                obtain ⟨A6', c6', rfl, hc6, hm6⟩ := r6.shape
                rw [List.length_map, hlz.out] at r6 hc6 a6' ⊢
                have R6 := hide r6
                have own6 := hide (show ∀ k, (Value.slice A6' (m + nm) c6').ownBlock = some k → W6.heap.size ≤ k from fun k hk => by
                    have zh := hHeld.2.out.size
                    rcases a6' with e | e
                    · rw [show (Value.slice A6' (m + nm) c6').ownBlock = _ from e] at hk; simp [Value.ownBlock] at hk; omega
                    · rw [show (Value.slice A6' (m + nm) c6').ownBlock = _ from e] at hk; injection hk with hk; omega)
                have b6' : Below W6.heap.size W6 w6' := (Ch.of_grown g6).below hHeld.2.out hHeld.2.out.size (fun b hb => by simp [Value.ownBlock] at hb; omega)
                clear r6 s6'
                refine hK.out _ _ (hcs.out _ (hide b6')) (fun hHeld' => ?_)
                clear hK K hHeld
                have hHeld := hHeld'
                clear hHeld'
                (try simp only [Act.put, List.setIfInBounds_toArray, List.set_cons_zero, List.set_cons_succ])
                refine wpAnyK_ready (rs := [7]) (by kernel_rfl) (by simp) ?_
                refine (AllReadyK.cons rfl (fun K hK => ?_) AllReadyK.nil)
                · have f7 := Hf6.out.below hHeld.2.out
                  have hp7 := hide (parK (m := m + nm) (bs ++ mo) hlz.out (by omega) g gt A6' c6' _ f7.fc.cod f7.fc.tab hm6 hc6 ((R6.out.keep fun k hk => by
                      have kl := R6.out.lt hk
                      (repeat (first | with_reducible rfl | refine (g1.block k (by omega) (by simp)).trans ?_ | refine (g3.block k (by omega) (by simp)).trans ?_ | refine (g6.block k (by omega) (by simp)).trans ?_ | refine (g7.block k (by omega) (by simp)).trans ?_ | refine (g11.block k (by omega) (by simp)).trans ?_))).rdlt))
                  rw [Hke3.out] at hp7
                  clear f7
                  go_simp
                  go_wp2_with ((go_at_call 11; (with_reducible refine hp7.out.mono ?_); rintro e w7 ⟨s7, N7, B7, Q7, E7, F7, l7, i7, A7, n7, c7, rfl, hb7⟩))
                  have g7 := gr_none hb7
                  have z7 := g7.size
                  clear hp7
                  refine hK.out _ _ (hcs.out _ (hide (hHeld.2.out.trans (hb7.mono hHeld.2.out.size)))) (fun hHeld' => ?_)
                  clear hK K hHeld
                  have hHeld := hHeld'
                  clear hHeld'
                  (try simp only [Act.put, List.setIfInBounds_toArray, List.set_cons_zero, List.set_cons_succ])
                  refine wpAnyK_take0 (i := 8) (v := ?_) rfl (by kernel_rfl) (by kernel_rfl) (by kernel_rfl) (by decide) (fun _ _ _ h => h) (Or.inl ⟨by rfl, ?_⟩) (fun _ => by assumption) ?_
                  rotate_left
                  (focus (intro y hSw; go_simp; first | done | with_reducible rfl))
                  (try simp only [Act.put, List.setIfInBounds_toArray, List.set_cons_zero, List.set_cons_succ])
                  refine wpAnyK_take0 (i := 9) (v := ?_) rfl (by kernel_rfl) (by kernel_rfl) (by kernel_rfl) (by decide) (fun _ _ _ h => h) (Or.inl ⟨by rfl, ?_⟩) (fun _ => by assumption) ?_
                  rotate_left
                  (focus (intro y hSw; go_simp; first | done | with_reducible rfl))
                  (try simp only [Act.put, List.setIfInBounds_toArray, List.set_cons_zero, List.set_cons_succ])
                  refine wpAnyK_take0 (i := 10) (v := ?_) rfl (by kernel_rfl) (by kernel_rfl) (by kernel_rfl) (by decide) (fun _ _ _ h => h) (Or.inl ⟨by rfl, ?_⟩) (fun _ => by assumption) ?_
                  rotate_left
                  (focus (intro y hSw; go_simp; first | done | with_reducible rfl))
                  (try simp only [Act.put, List.setIfInBounds_toArray, List.set_cons_zero, List.set_cons_succ])
                  have hga : w7.heap[w3'.heap.size]? = some (Obj.cells #[.int .u64 0, .int .i64 0, .int .i64 0, .int .i64 0, .int .i64 0, .int .i64 0, .int .i64 0, .int .u64 0, .slice none 0 0] 32 (0, 0)) := by (repeat (first | exact H11.out | refine (g1.block w3'.heap.size (by omega) (by simp)).trans ?_ | refine (g3.block w3'.heap.size (by omega) (by simp)).trans ?_ | refine (g6.block w3'.heap.size (by omega) (by simp [Value.ownBlock]; omega)).trans ?_ | refine (g7.block w3'.heap.size (by omega) (by simp)).trans ?_ | refine (g11.block w3'.heap.size (by omega) (by simp)).trans ?_))
                  have hgW : W6.heap.size ≤ w3'.heap.size := by omega
                  have b7 := hHeld.2.out
                  refine wpAnyK_ready (rs := [12]) (by kernel_rfl) (by simp) ?_
                  refine AllReadyK.late rfl (by kernel_rfl) (fun K hK => ?_) AllReadyK.nil
                  rw [if_pos (by rfl)]
                  refine wp_store_mid 32 (.tmp 16) (.tmp 110) rfl (w3'.heap.size) 0 #[.int .u64 (s7 : Int), .int .i64 N7, .int .i64 B7, .int .i64 Q7, .int .i64 E7, .int .i64 F7, .int .i64 l7, .int .u64 (i7 : Int), .slice A7 n7 c7] (by rfl) (by rfl) (there9 hga) (by kernel_rfl) (by simp [Value.oneCell']) ?_
                  obtain ⟨Z, hZ⟩ : ∃ Z, Z = (((((((((w7.setCell ⟨w3'.heap.size, 0, none⟩ (.int .u64 (s7 : Int))).setCell ⟨w3'.heap.size, 1, none⟩ (.int .i64 N7)).setCell ⟨w3'.heap.size, 2, none⟩ (.int .i64 B7)).setCell ⟨w3'.heap.size, 3, none⟩ (.int .i64 Q7)).setCell ⟨w3'.heap.size, 4, none⟩ (.int .i64 E7)).setCell ⟨w3'.heap.size, 5, none⟩ (.int .i64 F7)).setCell ⟨w3'.heap.size, 6, none⟩ (.int .i64 l7)).setCell ⟨w3'.heap.size, 7, none⟩ (.int .u64 (i7 : Int))).setCell ⟨w3'.heap.size, 8, none⟩ (.slice A7 n7 c7)) := ⟨_, rfl⟩
                  obtain ⟨-, hcZ⟩ := set9 _ _ _ _ _ _ _ _ _ hga hZ
                  refine at_world (C := K _) (Z := Z) (by rw [hZ]; rfl) ?_
                  clear hZ
                  refine hK.out _ _ ?_
                  clear hK K hHeld
                  (try simp only [Act.put, List.setIfInBounds_toArray, List.set_cons_zero, List.set_cons_succ])
                  refine wpAnyK_ready (rs := [13]) (by kernel_rfl) (by simp) ?_
                  refine AllReadyK.late rfl (by kernel_rfl) (fun K hK => ?_) AllReadyK.nil
                  go_simp
                  refine hK.out _ _ ?_
                  clear hK K
                  (try simp only [Act.put, List.setIfInBounds_toArray, List.set_cons_zero, List.set_cons_succ])
                  refine wpAnyK_done (by kernel_rfl) ?_ _
                  have bZ := hide (hcZ.below b7 b7.size (fun b hb => by omega))
                  go_wp2_with fail
                  go_meet
                  exact ⟨⟨_, rfl⟩, rfl, bZ.out⟩
          · go_simp
            refine named_alloc (C := K _) ?_
            intro w11 h11 g11 z11 z11a
            have H11 := hide h11
            clear h11
            refine hK.out _ _ (hcs.out _ (hide (hHeld.2.out.trans ((gr_of_none g11).mono hHeld.2.out.size)))) (fun hHeld' => ?_)
            clear hK K hHeld
            have hHeld := hHeld'
            clear hHeld'
            (try simp only [Act.put, List.setIfInBounds_toArray, List.set_cons_zero, List.set_cons_succ])
            refine wpAnyK_ready (rs := [3]) (by kernel_rfl) (by simp) ?_
            refine (AllReadyK.cons rfl (fun K hK => ?_) AllReadyK.nil)
            · have s3 := (Hf6.out.below hHeld.2.out).fc.row.src
              rw [if_pos (by rfl)]
              refine op_app_lit 105 rfl (.tmp 103) (.tmp 104) 22 rfl Try.underlying22 infoB rfl (g := _) (news := bs.map encB) rfl (A := A1) (c := a1) (by rw [hlb.out]; rfl) s3 ho.out (by rw [hlb.out]; omega) (by rw [hlb.out]; unfold maxLen; omega) ?_
              intro v3 w3' hn3
              obtain ⟨c3, rfl, r3, hc3, hm3, b3⟩ := hn3.full (by rw [hlb.out]; omega)
              have g3 := gr_none b3
              have z3' := g3.size
              have z3a := r3.lt rfl
              have R3 := hide r3
              rw [hlb.out] at R3 ⊢
              clear hn3 r3 s3
              refine hK.out _ _ (hcs.out _ (hide (hHeld.2.out.trans (b3.mono hHeld.2.out.size)))) (fun hHeld' => ?_)
              clear hK K hHeld
              have hHeld := hHeld'
              clear hHeld'
              (try simp only [Act.put, List.setIfInBounds_toArray, List.set_cons_zero, List.set_cons_succ])
              refine wpAnyK_ready (rs := [6]) (by kernel_rfl) (by simp) ?_
              refine (AllReadyK.cons rfl (fun K hK => ?_) AllReadyK.nil)
              · have s6' := ((Hmr.out.below (Hf6.out.fc.bel.trans (hHeld.2.out.mono Hf6.out.fc.bel.size))).srcB)
                rw [if_pos (by rfl)]
                refine op_app 108 rfl (.tmp 105) (.tmp 107) 22 rfl Try.underlying22 infoB rfl (us := bs.map encB) (by rfl) (R3.out.keep fun k hk => by
                    simp [Value.ownBlock] at hk
                    subst hk
                    (repeat (first | with_reducible rfl | refine (g1.block _ (by omega) (by simp)).trans ?_ | refine (g3.block _ (by omega) (by simp)).trans ?_ | refine (g6.block _ (by omega) (by simp)).trans ?_ | refine (g7.block _ (by omega) (by simp)).trans ?_ | refine (g11.block _ (by omega) (by simp)).trans ?_))) (A := M) (c := d) (news := mo.map encB) (by rw [hlm.out]; rfl) s6' hom.out (by rw [hlb.out, hlm.out]; omega) (by rw [hlb.out, hlm.out]; unfold maxLen; omega) ?_
                intro v6 w6' r6 g6 a6'
                have z6' := g6.size
                rw [← List.map_append] at r6
                obtain ⟨A6', c6', rfl, hc6, hm6⟩ := r6.shape
                rw [List.length_map, hlz.out] at r6 hc6 a6' ⊢
                have R6 := hide r6
                have own6 := hide (show ∀ k, (Value.slice A6' (m + nm) c6').ownBlock = some k → W6.heap.size ≤ k from fun k hk => by
                    have zh := hHeld.2.out.size
                    rcases a6' with e | e
                    · rw [show (Value.slice A6' (m + nm) c6').ownBlock = _ from e] at hk; simp [Value.ownBlock] at hk; omega
                    · rw [show (Value.slice A6' (m + nm) c6').ownBlock = _ from e] at hk; injection hk with hk; omega)
                have b6' : Below W6.heap.size W6 w6' := (Ch.of_grown g6).below hHeld.2.out hHeld.2.out.size (fun b hb => by simp [Value.ownBlock] at hb; omega)
                clear r6 s6'
                refine hK.out _ _ (hcs.out _ (hide b6')) (fun hHeld' => ?_)
                clear hK K hHeld
                have hHeld := hHeld'
                clear hHeld'
                (try simp only [Act.put, List.setIfInBounds_toArray, List.set_cons_zero, List.set_cons_succ])
                refine wpAnyK_ready (rs := [7]) (by kernel_rfl) (by simp) ?_
                refine (AllReadyK.cons rfl (fun K hK => ?_) AllReadyK.nil)
                · have f7 := Hf6.out.below hHeld.2.out
                  have hp7 := hide (parK (m := m + nm) (bs ++ mo) hlz.out (by omega) g gt A6' c6' _ f7.fc.cod f7.fc.tab hm6 hc6 ((R6.out.keep fun k hk => by
                      have kl := R6.out.lt hk
                      (repeat (first | with_reducible rfl | refine (g1.block k (by omega) (by simp)).trans ?_ | refine (g3.block k (by omega) (by simp)).trans ?_ | refine (g6.block k (by omega) (by simp)).trans ?_ | refine (g7.block k (by omega) (by simp)).trans ?_ | refine (g11.block k (by omega) (by simp)).trans ?_))).rdlt))
                  rw [Hke3.out] at hp7
                  clear f7
                  go_simp
                  go_wp2_with ((go_at_call 11; (with_reducible refine hp7.out.mono ?_); rintro e w7 ⟨s7, N7, B7, Q7, E7, F7, l7, i7, A7, n7, c7, rfl, hb7⟩))
                  have g7 := gr_none hb7
                  have z7 := g7.size
                  clear hp7
                  refine hK.out _ _ (hcs.out _ (hide (hHeld.2.out.trans (hb7.mono hHeld.2.out.size)))) (fun hHeld' => ?_)
                  clear hK K hHeld
                  have hHeld := hHeld'
                  clear hHeld'
                  (try simp only [Act.put, List.setIfInBounds_toArray, List.set_cons_zero, List.set_cons_succ])
                  refine wpAnyK_take0 (i := 8) (v := ?_) rfl (by kernel_rfl) (by kernel_rfl) (by kernel_rfl) (by decide) (fun _ _ _ h => h) (Or.inl ⟨by rfl, ?_⟩) (fun _ => by assumption) ?_
                  rotate_left
                  (focus (intro y hSw; go_simp; first | done | with_reducible rfl))
                  (try simp only [Act.put, List.setIfInBounds_toArray, List.set_cons_zero, List.set_cons_succ])
                  refine wpAnyK_take0 (i := 9) (v := ?_) rfl (by kernel_rfl) (by kernel_rfl) (by kernel_rfl) (by decide) (fun _ _ _ h => h) (Or.inl ⟨by rfl, ?_⟩) (fun _ => by assumption) ?_
                  rotate_left
                  (focus (intro y hSw; go_simp; first | done | with_reducible rfl))
                  (try simp only [Act.put, List.setIfInBounds_toArray, List.set_cons_zero, List.set_cons_succ])
                  refine wpAnyK_take0 (i := 10) (v := ?_) rfl (by kernel_rfl) (by kernel_rfl) (by kernel_rfl) (by decide) (fun _ _ _ h => h) (Or.inl ⟨by rfl, ?_⟩) (fun _ => by assumption) ?_
                  rotate_left
                  (focus (intro y hSw; go_simp; first | done | with_reducible rfl))
                  (try simp only [Act.put, List.setIfInBounds_toArray, List.set_cons_zero, List.set_cons_succ])
                  have hga : w7.heap[w1'.heap.size]? = some (Obj.cells #[.int .u64 0, .int .i64 0, .int .i64 0, .int .i64 0, .int .i64 0, .int .i64 0, .int .i64 0, .int .u64 0, .slice none 0 0] 32 (0, 0)) := by (repeat (first | exact H11.out | refine (g1.block w1'.heap.size (by omega) (by simp)).trans ?_ | refine (g3.block w1'.heap.size (by omega) (by simp)).trans ?_ | refine (g6.block w1'.heap.size (by omega) (by simp [Value.ownBlock]; omega)).trans ?_ | refine (g7.block w1'.heap.size (by omega) (by simp)).trans ?_ | refine (g11.block w1'.heap.size (by omega) (by simp)).trans ?_))
                  have hgW : W6.heap.size ≤ w1'.heap.size := by omega
                  have b7 := hHeld.2.out
                  refine wpAnyK_ready (rs := [12]) (by kernel_rfl) (by simp) ?_
                  refine AllReadyK.late rfl (by kernel_rfl) (fun K hK => ?_) AllReadyK.nil
                  rw [if_pos (by rfl)]
                  refine wp_store_mid 32 (.tmp 16) (.tmp 110) rfl (w1'.heap.size) 0 #[.int .u64 (s7 : Int), .int .i64 N7, .int .i64 B7, .int .i64 Q7, .int .i64 E7, .int .i64 F7, .int .i64 l7, .int .u64 (i7 : Int), .slice A7 n7 c7] (by rfl) (by rfl) (there9 hga) (by kernel_rfl) (by simp [Value.oneCell']) ?_
                  obtain ⟨Z, hZ⟩ : ∃ Z, Z = (((((((((w7.setCell ⟨w1'.heap.size, 0, none⟩ (.int .u64 (s7 : Int))).setCell ⟨w1'.heap.size, 1, none⟩ (.int .i64 N7)).setCell ⟨w1'.heap.size, 2, none⟩ (.int .i64 B7)).setCell ⟨w1'.heap.size, 3, none⟩ (.int .i64 Q7)).setCell ⟨w1'.heap.size, 4, none⟩ (.int .i64 E7)).setCell ⟨w1'.heap.size, 5, none⟩ (.int .i64 F7)).setCell ⟨w1'.heap.size, 6, none⟩ (.int .i64 l7)).setCell ⟨w1'.heap.size, 7, none⟩ (.int .u64 (i7 : Int))).setCell ⟨w1'.heap.size, 8, none⟩ (.slice A7 n7 c7)) := ⟨_, rfl⟩
                  obtain ⟨-, hcZ⟩ := set9 _ _ _ _ _ _ _ _ _ hga hZ
                  refine at_world (C := K _) (Z := Z) (by rw [hZ]; rfl) ?_
                  clear hZ
                  refine hK.out _ _ ?_
                  clear hK K hHeld
                  (try simp only [Act.put, List.setIfInBounds_toArray, List.set_cons_zero, List.set_cons_succ])
                  refine wpAnyK_ready (rs := [13]) (by kernel_rfl) (by simp) ?_
                  refine AllReadyK.late rfl (by kernel_rfl) (fun K hK => ?_) AllReadyK.nil
                  go_simp
                  refine hK.out _ _ ?_
                  clear hK K
                  (try simp only [Act.put, List.setIfInBounds_toArray, List.set_cons_zero, List.set_cons_succ])
                  refine wpAnyK_done (by kernel_rfl) ?_ _
                  have bZ := hide (hcZ.below b7 b7.size (fun b hb => by omega))
                  go_wp2_with fail
                  go_meet
                  exact ⟨⟨_, rfl⟩, rfl, bZ.out⟩
        · go_simp
          refine named_alloc (C := K _) ?_
          intro w11 h11 g11 z11 z11a
          have H11 := hide h11
          clear h11
          refine hK.out _ _ (hcs.out _ (hide (hHeld.2.out.trans ((gr_of_none g11).mono hHeld.2.out.size)))) (fun hHeld' => ?_)
          clear hK K hHeld
          have hHeld := hHeld'
          clear hHeld'
          (try simp only [Act.put, List.setIfInBounds_toArray, List.set_cons_zero, List.set_cons_succ])
          refine wpAnyK_ready (rs := [1]) (by kernel_rfl) (by simp) ?_
          refine (AllReadyK.cons rfl (fun K hK => ?_) AllReadyK.nil)
          · go_simp
            refine named_alloc (C := K _) ?_
            intro w1' h1' g1 z1' z1a
            clear h1'
            refine hK.out _ _ (hcs.out _ (hide (hHeld.2.out.trans ((gr_of_none g1).mono hHeld.2.out.size)))) (fun hHeld' => ?_)
            clear hK K hHeld
            have hHeld := hHeld'
            clear hHeld'
            (try simp only [Act.put, List.setIfInBounds_toArray, List.set_cons_zero, List.set_cons_succ])
            refine wpAnyK_ready (rs := [3]) (by kernel_rfl) (by simp) ?_
            refine (AllReadyK.cons rfl (fun K hK => ?_) AllReadyK.nil)
            · have s3 := (Hf6.out.below hHeld.2.out).fc.row.src
              rw [if_pos (by rfl)]
              refine op_app_lit 105 rfl (.tmp 103) (.tmp 104) 22 rfl Try.underlying22 infoB rfl (g := _) (news := bs.map encB) rfl (A := A1) (c := a1) (by rw [hlb.out]; rfl) s3 ho.out (by rw [hlb.out]; omega) (by rw [hlb.out]; unfold maxLen; omega) ?_
              intro v3 w3' hn3
              obtain ⟨c3, rfl, r3, hc3, hm3, b3⟩ := hn3.full (by rw [hlb.out]; omega)
              have g3 := gr_none b3
              have z3' := g3.size
              have z3a := r3.lt rfl
              have R3 := hide r3
              rw [hlb.out] at R3 ⊢
              clear hn3 r3 s3
              refine hK.out _ _ (hcs.out _ (hide (hHeld.2.out.trans (b3.mono hHeld.2.out.size)))) (fun hHeld' => ?_)
              clear hK K hHeld
              have hHeld := hHeld'
              clear hHeld'
              (try simp only [Act.put, List.setIfInBounds_toArray, List.set_cons_zero, List.set_cons_succ])
              refine wpAnyK_ready (rs := [6]) (by kernel_rfl) (by simp) ?_
              refine (AllReadyK.cons rfl (fun K hK => ?_) AllReadyK.nil)
              · have s6' := ((Hmr.out.below (Hf6.out.fc.bel.trans (hHeld.2.out.mono Hf6.out.fc.bel.size))).srcB)
                rw [if_pos (by rfl)]
                refine op_app 108 rfl (.tmp 105) (.tmp 107) 22 rfl Try.underlying22 infoB rfl (us := bs.map encB) (by rfl) (R3.out.keep fun k hk => by
                    simp [Value.ownBlock] at hk
                    subst hk
                    (repeat (first | with_reducible rfl | refine (g1.block _ (by omega) (by simp)).trans ?_ | refine (g3.block _ (by omega) (by simp)).trans ?_ | refine (g6.block _ (by omega) (by simp)).trans ?_ | refine (g7.block _ (by omega) (by simp)).trans ?_ | refine (g11.block _ (by omega) (by simp)).trans ?_))) (A := M) (c := d) (news := mo.map encB) (by rw [hlm.out]; rfl) s6' hom.out (by rw [hlb.out, hlm.out]; omega) (by rw [hlb.out, hlm.out]; unfold maxLen; omega) ?_
                intro v6 w6' r6 g6 a6'
                have z6' := g6.size
                rw [← List.map_append] at r6
                obtain ⟨A6', c6', rfl, hc6, hm6⟩ := r6.shape
                rw [List.length_map, hlz.out] at r6 hc6 a6' ⊢
                have R6 := hide r6
                have own6 := hide (show ∀ k, (Value.slice A6' (m + nm) c6').ownBlock = some k → W6.heap.size ≤ k from fun k hk => by
                    have zh := hHeld.2.out.size
                    rcases a6' with e | e
                    · rw [show (Value.slice A6' (m + nm) c6').ownBlock = _ from e] at hk; simp [Value.ownBlock] at hk; omega
                    · rw [show (Value.slice A6' (m + nm) c6').ownBlock = _ from e] at hk; injection hk with hk; omega)
                have b6' : Below W6.heap.size W6 w6' := (Ch.of_grown g6).below hHeld.2.out hHeld.2.out.size (fun b hb => by simp [Value.ownBlock] at hb; omega)
                clear r6 s6'
                refine hK.out _ _ (hcs.out _ (hide b6')) (fun hHeld' => ?_)
                clear hK K hHeld
                have hHeld := hHeld'
                clear hHeld'
                (try simp only [Act.put, List.setIfInBounds_toArray, List.set_cons_zero, List.set_cons_succ])
                refine wpAnyK_ready (rs := [7]) (by kernel_rfl) (by simp) ?_
                refine (AllReadyK.cons rfl (fun K hK => ?_) AllReadyK.nil)
                · have f7 := Hf6.out.below hHeld.2.out
                  have hp7 := hide (parK (m := m + nm) (bs ++ mo) hlz.out (by omega) g gt A6' c6' _ f7.fc.cod f7.fc.tab hm6 hc6 ((R6.out.keep fun k hk => by
                      have kl := R6.out.lt hk
                      (repeat (first | with_reducible rfl | refine (g1.block k (by omega) (by simp)).trans ?_ | refine (g3.block k (by omega) (by simp)).trans ?_ | refine (g6.block k (by omega) (by simp)).trans ?_ | refine (g7.block k (by omega) (by simp)).trans ?_ | refine (g11.block k (by omega) (by simp)).trans ?_))).rdlt))
                  rw [Hke3.out] at hp7
                  clear f7
                  go_simp
                  go_wp2_with ((go_at_call 11; (with_reducible refine hp7.out.mono ?_); rintro e w7 ⟨s7, N7, B7, Q7, E7, F7, l7, i7, A7, n7, c7, rfl, hb7⟩))
                  have g7 := gr_none hb7
                  have z7 := g7.size
                  clear hp7
                  refine hK.out _ _ (hcs.out _ (hide (hHeld.2.out.trans (hb7.mono hHeld.2.out.size)))) (fun hHeld' => ?_)
                  clear hK K hHeld
                  have hHeld := hHeld'
                  clear hHeld'
                  (try simp only [Act.put, List.setIfInBounds_toArray, List.set_cons_zero, List.set_cons_succ])
                  refine wpAnyK_take0 (i := 8) (v := ?_) rfl (by kernel_rfl) (by kernel_rfl) (by kernel_rfl) (by decide) (fun _ _ _ h => h) (Or.inl ⟨by rfl, ?_⟩) (fun _ => by assumption) ?_
                  rotate_left
                  (focus (intro y hSw; go_simp; first | done | with_reducible rfl))
                  (try simp only [Act.put, List.setIfInBounds_toArray, List.set_cons_zero, List.set_cons_succ])
                  refine wpAnyK_take0 (i := 9) (v := ?_) rfl (by kernel_rfl) (by kernel_rfl) (by kernel_rfl) (by decide) (fun _ _ _ h => h) (Or.inl ⟨by rfl, ?_⟩) (fun _ => by assumption) ?_
                  rotate_left
                  (focus (intro y hSw; go_simp; first | done | with_reducible rfl))
                  (try simp only [Act.put, List.setIfInBounds_toArray, List.set_cons_zero, List.set_cons_succ])
                  refine wpAnyK_take0 (i := 10) (v := ?_) rfl (by kernel_rfl) (by kernel_rfl) (by kernel_rfl) (by decide) (fun _ _ _ h => h) (Or.inl ⟨by rfl, ?_⟩) (fun _ => by assumption) ?_
                  rotate_left
                  (focus (intro y hSw; go_simp; first | done | with_reducible rfl))
                  (try simp only [Act.put, List.setIfInBounds_toArray, List.set_cons_zero, List.set_cons_succ])
                  have hga : w7.heap[x6.heap.size]? = some (Obj.cells #[.int .u64 0, .int .i64 0, .int .i64 0, .int .i64 0, .int .i64 0, .int .i64 0, .int .i64 0, .int .u64 0, .slice none 0 0] 32 (0, 0)) := by (repeat (first | exact H11.out | refine (g1.block x6.heap.size (by omega) (by simp)).trans ?_ | refine (g3.block x6.heap.size (by omega) (by simp)).trans ?_ | refine (g6.block x6.heap.size (by omega) (by simp [Value.ownBlock]; omega)).trans ?_ | refine (g7.block x6.heap.size (by omega) (by simp)).trans ?_ | refine (g11.block x6.heap.size (by omega) (by simp)).trans ?_))
                  have hgW : W6.heap.size ≤ x6.heap.size := by omega
                  have b7 := hHeld.2.out
                  refine wpAnyK_ready (rs := [12]) (by kernel_rfl) (by simp) ?_
                  refine AllReadyK.late rfl (by kernel_rfl) (fun K hK => ?_) AllReadyK.nil
                  rw [if_pos (by rfl)]
                  refine wp_store_mid 32 (.tmp 16) (.tmp 110) rfl (x6.heap.size) 0 #[.int .u64 (s7 : Int), .int .i64 N7, .int .i64 B7, .int .i64 Q7, .int .i64 E7, .int .i64 F7, .int .i64 l7, .int .u64 (i7 : Int), .slice A7 n7 c7] (by rfl) (by rfl) (there9 hga) (by kernel_rfl) (by simp [Value.oneCell']) ?_
                  obtain ⟨Z, hZ⟩ : ∃ Z, Z = (((((((((w7.setCell ⟨x6.heap.size, 0, none⟩ (.int .u64 (s7 : Int))).setCell ⟨x6.heap.size, 1, none⟩ (.int .i64 N7)).setCell ⟨x6.heap.size, 2, none⟩ (.int .i64 B7)).setCell ⟨x6.heap.size, 3, none⟩ (.int .i64 Q7)).setCell ⟨x6.heap.size, 4, none⟩ (.int .i64 E7)).setCell ⟨x6.heap.size, 5, none⟩ (.int .i64 F7)).setCell ⟨x6.heap.size, 6, none⟩ (.int .i64 l7)).setCell ⟨x6.heap.size, 7, none⟩ (.int .u64 (i7 : Int))).setCell ⟨x6.heap.size, 8, none⟩ (.slice A7 n7 c7)) := ⟨_, rfl⟩
                  obtain ⟨-, hcZ⟩ := set9 _ _ _ _ _ _ _ _ _ hga hZ
                  refine at_world (C := K _) (Z := Z) (by rw [hZ]; rfl) ?_
                  clear hZ
                  refine hK.out _ _ ?_
                  clear hK K hHeld
                  (try simp only [Act.put, List.setIfInBounds_toArray, List.set_cons_zero, List.set_cons_succ])
                  refine wpAnyK_ready (rs := [13]) (by kernel_rfl) (by simp) ?_
                  refine AllReadyK.late rfl (by kernel_rfl) (fun K hK => ?_) AllReadyK.nil
                  go_simp
                  refine hK.out _ _ ?_
                  clear hK K
                  (try simp only [Act.put, List.setIfInBounds_toArray, List.set_cons_zero, List.set_cons_succ])
                  refine wpAnyK_done (by kernel_rfl) ?_ _
                  have bZ := hide (hcZ.below b7 b7.size (fun b hb => by omega))
                  go_wp2_with fail
                  go_meet
                  exact ⟨⟨_, rfl⟩, rfl, bZ.out⟩
      case rest =>
      obtain ⟨⟨ga, rfl⟩, rfl, hbc⟩ := hcut
      have Hfc := hide (Hf6.out.below hbc)
      have zc := hbc.size
      have hp8 := hide (parK (m := m) bs Hl.out (by omega) g gt A1 a1 _ Hfc.out.fc.cod Hfc.out.fc.tab hma1 hca1 Hfc.out.fc.row.rdlt)
      rw [Hm0.out] at hp8
      have b6c := hide (b6.out.trans (hbc.mono z6))
      clear hbc
      go_wp2_with fail
      refine hp8.out.mono ?_
      clear hp8
      rintro e w9 ⟨s9, N9, B9, Q9, E9, F9, l9, i9, A9, n9, c9, rfl, hb9⟩
      obtain ⟨W9, hW9, hbW9, hWs9, -⟩ := pbox' w9 (.int .u64 (s9 : Int)) (.int .i64 N9) (.int .i64 B9) (.int .i64 Q9) (.int .i64 E9) (.int .i64 F9) (.int .i64 l9) (.int .u64 (i9 : Int)) (.slice A9 n9 c9) 32
      have HW9 := hide hW9
      have b9 := hb9.trans (hbW9.mono hb9.size)
      have Hf9 := hide (Hfc.out.below b9)
      have bx := hide (b5.out.trans ((b6c.out.trans (b9.mono b6c.out.size)).mono b5.out.size))
      clear hW9 hb9 hbW9 hWs9 b9
      obtain ⟨-, -, -, d3⟩ := cells4 Hf9.out.hx
      have t1 := run_str (P := Try.prog) (w := W9) Try.underlying22 Try.underlying5 Try.underlying9 (Hwr.out.keepB bx.out).src c4
      have t2 := run_str (P := Try.prog) (w := W9) Try.underlying22 Try.underlying5 Try.underlying9 Hf9.out.fc.row.src a1
      rw [Lx.out] at t1
      rw [Hl.out] at t2
      obtain ⟨s, hs⟩ : ∃ s : Bool, decide (x = bs) = s := ⟨_, rfl⟩
      have q1 : ((bstr x).toList == (bstr bs).toList) = s := by rw [bstr_eq, hs]
      have q2 : ((ke1 : Int) == 0) = s := by
        rw [← hs]
        by_cases h : x = bs
        · rw [decide_eq_true h, Hk1.out.2 h]; rfl
        · rw [decide_eq_false h, beq_eq_false_iff_ne]; exact fun e => h (Hk1.out.1 (by omega))
      have q3 : ((ke2 : Int) != 0) = true := by rw [bne_iff_ne]; have := hk2.out; omega
      obtain ⟨t, ht⟩ : ∃ t : Bool, decide (mo = []) = t := ⟨_, rfl⟩
      have q4 : ((ke3 : Int) == 0) = t := by
        rw [← ht]
        by_cases h : mo = []
        · rw [decide_eq_true h, hk3.out.2 h]; rfl
        · rw [decide_eq_false h, beq_eq_false_iff_ne]; exact fun e => h (hk3.out.1 (by omega))
      have q5 : ((nm : Int) == 0) = t := by
        rw [← ht, ← Hnm.out]
        by_cases h : mo = []
        · rw [decide_eq_true h, h]; rfl
        · rw [decide_eq_false h, beq_eq_false_iff_ne]; exact fun e => h (List.eq_nil_of_length_eq_zero (by omega))
      generalize bstr x = st1 at t1 q1
      generalize bstr bs = st2 at t2 q1
      have hbe := hide Hf9.out.fc.bel
      clear hs ht
      go_upto_region 22 with fail
      rw [← HW9.out]
      go_wp2_with fail
      exact hR.out _ _ ⟨rfl, hbe.out⟩
end Go.Proofs.Ytopfpadfjfmmiaa
