/- FrameOrder, walked. -/
import Derived.Test.YtopfpadfjfmmiaaFrameOrder0
set_option linter.unusedVariables false
set_option linter.unusedSimpArgs false
namespace Go.Proofs.Ytopfpadfjfmmiaa
open Go.RowKit

/-- A codec, and a frame's bytes, behind w. -/
structure FC (w y : World) (g gt m a1 : Nat) (A1 : Option Addr) (bs : List UInt8) : Prop where
  bel : Below w.heap.size w y
  cod : y.heap[g]? = some (.cells #[.pointer (some ⟨gt, 0, none⟩)] 62 (0, 0))
  tab : TabAt y gt 256
  row : Row y 5 (.slice A1 m a1) (bs.map encB)
section
variable {w y z : World} {g gt m a1 : Nat} {A1 : Option Addr} {bs : List UInt8}
theorem FC.glt (h : FC w y g gt m a1 A1 bs) : g < y.heap.size := (Array.getElem?_eq_some_iff.1 h.cod).1
theorem FC.below (h : FC w y g gt m a1 A1 bs) (hb : Below y.heap.size y z) : FC w z g gt m a1 A1 bs :=
  ⟨h.bel.trans (hb.mono h.bel.size), (hb.block g h.glt).trans h.cod, h.tab.keep (hb.block gt h.tab.lt), h.row.keep fun k hk => hb.block k (h.row.lt hk)⟩
theorem FC.set (h : FC w y g gt m a1 A1 bs) {q i : Nat} {u : Value} (h0 : w.heap.size ≤ q) (h1 : q ≠ g) (h2 : q ≠ gt) (h3 : (Value.slice A1 m a1).ownBlock ≠ some q) : FC w (y.setCell ⟨q, i, none⟩ u) g gt m a1 A1 bs := by
  have hk : ∀ k, k ≠ q → (y.setCell ⟨q, i, none⟩ u).heap[k]? = y.heap[k]? := fun k hk => Below.heap_setCell y ⟨q, i, none⟩ u k hk
  exact ⟨h.bel.setCell h0 u, (hk g h1.symm).trans h.cod, h.tab.keep (hk gt h2.symm), h.row.keep fun k e => hk k fun e' => h3 (e' ▸ e)⟩
end
theorem u8_of {n : Int} (h0 : 0 ≤ n) (h1 : n ≤ 255) : ∃ x : UInt8, n = (x.toNat : Int) := ⟨UInt8.ofNat n.toNat, by rw [UInt8.toNat_ofNat']; omega⟩
theorem inc8' (x : UInt8) : IntKind.u8.wrap ((x.toNat : Int) + 1) = ((x + 1 : UInt8).toNat : Int) := by
  rw [UInt8.toNat_add]; simp [IntKind.wrap, IntKind.bits, IntKind.signed]
theorem Wr.keepB {w w' : World} {A : Option Addr} {g : Nat} {pre post : List Value} {e : TypeId} {ts : List UInt8} (h : Wr w A g pre post e ts) (hb : Below w.heap.size w w') : Wr w' A g pre post e ts := fun hp => ⟨(h hp).1, (hb.block g (Array.getElem?_eq_some_iff.1 (h hp).2).1).trans (h hp).2⟩
theorem pbox0 (w : World) (v0 v1 v2 v3 v4 v5 v6 v7 v8 : Value) (t : TypeId) : Below w.heap.size w (w.alloc (.cells #[v0, v1, v2, v3, v4, v5, v6, v7, v8] t)) := balloc w _
set_option maxRecDepth 100000 in
set_option maxHeartbeats 2000000 in
theorem Order_calls (se id : UInt64) (N B Q E F len : Int) (A : Option Addr) (pl : List UInt8) (c : Nat) (ver : UInt8) (par : Bool) (w : World) (hm : c ≤ maxLen) (hc : pl.length ≤ c) (hr : RdL Kd.byte (· < w.heap.size) w A pl) :
    Calls Try.prog 6 #[.agg #[.int .u64 (se.toNat : Int), .int .i64 N, .int .i64 B, .int .i64 Q, .int .i64 E, .int .i64 F, .int .i64 len, .int .u64 (id.toNat : Int), .slice A pl.length c], .int .u8 (ver.toNat : Int), .bool par] w fun e w' => e = .returned (.bool true) ∧ Below w.heap.size w w' := by
  refine cps fun R hR => ?_
  obtain ⟨W, hW, hbW, hWs, hWh⟩ := pbox' w (.int .u64 (se.toNat : Int)) (.int .i64 N) (.int .i64 B) (.int .i64 Q) (.int .i64 E) (.int .i64 F) (.int .i64 len) (.int .u64 (id.toNat : Int)) (.slice A pl.length c) 32
  have Hr := hide hr
  have HW := hide hW
  have HWh := hide hWh
  clear hr hW hWh
  have HF := hide (fun (y : World) (hy : RdL Kd.byte (· < y.heap.size) y A pl) => renc_any se id N B Q E F len A pl c y hm hc hy)
  have Hmath := hide (fun (b : List UInt8) h0 hb => order_math (se := se) (id := id) (N := N) (B := B) (Q := Q) (E := E) (F := F) (len := len) (pl := pl) (b := b) h0 hb)
  generalize encK N B Q E F len pl = k at *
  generalize hbs : encBs se id N B Q E F len pl = bs at *
  have Hbs := hide hbs
  clear hbs
  generalize hn : pl.length = n at *
  have Hn := hide hn
  clear hn
  go_enter Try.func6, Try.ntmps6
  go_wp2_with fail
  rw [← HW.out]
  refine (fspeaks_calls W).mono ?_
  rintro e w1 ⟨rfl, hb1⟩
  have Hh1 := hide ((hb1.block w.heap.size (by omega)).trans HWh.out)
  obtain ⟨c0, c1, c2, c3, c4, c5, c6, c7, c8⟩ := cells9 Hh1.out
  have Hb1 := hide (hbW.trans (hb1.mono hbW.size))
  by_cases h5 : 300 < n
  · go_wp2_with fail
    exact hR.out _ _ ⟨rfl, Hb1.out⟩
  go_wp2_with fail
  clear c0 c1 c2 c3 c4 c5 c6 c7 c8
  have Hr1 := hide ((Hr.out.keep fun k hk => Hb1.out.block k hk).mono (S' := (· < w1.heap.size)) fun k hk => Nat.lt_of_lt_of_le hk Hb1.out.size)
  refine (HF.out w1 Hr1.out).mono ?_
  rintro e w2 ⟨v2, rfl, hf2⟩
  have Hb2 := hide (Hb1.out.trans (hf2.2.1.mono Hb1.out.size))
  obtain ⟨A1, a1, rfl, hca1, hma1⟩ := hf2.1.shape
  rw [List.length_map] at *
  have Hrow := hide hf2.1
  have Hown := hide hf2.own
  have z12 := hf2.2.1.size
  clear hf2 HF Hr1
  by_cases hk0 : ¬ k = 0
  · go_wp2_with fail
    exact hR.out _ _ ⟨rfl, Hb2.out⟩
  obtain rfl : k = 0 := by omega
  by_cases hv1 : ver = 1
  · subst hv1
    rw [show (((1 : UInt8).toNat : Nat) : Int) = 1 from rfl]
    go_wp2_with fail
    exact hR.out _ _ ⟨rfl, Hb2.out⟩
  obtain ⟨hl, hm6, hm5, hm7, hm1⟩ := Hmath.out bs (by trivial) rfl
  have hvb : ((ver.toNat : Int) == 1) = false := by
    rw [beq_eq_false_iff_ne]
    exact fun e => hv1 (UInt8.toNat_inj.1 (by rw [show (1 : UInt8).toNat = 1 from rfl]; omega))
  have Hm6 := hide (hm6 ver hv1)
  have Hm5 := hide (hm5 ver _ rfl)
  have Hl := hide hl
  have Hm7 := hide hm7
  have Hm1 := hide hm1
  clear hm6 hm5 hm7 hm1 hv1 Hmath
  rw [hl] at hca1 Hown Hrow ⊢
  generalize hm0 : 42 + n = m at hca1 Hl Hown Hrow ⊢
  have Hm0 := hide hm0
  have hm42 : 42 ≤ m ∧ m ≤ 342 := by omega
  clear hm0 hl
  go_wp2_with fail
  refine (fnew_calls w2).mono ?_
  rintro e w3 ⟨g, gt, rfl, hg, htab, hb3, hg0, ht0, hg1, ht1⟩
  have z23 := hb3.size
  have z02 := Hb2.out.size
  have Hfc := hide (show FC w w3 g gt m a1 A1 bs from ⟨Hb2.out.trans (hb3.mono Hb2.out.size), hg, htab, Hrow.out.keep fun k hk => hb3.block k (Hown.out k hk).2⟩)
  clear hg htab hb3
  have hs3 := hide ((Hfc.out.row.keep (w' := w3.alloc (.cells #[] 5)) fun k hk => (balloc w3 _).block k (Hfc.out.row.lt hk)).src)
  have ho := hide (encB_one bs)
  have hlb := hide (show (bs.map encB).length = m by rw [List.length_map, Hl.out])
  go_wp2_with (at_builtin; with_reducible refine wp_app_lit 39 rfl rfl (.tmp 37) (.tmp 38) 22 rfl Try.underlying22 infoB ?_ (news := bs.map encB) (g := w3.heap.size) ?_ (A := A1) (c := a1) ?_ ?_ ho.out ?_ ?_ ?_)
  case refine_1 => rfl
  case refine_2 => rfl
  case refine_3 => rw [hlb.out]; rfl
  case refine_4 => exact hs3.out
  case refine_5 => rw [hlb.out]; omega
  case refine_6 => rw [hlb.out]; unfold maxLen; omega
  case refine_7 =>
  intro v4 w4 hn4
  obtain ⟨A4, g4, post4, c4, rfl, hc4, hm4, hb4, hg4, hgl4, hwr4⟩ := hn4.wr
  have hlt4 := (hgl4 (by rw [Hl.out]; omega)).1
  have hb34 := (balloc w3 (.cells #[] 5)).trans (hb4.mono (by simp))
  have Hfc4 := hide (Hfc.out.below hb34)
  have hwr := hwr4 w4 (Below.refl _ _)
  rw [Hl.out] at hc4 ⊢
  obtain ⟨rfl, k2, f2⟩ := hwr.cell (i := 2) (by rw [Hl.out]; omega)
  rw [List.length_nil, Nat.zero_add] at k2 f2
  have z34 := hb34.size
  have hg4' : w3.heap.size ≤ g4 := by simp at hg4; omega
  have Hwr5 := hide (hwr.set (i := 2) (by rw [Hl.out]; omega) ver)
  rw [List.length_nil, Nat.zero_add] at Hwr5
  have Hfc5 := hide (Hfc4.out.set (q := g4) (i := 2) (u := .int .u8 (ver.toNat : Int)) (by omega) (by omega) (by omega) (fun e => by have := (Hown.out _ e).2; omega))
  have hz5 : (w4.setCell ⟨g4, 2, none⟩ (.int .u8 (ver.toNat : Int))).heap.size = w4.heap.size := by simp [World.setCell]
  generalize hw5 : w4.setCell ⟨g4, 2, none⟩ (.int .u8 (ver.toNat : Int)) = w5 at *
  have Hw5 := hide hw5
  clear hw5 hn4 hb4 hwr4 hwr hgl4 hs3 Hfc Hfc4
  generalize (bs[2]'(by rw [Hl.out]; omega)).toNat = b2 at k2
  have hp5 := hide (show Calls Try.prog 11 #[.pointer (some ⟨g, 0, none⟩), .slice (some ⟨g4, 0, none⟩) m c4] w5 fun e w' => e = .returned (.tuple #[zPk, .int .i64 6]) ∧ Below w5.heap.size w5 w' from by
    have := fpar_err g gt (some ⟨g4, 0, none⟩) (bs.set 2 ver) c4 w5 Hfc5.out.cod Hfc5.out.tab hm4 (by rw [List.length_set, Hl.out]; exact hc4) (by rw [List.length_set, Hl.out]; omega) ((Hwr5.out.rdB).mono fun k hk => by omega) (by rw [Hm6.out]; decide)
    rw [List.length_set, Hl.out, Hm6.out] at this
    exact this)
  clear ho hlb
  go_wp2_with fail
  rw [Hw5.out]
  refine hp5.out.mono ?_
  clear hp5 k2 f2
  rintro e w6 ⟨rfl, hb6⟩
  have b7 := hide (hb6.trans ((pbox0 w6 (.int .u64 0) (.int .i64 0) (.int .i64 0) (.int .i64 0) (.int .i64 0) (.int .i64 0) (.int .i64 0) (.int .u64 0) (.slice none 0 0) 32).mono hb6.size))
  generalize hw7 : w6.alloc (.cells #[.int .u64 0, .int .i64 0, .int .i64 0, .int .i64 0, .int .i64 0, .int .i64 0, .int .i64 0, .int .u64 0, .slice none 0 0] 32) = w7 at b7
  have Hw7 := hide hw7
  have Hwr7 := hide (Hwr5.out.keepB b7.out)
  have Hfc7 := hide (Hfc5.out.below b7.out)
  have z57 := b7.out.size
  obtain ⟨-, k0, f0⟩ := Hwr7.out.cell (i := 0) (by rw [List.length_set, Hl.out]; omega)
  rw [List.length_nil, Nat.zero_add] at k0 f0
  have Hwr8 := hide (Hwr7.out.set (i := 0) (by rw [List.length_set, Hl.out]; omega) (bs.getD 0 0 + 1))
  rw [List.length_nil, Nat.zero_add] at Hwr8
  have e0 : (bs.set 2 ver)[0]'(by rw [List.length_set, Hl.out]; omega) = bs.getD 0 0 := by
    rw [List.getElem_set_ne (by omega)]; simp [List.getD, show 0 < bs.length by rw [Hl.out]; omega]
  rw [e0] at k0
  have i0 := inc8' (bs.getD 0 0)
  generalize bs.getD 0 0 = x0 at k0 i0 Hwr8 Hm5
  have Hfc8 := hide (Hfc7.out.set (q := g4) (i := 0) (u := .int .u8 ((x0 + 1 : UInt8).toNat : Int)) (by omega) (by omega) (by omega) (fun e => by have := (Hown.out _ e).2; omega))
  generalize hx1 : ((x0 + 1 : UInt8).toNat : Int) = x1 at i0
  have hz8 : (w7.setCell ⟨g4, 0, none⟩ (.int .u8 x1)).heap.size = w7.heap.size := by simp [World.setCell]
  rw [hx1] at Hwr8 Hfc8
  generalize hw8 : w7.setCell ⟨g4, 0, none⟩ (.int .u8 x1) = w8 at hz8 Hwr8 Hfc8
  have Hw8 := hide hw8
  have Hi0 := hide i0
  clear hw7 hw8 hx1 hb6 e0
  generalize (x0.toNat : Int) = xi at k0 i0 Hi0
  have hp8 := hide (show Calls Try.prog 11 #[.pointer (some ⟨g, 0, none⟩), .slice (some ⟨g4, 0, none⟩) m c4] w8 fun e w' => e = .returned (.tuple #[zPk, .int .i64 5]) ∧ Below w8.heap.size w8 w' from by
    have := fpar_err g gt (some ⟨g4, 0, none⟩) ((bs.set 2 ver).set 0 (x0 + 1)) c4 w8 Hfc8.out.cod Hfc8.out.tab hm4 (by rw [List.length_set, List.length_set, Hl.out]; exact hc4) (by rw [List.length_set, List.length_set, Hl.out]; omega) ((Hwr8.out.rdB).mono fun k hk => by omega) (by rw [Hm5.out]; decide)
    rw [List.length_set, List.length_set, Hl.out, Hm5.out] at this
    exact this)
  clear Hwr5 Hwr7 Hfc5 Hfc7 Hm6 Hwr8
  go_upto_region 12 with fail
  rw [Hw7.out]
  go_wp2_with fail
  rw [Hw8.out]
  refine hp8.out.mono ?_
  clear hp8 k0 f0 i0
  rintro e w9 ⟨rfl, hb9⟩
  have b10 := hide (hb9.trans ((pbox0 w9 (.int .u64 0) (.int .i64 0) (.int .i64 0) (.int .i64 0) (.int .i64 0) (.int .i64 0) (.int .i64 0) (.int .u64 0) (.slice none 0 0) 32).mono hb9.size))
  generalize hw10 : w9.alloc (.cells #[.int .u64 0, .int .i64 0, .int .i64 0, .int .i64 0, .int .i64 0, .int .i64 0, .int .i64 0, .int .u64 0, .slice none 0 0] 32) = w10 at b10
  have Hw10 := hide hw10
  have Hfc10 := hide (Hfc8.out.below b10.out)
  have z810 := b10.out.size
  clear hw10 hb9 Hfc8
  go_upto_region 14 with fail
  rw [Hw10.out]
  obtain ⟨m4, hm4'⟩ : ∃ m4, m = m4 + 4 := ⟨m - 4, by omega⟩
  have hsub : IntKind.i64.wrap ((m : Int) - 4) = (m4 : Int) := by rw [IntKind.wrap_i64]; omega
  have Hm4 := hide hm4'
  have hm4a : m4 ≤ a1 := by omega
  have ho14 := hide (encB_one (bs.take m4))
  have hl14 := hide (show ((bs.take m4).map encB).length = m4 by rw [List.length_map, List.length_take, Hl.out]; omega)
  have hs14 := hide ((((Hfc10.out.row.keep (w' := w10.alloc (.cells #[] 5)) fun k hk => (balloc w10 _).block k (Hfc10.out.row.lt hk)).rdlt).take m4).srcB)
  go_wp2_with (at_builtin; with_reducible refine wp_app_lit 66 rfl rfl (.tmp 60) (.tmp 65) 22 rfl Try.underlying22 infoB ?_ (news := (bs.take m4).map encB) (g := w10.heap.size) ?_ (A := A1) (c := a1) ?_ ?_ ho14.out ?_ ?_ ?_)
  case refine_1 => rfl
  case refine_2 => rfl
  case refine_3 => rw [hl14.out]; rfl
  case refine_4 => exact hs14.out
  case refine_5 => rw [hl14.out]; omega
  case refine_6 => rw [hl14.out]; unfold maxLen; omega
  case refine_7 =>
  intro v11 w11 hn11
  obtain ⟨A11, g11, post11, c11, rfl, hc11, hm11, hb11, hg11, hgl11, hwr11⟩ := hn11.wr
  have hlt11 := (hgl11 (by rw [List.length_take, Hl.out]; omega)).1
  have hb1011 := (balloc w10 (.cells #[] 5)).trans (hb11.mono (by simp))
  have Hfc11 := hide (Hfc10.out.below hb1011)
  have hwr := hwr11 w11 (Below.refl _ _)
  have hlt := hide (show (bs.take m4).length = m4 by rw [List.length_take, Hl.out]; omega)
  rw [hlt.out] at hc11 ⊢
  obtain ⟨rfl, k17, f17⟩ := hwr.cell (i := 17) (by rw [hlt.out]; omega)
  rw [List.length_nil, Nat.zero_add] at k17 f17
  have z1011 := hb1011.size
  have hg11' : w10.heap.size ≤ g11 := by simp at hg11; omega
  generalize ((bs.take m4)[17]'(by rw [hlt.out]; omega)).toNat = b17 at k17
  rw [Hl.out, show m - 4 = m4 by omega] at Hm7 Hm1
  obtain ⟨ys, ke, w12, hys, hke, hkv, hwr12, hfc12, hz12⟩ : ∃ (ys : List UInt8) (ke : Nat) (w12 : World), ys.length = m4 ∧ fErr (sealL ys ++ [0]) = ke ∧ (ke = if par then 1 else 7) ∧ Wr w12 (some ⟨g11, [].length, none⟩) g11 [] post11 5 ys ∧ FC w w12 g gt m a1 A1 bs ∧
      w12 = if par then w11.setCell ⟨g11, 17, none⟩ (.int .u8 0) else w11 := by
    cases par
    · exact ⟨bs.take m4, 7, w11, hlt.out, Hm7.out, rfl, hwr, Hfc11.out, rfl⟩
    · refine ⟨(bs.take m4).set 17 0, 1, _, by rw [List.length_set]; exact hlt.out, Hm1.out, rfl, ?_, Hfc11.out.set (q := g11) (i := 17) (u := .int .u8 0) (by omega) (by omega) (by omega) (fun e => by have := (Hown.out _ e).2; omega), rfl⟩
      have := hwr.set (i := 17) (by rw [hlt.out]; omega) 0
      rw [List.length_nil, Nat.zero_add] at this
      exact this
  have hz12s : w12.heap.size = w11.heap.size := by rw [hz12]; split <;> simp [World.setCell]
  have Hz12 := hide hz12
  have Hwr12 := hide hwr12
  have Hfc12 := hide hfc12
  have Hke := hide hke
  have Hys := hide hys
  clear hz12 hwr12 hfc12 hke hys hwr hwr11 hn11 hb11 hgl11 Hm7 Hm1 Hfc11 Hfc10 hs14 ho14 hl14 hsub
  have hseal := hide (show Calls Try.prog 18 #[.slice (some ⟨g11, 0, none⟩) m4 c11] w12 fun e w' => ∃ v', e = .returned v' ∧ Fresh w12 w' v' (sealL ys) from by
    have := refseal_calls (some ⟨g11, 0, none⟩) ys c11 _ w12 hm11 (by rw [Hys.out]; exact hc11) (by rw [Hys.out]; omega) (Hwr12.out.rdB) (fun k hk => by omega)
    rw [Hys.out] at this
    exact this)
  cases par
  all_goals
    simp only [if_true, if_false, Bool.false_eq_true] at Hz12 hkv
    subst hkv
    go_wp2_with fail
    rw [← Hz12.out]
    refine hseal.out.mono ?_
    clear hseal k17 f17 Hz12
    rintro e w13 ⟨v13, rfl, hf13⟩
    have hb13 := hf13.2.1
    have z13 := hb13.size
    obtain ⟨A13, c13, rfl, hc13, hm13⟩ := hf13.shape
    have hrow13 := hide hf13.1
    have hown13 := hide hf13.2.2
    have hsl := hide (show ((sealL ys).map encB).length = m4 + 4 by rw [List.length_map, sealL_len, Hys.out])
    rw [sealL_len, Hys.out] at hc13 hrow13 hown13 ⊢
    have hr13 := hide (hrow13.out.keep (w' := w13.alloc (.cells #[.int .u8 0] 5)) fun k hk => (balloc w13 _).block k (hrow13.out.lt hk))
    have hs13 := hide (Src.lit1 w13 (.int .u8 0) 5)
    clear hf13
    go_wp2_with (at_builtin; with_reducible refine wp_app 73 rfl rfl (.tmp 71) (.tmp 72) 22 rfl Try.underlying22 infoB ?_ (us := (sealL ys).map encB) ?_ hr13.out (A := some ⟨w13.heap.size, 0, none⟩) (c := 1) (news := [.int .u8 0]) ?_ hs13.out ?_ ?_ ?_ ?_)
    case refine_1 => rfl
    case refine_2 => rfl
    case refine_3 => rfl
    case refine_4 => intro u hu; simp at hu; subst hu; rfl
    case refine_5 => rw [hsl.out]; simp; omega
    case refine_6 => rw [hsl.out]; simp; unfold maxLen; omega
    case refine_7 =>
    intro v15 w15 hr15 g15 a15
    have hb15 : Below w12.heap.size w12 w15 := (Ch.of_grown g15).below ((hb13.trans ((balloc w13 _).mono z13))) (by simp; omega) (fun b hb => hown13.out b hb)
    have e15 : (sealL ys).map encB ++ [Value.int .u8 0] = (sealL ys ++ [0]).map encB := by simp [encB]
    rw [e15] at hr15
    obtain ⟨A15, c15, rfl, hc15, hm15⟩ := hr15.shape
    have hl0 : (sealL ys ++ [0]).length = m4 + 5 := by rw [List.length_append, sealL_len, Hys.out]; rfl
    have hln : ((sealL ys ++ [0]).map encB).length = m4 + 5 := by rw [List.length_map]; exact hl0
    rw [hln] at hr15 hc15 ⊢
    have Hfc15 := hide (Hfc12.out.below hb15)
    have hp15 := fpar_err g gt A15 (sealL ys ++ [0]) c15 w15 Hfc15.out.cod Hfc15.out.tab hm15 (by rw [hl0]; exact hc15) (by rw [hl0]; omega) hr15.rdlt (by rw [Hke.out]; decide)
    rw [Hke.out, hl0] at hp15
    have Hp15 := hide hp15
    clear hr15 g15 a15 hp15 hb13 e15 hl0 hln
    go_wp2_with fail
    with_reducible refine Hp15.out.mono ?_
    rintro e w16 ⟨rfl, hb16⟩
    have hbe := hide (Hfc15.out.bel.trans ((hb16.trans ((pbox0 w16 (.int .u64 0) (.int .i64 0) (.int .i64 0) (.int .i64 0) (.int .i64 0) (.int .i64 0) (.int .i64 0) (.int .u64 0) (.slice none 0 0) 32).mono hb16.size)).mono Hfc15.out.bel.size))
    clear Hp15 hb16
    go_wp2_with fail
    exact hR.out _ _ ⟨rfl, hbe.out⟩
end Go.Proofs.Ytopfpadfjfmmiaa
