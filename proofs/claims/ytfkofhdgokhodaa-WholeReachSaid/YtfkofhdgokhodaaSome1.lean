/- sample.Some, walked. -/
import Derived.Test.YtfkofhdgokhodaaSome0
import Derived.Test.YtfkofhdgokhodaaPQ0
import Derived.Deep.RegionLaw
set_option linter.unusedVariables false
set_option linter.unusedSimpArgs false
namespace Go.Proofs.Ytfkofhdgokhodaa
open Go.RowKit Go.Maps

theorem run_max9 (P : Program) (w : World) (ts : Array TypeId) (t : TypeId) (a : Nat) : (Builtin.max_ ts t #[.int .i64 (a : Int), .int .i64 0]).run P w = .ok (.int .i64 (a : Int)) w := by
  simp [Builtin.max_, Builtin.max2]
  omega
theorem run_min9 (P : Program) (w : World) (ts : Array TypeId) (t : TypeId) (a b : Nat) (h : a ≤ b) : (Builtin.min_ ts t #[.int .i64 (a : Int), .int .i64 (b : Int)]).run P w = .ok (.int .i64 (a : Int)) w := by
  simp [Builtin.min_, Builtin.min2]
  omega
theorem run_minK (P : Program) (w : World) (ts : Array TypeId) (t : TypeId) (k b m : Nat) (h : m = min k b) : (Builtin.min_ ts t #[.int .i64 (k : Int), .int .i64 (b : Int)]).run P w = .ok (.int .i64 (m : Int)) w := by
  subst h
  simp [Builtin.min_, Builtin.min2]
  omega
theorem make_icap (n : Nat) (hn : n ≤ 1000000) (w : World) : ∃ w', (Instr.makeSlice 29 (.int .i64 0) (.int .i64 (n : Int))).run Try.prog w = .ok (.slice (some ⟨w.heap.size, 0, none⟩) 0 n) w' ∧
    Row w' 3 (.slice (some ⟨w.heap.size, 0, none⟩) 0 n) [] ∧ w.grownBy w' none := by
  obtain ⟨i, hi, hzz⟩ := Option.map_eq_some_iff.1 infoIq
  simp only [Prod.mk.injEq] at hzz
  obtain ⟨h1, h2, h3⟩ := hzz
  obtain ⟨w', a, b, c⟩ := run_make_own (P := Try.prog) w 0 29 3 i _ 1 Try.underlying29 hi h1 h2 .i64 .i64 n (by rw [h3]; omega) (by unfold maxLen; omega) (Nat.zero_le _)
  exact ⟨w', by simpa using a, by simpa [Row] using b, c⟩
/-- While some are drawn. -/
structure SW (w0 w : World) (g mb : Nat) (v : Value) (s : UInt64) (l : List Int) : Prop where
  rand : RandAt w g s
  map : w.ownsMap Try.prog 3 (unitElem (H := Unit)) mb l.length (setOf (.agg []) (keysOf l))
  row : Row w 3 v (l.map encI)
  ch : Ch (fun z => z = g) w0 w
  gl : g < w0.heap.size
  mb0 : w0.heap.size ≤ mb
  ov : ∀ z, v.ownBlock = some z → w0.heap.size ≤ z ∧ z ≠ mb
section
variable {w0 w w' : World} {g mb : Nat} {v v' : Value} {s s' : UInt64} {l : List Int} {x : Int}
theorem own_keep {P : Program} {k : TypeId} {R : Value → Option (DataW Unit × List MemPlace)} {b n : Nat} {D : DataW Unit} (h : w.ownsMap P k R b n D) (hk : w'.heap[b]? = w.heap[b]?) : w'.ownsMap P k R b n D := by
  obtain ⟨es, clock, h1, h2⟩ := h
  exact ⟨es, clock, hk.trans h1, h2⟩
theorem own_lt {P : Program} {k : TypeId} {R : Value → Option (DataW Unit × List MemPlace)} {b n : Nat} {D : DataW Unit} (h : w.ownsMap P k R b n D) : b < w.heap.size := by
  obtain ⟨es, clock, h1, h2⟩ := h
  exact (Array.getElem?_eq_some_iff.1 h1).1
theorem SW.drawn (h : SW w0 w g mb v s l) (hr : RandAt w' g s') (hg : w.grownBy w' (some g)) : SW w0 w' g mb v s' l := by
  have h1 := h.mb0
  have h2 := h.gl
  refine ⟨hr, own_keep h.map (hg.block mb (own_lt h.map) fun e => by injection e with e; omega), h.row.keep fun z hz => hg.block z (h.row.lt hz) fun e => ?_, h.ch.trans (Ch.of_grown hg) fun b hb => ?_, h.gl, h.mb0, h.ov⟩
  · injection e with e; have := (h.ov z hz).1; omega
  · injection hb with hb; exact .inl hb.symm
theorem SW.later (h : SW w0 w g mb v s l) (hb : Below w.heap.size w w') : SW w0 w' g mb v s l :=
  ⟨(hb.block g h.rand.lt).trans h.rand, own_keep h.map (hb.block mb (own_lt h.map)), h.row.keep fun z hz => hb.block z (h.row.lt hz), h.ch.trans (Ch.of_below (S := fun _ => False) hb) fun _ hf => hf.elim, h.gl, h.mb0, h.ov⟩
/-- One more in the map, then in the row. -/
theorem SW.more {w1 w2 : World} {o : Obj} (h : SW w0 w g mb v s l) (hm : w1.ownsMap Try.prog 3 (unitElem (H := Unit)) mb (l.length + 1) ((setOf (.agg []) (keysOf l)).put (.int .i64 x) (.agg []))) (hg : w.grownBy w1 (some mb))
    (hr : Row w2 3 v' (l.map encI ++ [.int .i64 x])) (hg2 : (w1.alloc o).grownBy w2 v.ownBlock) (ho : v'.ownBlock = v.ownBlock ∨ v'.ownBlock = some (w1.alloc o).heap.size) : SW w0 w2 g mb v' s (l ++ [x]) := by
  have h1 := h.mb0
  have h2 := h.gl
  have hs0 := h.ch.size
  have hs1 := hg.size
  have hz : (w1.alloc o).heap.size = w1.heap.size + 1 := by simp
  rw [hz] at ho
  have hml := own_lt h.map
  have hk2 : ∀ z, z < w1.heap.size → v.ownBlock ≠ some z → w2.heap[z]? = w1.heap[z]? := fun z hz' hne => (hg2.block z (by omega) fun e => hne e.symm).trans ((balloc w1 o).block z hz')
  have hgv : v.ownBlock ≠ some g := fun e => by have := (h.ov g e).1; omega
  have hmv : v.ownBlock ≠ some mb := fun e => (h.ov mb e).2 rfl
  refine ⟨((hk2 g (by omega) hgv).trans (hg.block g (by omega) fun e => by injection e with e; omega)).trans h.rand, ?_, by rw [List.map_append]; exact hr, ?_, h.gl, h.mb0, fun z hz' => ?_⟩
  · rw [List.length_append, List.length_singleton, keysOf_snoc]
    exact own_keep hm (hk2 mb (by omega) hmv)
  · refine (h.ch.trans (Ch.of_grown hg) fun b hb => ?_).trans ((Ch.of_below (S := fun z => v.ownBlock = some z) (balloc w1 o)).trans (Ch.of_grown hg2) fun b hb => .inl hb) fun b hb => ?_
    · injection hb with hb; exact .inr (by omega)
    · exact .inr (h.ov b hb).1
  · rcases ho with e | e
    · exact h.ov z (e ▸ hz')
    · rw [hz'] at e; injection e with e; exact ⟨by omega, by omega⟩
end
set_option maxHeartbeats 4000000 in
set_option maxRecDepth 100000 in
theorem some_callsN (g b k m : Nat) (s : UInt64) (w : World) (hb : b ≤ 1000000) (hk : m = min k b) (h : RandAt w g s) :
    Calls Try.prog 10 #[.pointer (some ⟨g, 0, none⟩), .int .i64 (b : Int), .int .i64 (k : Int)] w fun e w' => ∃ v, e = .returned v ∧ Row w' 3 v ((someL b m s).map encI) ∧ (∀ z, v.ownBlock = some z → w.heap.size ≤ z) ∧ RandAt w' g (someK b m s m).1 ∧ Ch (fun z => z = g) w w' := by
  refine cps fun R hR => ?_
  have hmx := fun (w : World) ts t a => run_max9 Try.prog w ts t a
  have hmn := fun (w : World) ts t => run_minK Try.prog w ts t k b m hk
  have hmb : m ≤ b := by omega
  clear hk
  have hmm := @run_makeMap Try.prog
  obtain ⟨w1, hw1⟩ : ∃ w1, w1 = w.alloc (.map #[] 0) := ⟨_, rfl⟩
  obtain ⟨w2, hmk, hr2, hg2⟩ := make_icap m (by omega) w1
  have hz1 : w1.heap.size = w.heap.size + 1 := by rw [hw1]; simp
  have hb2 : Below w1.heap.size w1 w2 := ⟨hg2.os, hg2.tape, hg2.output, hg2.size, fun q hq => hg2.block q hq (by simp)⟩
  have hSW : SW w w2 g w.heap.size (.slice (some ⟨w.heap.size + 1, 0, none⟩) 0 m) s [] := by
    have h1 : Below w.heap.size w w1 := by rw [hw1]; exact balloc w _
    have h12 := h1.trans (hb2.mono h1.size)
    refine ⟨(h12.block g h.lt).trans h, own_keep (by rw [hw1]; exact World.ownsMap_made _ _ _ _) (hb2.block _ (by omega)), by rw [← hz1]; exact hr2, Ch.of_below h12, h.lt, Nat.le_refl _, fun z hz => ?_⟩
    have hz' : some (w.heap.size + 1) = some z := hz
    injection hz' with hz'
    omega
  rw [hz1] at hmk
  have HSW := hide hSW
  have Hw1 := hide hw1
  have H0 := hide (show someK b m s 0 = (s, []) from rfl)
  clear hSW hw1 hr2 hg2 hb2 hz1 h
  go_enter Try.func10, Try.ntmps10
  go_upto_region 3 with fail
  rw [← Hw1.out]
  clear Hw1
  go_wp2_with fail
  go_loopw [8, 9] (fun v jv wr => ∃ i : Nat, i ≤ m ∧ jv = .int .i64 ((b - m + i : Nat) : Int) ∧ SW w wr g w.heap.size v (someK b m s i).1 (someK b m s i).2 ∧ ∃ z, v.ownBlock = some z) (fun _ jv _ => b - (intOf jv).toNat)
  case atStart => exact ⟨0, Nat.zero_le _, by congr 1; omega, HSW.out, _, rfl⟩
  case round =>
    obtain ⟨i, hi, rfl, hS, hoz⟩ := hrel
    obtain ⟨Ao, co, rfl, hco, hcm⟩ := hS.row.shape
    obtain ⟨gz, rfl⟩ : ∃ gz, Ao = some ⟨gz, 0, none⟩ := by
      obtain ⟨z, hz⟩ := hoz
      rcases hS.row.2 with ⟨e, hn⟩ | ⟨gz, cap, cur, e, -⟩
      · rw [e] at hz; cases hz
      · injection e with e1; exact ⟨gz, e1⟩
    clear hoz
    rw [List.length_map] at hS hco ⊢
    obtain ⟨jn, hjn⟩ : ∃ jn, jn = b - m + i := ⟨_, rfl⟩
    rw [← hjn]
    by_cases hlt : i < m
    · have hnew := someK_new b m s i
      have hll := someK_len b m s i
      have hsuc : someK b m s (i + 1) = ((belowF (someK b m s i).1 ((b - m + i + 1 : Nat) : Int)).1, (someK b m s i).2 ++ [if (belowF (someK b m s i).1 ((b - m + i + 1 : Nat) : Int)).2 ∈ (someK b m s i).2 then ((b - m + i : Nat) : Int) else (belowF (someK b m s i).1 ((b - m + i + 1 : Nat) : Int)).2]) := rfl
      have hbd := belowF_bd (someK b m s i).1 (n := b - m + i + 1) (by omega)
      have hbel := below_calls g (b - m + i + 1) (someK b m s i).1 wr hS.rand (by omega) (by omega)
      rw [← hjn] at hnew hsuc hbd hbel
      obtain ⟨⟨s1, l1⟩, hsl⟩ : ∃ sl, sl = someK b m s i := ⟨_, rfl⟩
      rw [← hsl] at hnew hll hsuc hbd hbel hS hco ⊢
      simp only at hnew hll hsuc hbd hbel hS hco ⊢
      obtain ⟨⟨s2, x⟩, hsx⟩ : ∃ sx, sx = belowF s1 ((jn + 1 : Nat) : Int) := ⟨_, rfl⟩
      rw [← hsx] at hnew hsuc hbd hbel
      simp only at hnew hsuc hbd hbel
      rw [Int.natCast_succ] at hbel
      have hm1 : l1.length ≤ 1000000 := by omega
      have Hbel := hide hbel
      have HS := hide hS
      have Hsuc := hide hsuc
      have Hnew := hide hnew
      have Hll := hide hll
      have hj9 : jn ≤ 1000000 := by omega
      have hjb : jn < b := by omega
      have hwx := hide (show (Lit.int .i64 x).wf = true from WalkArith.wf_i64 (by omega))
      have hwj := hide (show (Lit.int .i64 (jn : Int)).wf = true from WalkArith.wf_i64 (by omega))
      have Hkey := hide (show keyOf Try.prog 3 (.int .i64 x) = some (.int .i64 x) from keyOf_int_mk Try.underlying3 hwx.out)
      have Hkeyj := hide (show keyOf Try.prog 3 (.int .i64 (jn : Int)) = some (.int .i64 (jn : Int)) from keyOf_int_mk Try.underlying3 hwj.out)
      clear hbel hS hsuc hnew hll hsl hsx hbd
      have Hjn := hide hjn
      clear hjn
      go_wp2_with fail
      refine Hbel.out.mono ?_
      rintro _ w3 ⟨rfl, hr3, hg3⟩
      have hS3 := HS.out.drawn hr3 hg3
      obtain ⟨w4, hw4⟩ : ∃ w4, w4 = w3.alloc (.cells #[] 84) := ⟨_, rfl⟩
      have hb4 : Below w3.heap.size w3 w4 := by rw [hw4]; exact balloc w3 _
      have hS4 := hS3.later hb4
      have hown := hS3.map
      have hown4 := hS4.map
      have hhas := keysOf_has l1 x
      have Hkj := hide (keysOf_has l1 (jn : Int))
      obtain ⟨D, hD⟩ : ∃ D : DataW Unit, D = setOf (.agg []) (keysOf l1) := ⟨_, rfl⟩
      rw [← hD] at hown hown4 hhas
      have HD := hide hD
      have HS4 := hide hS4
      have Hw4 := hide hw4
      by_cases hin : x ∈ l1
      · rw [decide_eq_true hin] at hhas
        have Hhas := hide hhas
        have Hin := hide hin
        clear hS3 hb4 hS4 hw4 hD hhas hin hr3 hg3
        go_upto_region 9 with (at_lookup; refine wpList_lookup_own_unit _ rfl _ _ 82 rfl 3 84 law3 Try.underlying82 (zeroU _) w.heap.size _ D rfl hown _ _ rfl Hkey.out ?_; rw [Hhas.out])
        rw [← Hw4.out]
        clear hown
        go_upto_region 12 with (at_mapUpdate; refine wpList_mapUpdate_own _ rfl _ _ _ 82 rfl 3 84 law3 Try.underlying82 _ w.heap.size _ _ rfl hown4 (by have := hm1; unfold maxLen; omega) _ _ _ rfl rfl Hkeyj.out _ [] unitElem_mk ?_; intro w5 hown5 hgrow5)
        have HM5 := hide (show w5.ownsMap Try.prog 3 (unitElem (H := Unit)) w.heap.size (l1.length + 1) ((setOf (.agg []) (keysOf l1)).put (.int .i64 (jn : Int)) (.agg [])) by rw [← HD.out]; exact hown5)
        have Hg5 := hide hgrow5
        have r5 := HS4.out.row.keep (w' := w5) fun z hz => hgrow5.block z (HS4.out.row.lt hz) fun e => by injection e with e; exact (HS4.out.ov z hz).2 (by omega)
        have hr6 := hide (r5.keep (w' := w5.alloc (.cells #[.int .i64 (jn : Int)] 3)) fun z hz => (balloc w5 _).block z (r5.lt hz))
        have s6 := hide (Src.lit1 w5 (.int .i64 (jn : Int)) 3)
        have hym := hide (show (l1.map encI).length = l1.length from List.length_map _)
        have hone := hide (show ∀ u ∈ [Value.int .i64 (jn : Int)], u.oneCell' = true from fun u hu => by simp at hu; subst hu; rfl)
        have hby := hide (show ((l1.map encI).length + [Value.int .i64 (jn : Int)].length) * 8 ≤ 140737488355328 ∧ (l1.map encI).length + [Value.int .i64 (jn : Int)].length ≤ maxLen from ⟨by rw [hym.out, List.length_singleton]; omega, by rw [hym.out, List.length_singleton]; unfold maxLen; omega⟩)
        clear hown4 hown5 hgrow5 r5
        go_wp2_with (at_builtin; with_reducible refine wp_app 47 rfl rfl (.tmp 44) (.tmp 46) 29 rfl Try.underlying29 infoIq ?_ (us := l1.map encI) ?_ hr6.out (A := some ⟨w5.heap.size, 0, none⟩) (c := 1) (news := [.int .i64 (jn : Int)]) ?_ s6.out hone.out hby.out.1 hby.out.2 ?_)
        all_goals first | rfl | skip
        intro v7 w7 hr7 g7 o7
        have HS7 := hide (HS4.out.more HM5.out Hg5.out hr7 g7 o7)
        have he := hide (show someK b m s (i + 1) = (s2, l1 ++ [(jn : Int)]) by rw [Hsuc.out, if_pos Hin.out])
        have Hoz7 := hide (show ∃ z, v7.ownBlock = some z by
          rcases o7 with e | e
          · rw [e]; exact ⟨gz, rfl⟩
          · exact ⟨_, e⟩)
        clear hr7 g7 o7 hr6 s6 hym hone hby
        go_wp2_with fail
        exact ⟨⟨i + 1, by omega, by have := Hjn.out; congr 1; omega, by rw [he.out]; exact HS7.out, Hoz7.out⟩, by have := Hjn.out; simp only [intOf]; omega⟩
      · rw [decide_eq_false hin] at hhas
        have Hhas := hide hhas
        have Hin := hide hin
        clear hS3 hb4 hS4 hw4 hD hhas hin hr3 hg3
        go_upto_region 9 with (at_lookup; refine wpList_lookup_own_unit _ rfl _ _ 82 rfl 3 84 law3 Try.underlying82 (zeroU _) w.heap.size _ D rfl hown _ _ rfl Hkey.out ?_; rw [Hhas.out])
        rw [← Hw4.out]
        clear hown
        go_upto_region 12 with (at_mapUpdate; refine wpList_mapUpdate_own _ rfl _ _ _ 82 rfl 3 84 law3 Try.underlying82 _ w.heap.size _ _ rfl hown4 (by have := hm1; unfold maxLen; omega) _ _ _ rfl rfl Hkey.out _ [] unitElem_mk ?_; intro w5 hown5 hgrow5)
        have HM5 := hide (show w5.ownsMap Try.prog 3 (unitElem (H := Unit)) w.heap.size (l1.length + 1) ((setOf (.agg []) (keysOf l1)).put (.int .i64 x) (.agg [])) by rw [← HD.out]; exact hown5)
        have Hg5 := hide hgrow5
        have r5 := HS4.out.row.keep (w' := w5) fun z hz => hgrow5.block z (HS4.out.row.lt hz) fun e => by injection e with e; exact (HS4.out.ov z hz).2 (by omega)
        have hr6 := hide (r5.keep (w' := w5.alloc (.cells #[.int .i64 x] 3)) fun z hz => (balloc w5 _).block z (r5.lt hz))
        have s6 := hide (Src.lit1 w5 (.int .i64 x) 3)
        have hym := hide (show (l1.map encI).length = l1.length from List.length_map _)
        have hone := hide (show ∀ u ∈ [Value.int .i64 x], u.oneCell' = true from fun u hu => by simp at hu; subst hu; rfl)
        have hby := hide (show ((l1.map encI).length + [Value.int .i64 x].length) * 8 ≤ 140737488355328 ∧ (l1.map encI).length + [Value.int .i64 x].length ≤ maxLen from ⟨by rw [hym.out, List.length_singleton]; omega, by rw [hym.out, List.length_singleton]; unfold maxLen; omega⟩)
        clear hown4 hown5 hgrow5 r5
        go_wp2_with (at_builtin; with_reducible refine wp_app 47 rfl rfl (.tmp 44) (.tmp 46) 29 rfl Try.underlying29 infoIq ?_ (us := l1.map encI) ?_ hr6.out (A := some ⟨w5.heap.size, 0, none⟩) (c := 1) (news := [.int .i64 x]) ?_ s6.out hone.out hby.out.1 hby.out.2 ?_)
        all_goals first | rfl | skip
        intro v7 w7 hr7 g7 o7
        have HS7 := hide (HS4.out.more HM5.out Hg5.out hr7 g7 o7)
        have he := hide (show someK b m s (i + 1) = (s2, l1 ++ [x]) by rw [Hsuc.out, if_neg Hin.out])
        have Hoz7 := hide (show ∃ z, v7.ownBlock = some z by
          rcases o7 with e | e
          · rw [e]; exact ⟨gz, rfl⟩
          · exact ⟨_, e⟩)
        clear hr7 g7 o7 hr6 s6 hym hone hby
        go_wp2_with fail
        exact ⟨⟨i + 1, by omega, by have := Hjn.out; congr 1; omega, by rw [he.out]; exact HS7.out, Hoz7.out⟩, by have := Hjn.out; simp only [intOf]; omega⟩
    · obtain rfl : m = i := by omega
      have hlm := someK_len b m s m
      have hso := sort_calls hS.row rfl (by omega)
      have hgw : w.heap.size ≤ gz := (hS.ov gz rfl).1
      have HS := hide hS
      obtain ⟨lm, hlme⟩ : ∃ lm, lm = (someK b m s m).2.length := ⟨_, rfl⟩
      rw [← hlme] at hso HS ⊢
      have Hso := hide hso
      have Hgw := hide hgw
      clear hso hS hgw hlme hlm hco
      go_wp2_with fail
      refine Hso.out.mono ?_
      rintro _ w9 ⟨rfl, hr9, hg9⟩
      have hrand := HS.out.rand
      have Hfin := hide (show Row w9 3 (.slice (some ⟨gz, 0, none⟩) lm co) ((someL b m s).map encI) ∧ (∀ z, (Value.slice (some ⟨gz, 0, none⟩) lm co).ownBlock = some z → w.heap.size ≤ z) ∧ RandAt w9 g (someK b m s m).1 ∧ Ch (fun z => z = g) w w9 from
        ⟨hr9, fun z hz => by have hz' : some gz = some z := hz; injection hz' with hz'; have := Hgw.out; omega,
         (hg9.block g hrand.lt fun e => by injection e with e; have := Hgw.out; have := HS.out.gl; omega).trans hrand,
         HS.out.ch.trans (Ch.of_grown hg9) fun z hz => by injection hz with hz; have := Hgw.out; exact .inr (by omega)⟩)
      clear hr9 hg9 hrand
      go_wp2_with fail
      exact hR.out _ _ ⟨_, rfl, Hfin.out.1, Hfin.out.2.1, Hfin.out.2.2.1, Hfin.out.2.2.2⟩
theorem some_calls (g b m : Nat) (s : UInt64) (w : World) (hb : b ≤ 1000000) (hmb : m ≤ b) (h : RandAt w g s) :
    Calls Try.prog 10 #[.pointer (some ⟨g, 0, none⟩), .int .i64 (b : Int), .int .i64 (m : Int)] w fun e w' => ∃ v, e = .returned v ∧ Row w' 3 v ((someL b m s).map encI) ∧ (∀ z, v.ownBlock = some z → w.heap.size ≤ z) ∧ RandAt w' g (someK b m s m).1 ∧ Ch (fun z => z = g) w w' :=
  some_callsN g b m m s w hb (by omega) h
end Go.Proofs.Ytfkofhdgokhodaa
