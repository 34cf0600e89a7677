/- Push, walked. -/
import Derived.Test.YtdppjhfndolbjaaPQ1
import Derived.WalkSpells
import Derived.Deep.Cut
import Derived.Deep.CutRange
set_option linter.unusedVariables false
set_option linter.unusedSimpArgs false
namespace Go.Proofs.Ytdppjhfndolbjaa
open Go.RowKit Go.Maps

section
variable {P : Program} (w : World) {ops : Array Oper} {rest : List Oper} {o : Oper} {a : Act} {Q : Exit → Act → World → Prop}
theorem wp_lookup_nil (hg : o.guard = none) (m x : Operand) (t : TypeId) (hop : o.op = Op.lookup t m x true)
    (k e : TypeId) (K : Keyed P k) (ht : P.underlying t = some (.map k e)) {z : Value} (hz : (zeroValue e).run P w = .ok z w)
    (hm : a.eval m = .map none) (key : Value) (kl : Lit) (hx : a.eval x = key) (hkey : keyOf P k key = some kl)
    (hK : wpList P ops Q rest (a.put o.dst (.tuple #[z, .bool false])) w) : wpList P ops Q (o :: rest) a w := by
  refine wpList_plain hg fun K' hK' => ?_
  unfold Oper.wp
  simp [execOp, hop, hm, hx, Maps.look_nil true K ht hz hkey, Result.andThen]
  exact hK' _ _ hK
end
theorem infoI8 : (Try.prog.info? 3).map (fun i => (i.zero, i.size, i.bytes)) = some (some (.int .i64 0), 1, 8) := by kernel_rfl
section
variable {w : World} {S : Nat → Prop} {g : Nat} {E : List Int} {p : Nat}
set_option maxHeartbeats 2000000 in
set_option maxRecDepth 100000 in
theorem push_calls (A : Option Addr) (c : Nat) (xs : List Int) (T : Nat → Prop) (h : QS w S g E p) (hm : E.length + xs.length ≤ 1000000) (hc : c ≤ maxLen) (hl : xs.length ≤ c) (hx : RdL (Kd.int .i64) T w A xs) (hT : ∀ k, T k → k < w.heap.size ∧ ¬ S k) :
    Calls Try.prog 17 #[.pointer (some ⟨g, 0, none⟩), .slice A xs.length c] w fun e w' =>
      e = .returned (.int .i64 (((pushL E xs).length - E.length : Nat) : Int)) ∧ ∃ S', QS w' S' g (pushL E xs) p ∧ Step S S' w w' := by
  refine cps fun R hR => ?_
  have qT : ∀ (w : World) (r : Option Nat), (binOp .eql 48 (.map r) (.map none)).run Try.prog w = .ok (.bool r.isNone) w := fun w r => run_eql_map_nil w _ _ _ r Try.underlying48
  have hmm := @run_makeMap Try.prog
  have Hh := hide h
  have Hx := hide hx
  have HT := hide hT
  have Hl := hide (pushL_len E)
  have Hm := hide hm
  clear h hx hT hm
  unfold maxLen at hc
  obtain ⟨N, hN⟩ : ∃ N, N = xs.length := ⟨_, rfl⟩
  rw [← hN] at hl ⊢
  have HN := hide hN
  clear hN
  go_enter Try.func17, Try.ntmps17
  go_wp2_with fail
  go_loopw [5, 12] (fun n i wr => ∃ (k : Nat) (S' : Nat → Prop), k ≤ N ∧ i = .int .i64 (k : Int) ∧ n = .int .i64 (((pushL E (xs.take k)).length - E.length : Nat) : Int) ∧ QS wr S' g (pushL E (xs.take k)) p ∧ Step S S' w wr) (fun _ i _ => N - (intOf i).toNat)
  case atStart => exact ⟨0, S, by omega, rfl, by simp [pushL], Hh.out, Step.refl S w⟩
  case round =>
    obtain ⟨k, S', hk, rfl, rfl, hq, hs⟩ := hrel
    by_cases hlt : k < N
    · have hkl : k < xs.length := by rw [← HN.out]; exact hlt
      obtain ⟨bx, off, u, rfl, hbx, hu, hcx⟩ := Hx.out.at1 rfl hkl
      obtain ⟨rfl, hwf⟩ := Kd.int_cell hu
      have hcr : wr.cell? ⟨bx, off + k, none⟩ = some (.int .i64 xs[k]) := hs.ch.cell hcx (HT.out bx hbx).2
      have hts : Hid (pushL E (xs.take (k + 1)) = if xs[k] ∈ pushL E (xs.take k) then pushL E (xs.take k) else pushL E (xs.take k) ++ [xs[k]]) := hide (by
        rw [List.take_succ_eq_append_getElem hkl, pushL_snoc])
      have hbd := Hl.out (xs.take k)
      have hkm : (xs.take k).length ≤ k := List.length_take_le _ _
      have Hbd := hide (show E.length ≤ (pushL E (xs.take k)).length ∧ (pushL E (xs.take k)).length ≤ E.length + k from ⟨hbd.1, by omega⟩)
      clear hbd hkm hcx hu
      obtain ⟨x, hxe⟩ : ∃ x, x = xs[k] := ⟨_, rfl⟩
      rw [← hxe] at hts hcr hwf
      obtain ⟨F, hF⟩ : ∃ F, F = pushL E (xs.take k) := ⟨_, rfl⟩
      rw [← hF] at hts hq Hbd ⊢
      obtain ⟨n, hn⟩ : ∃ n, n = F.length - E.length := ⟨_, rfl⟩
      rw [← hn]
      have Hn := hide hn
      have Hwf := hide hwf
      clear hn hwf hF hxe
      obtain ⟨v, l, at', m, hq⟩ := hq
      have hq := hq
      obtain ⟨c0, c1, c2, cf⟩ := hq.cells
      have f2 := cf 2
      have f0 := cf 0
      have hle : n ≤ 1000000 := by have := Hbd.out; have := Hm.out; have := Hn.out; have := HN.out; omega
      have hFl : Hid (F.length ≤ 1000000) := hide (by have := Hbd.out; have := Hm.out; have := HN.out; omega)
      clear cf c1
      have hrow := hide hq.row
      have Hq := hide hq
      have Hs := hide hs
      have hkey : keyOf Try.prog 3 (.int .i64 x) = some (.int .i64 x) := keyOf_int_mk Try.underlying3 Hwf.out
      have Hkey := hide hkey
      clear hkey
      by_cases hin : x ∈ F
      · rcases Hq.out.mp with ⟨rfl, hE⟩ | ⟨b, rfl, hown⟩
        · rw [hE] at hin; exact absurd hin (by simp)
        have hh := keysOf_has F x
        rw [decide_eq_true hin] at hh
        obtain ⟨D, hD⟩ : ∃ D : DataW Unit, D = setOf (.agg []) (keysOf F) := ⟨_, rfl⟩
        rw [← hD] at hown hh
        have HD := hide hD
        have Hin := hide hin
        clear hD hin
        have Hf := hide (show f0 = f0 from rfl)
        clear f0 c0 Hf
        go_wp2_with (at_lookup; refine wpList_lookup_own_unit _ rfl _ _ 48 rfl 3 67 law3 Try.underlying48 (zeroU _) b F.length _ rfl hown _ _ rfl Hkey.out ?_)
        have hb := balloc wr (.cells #[] 67)
        have he : pushL E (xs.take (k + 1)) = F := by rw [hts.out, if_pos Hin.out]
        refine ⟨⟨k + 1, S', by omega, by rw [Int.natCast_succ], ?_, ?_, Hs.out.below hb⟩, by simp only [intOf]; omega⟩
        · rw [he, Hn.out]
        · rw [he]; exact QS.below ⟨v, l, at', some b, Hq.out⟩ hb
      · rcases Hq.out.mp with ⟨rfl, hE⟩ | ⟨b, rfl, hown⟩
        · obtain ⟨w0, hw0⟩ : ∃ w0, w0 = wr.alloc (.cells #[] 67) := ⟨_, rfl⟩
          have hb0 : Below wr.heap.size wr w0 := by rw [hw0]; exact balloc wr _
          have h0 : QA w0 S' g F p v l at' none := Hq.out.keep (Ch.of_below (S := fun _ => False) hb0) fun _ _ h => h
          obtain ⟨Av, cv, rfl, -, -⟩ := h0.row.shape
          rw [List.length_map] at *
          have e2 : w0.cell? ⟨g, 2, none⟩ = some (.map none) := h0.cells.2.2.1
          have ef : w0.frozen? ⟨g, 2, none⟩ = false := h0.cells.2.2.2 2
          obtain ⟨D, hD⟩ : ∃ D : DataW Unit, D = setOf (.agg []) (keysOf F) := ⟨_, rfl⟩
          obtain ⟨b, hb⟩ : ∃ b, b = w0.heap.size := ⟨_, rfl⟩
          obtain ⟨w1, hw1⟩ : ∃ w1, w1 = (w0.alloc (.map #[] 0)).setCell ⟨g, 2, none⟩ (.map (some b)) := ⟨_, rfl⟩
          have hgl0 : g < w0.heap.size := h0.lt g h0.sg
          have hHead0 := hide h0.head
          have k1 : ∀ k, k ≠ g → w1.heap[k]? = (w0.alloc (.map #[] 0)).heap[k]? := fun k hk => by rw [hw1]; exact Below.heap_setCell _ ⟨g, 2, none⟩ _ k hk
          have ka : ∀ k, k < w0.heap.size → (w0.alloc (.map #[] 0)).heap[k]? = w0.heap[k]? := fun k hk => (balloc w0 _).block k hk
          have sz1 : w1.heap.size = w0.heap.size + 1 := by rw [hw1]; simp [World.setCell]
          have hgl := hide (show g < w1.heap.size by omega)
          have hbl := hide (show b < w1.heap.size by omega)
          have hbg := hide (show b ≠ g by omega)
          have hvb := hide (show (Value.slice Av l.length cv).ownBlock ≠ some b from fun e => by have := h0.row.lt e; omega)
          have hvg := hide (show (Value.slice Av l.length cv).ownBlock ≠ some g from fun e => (h0.sv g e).2.1 rfl)
          have hll := hide h0.ll
          have hhead : Hid (w1.heap[g]? = some (.cells #[.slice Av l.length cv, .int .i64 (at' : Int), .map (some b)] 50 (0, 0))) := hide (by
            rw [hw1]
            exact set2 ((ka g hgl0).trans h0.head) _)
          have hrow1 := hide (h0.row.keep (w' := w1) fun k hk => (k1 k fun e => hvg.out (by rw [← e]; exact hk)).trans (ka k (h0.row.lt hk)))
          have hch : Hid (Ch S' wr w1) := hide (by
            have c1 : Ch S' wr (w0.alloc (.map #[] 0)) := (Ch.of_below hb0).trans (Ch.alloc (S := fun _ => False) w0 _) fun _ h => h.elim
            rw [hw1]
            exact c1.trans (Ch.set _ ⟨g, 2, none⟩ _) fun k hk => .inl (by rw [hk]; exact h0.sg))
          have hbS : Hid (S' b ∨ wr.heap.size ≤ b) := hide (.inr (by have := hb0.size; omega))
          have hown1 : w1.ownsMap Try.prog 3 (unitElem (H := Unit)) b F.length D := by
            rw [hD, hE, hw1, hb]
            exact (World.ownsMap_made _ _ _ _).setCell (show w0.heap.size ≠ g by omega) _
          have e21 : w1.cell? ⟨g, 2, none⟩ = some (.map (some b)) := by rw [cell_of_row w1 g 2 _ _ (0, 0) hhead.out]; rfl
          have ca : (w0.alloc (.map #[] 0)).cell? ⟨g, 2, none⟩ = some (.map none) := (World.cell?_of_block (w := w0) (ka g hgl0)).trans e2
          have fa : (w0.alloc (.map #[] 0)).frozen? ⟨g, 2, none⟩ = false := by simp [World.frozen?, ka g hgl0, hHead0.out]
          have HW0 := hide hw0
          have HD := hide hD
          have Hin := hide hin
          have HW1 := hide hw1
          have HB := hide hb
          clear hD hin hq hw1 hb0 h0 hrow hw0 hb hgl0 k1 ka sz1 hE c0 f0
          go_upto_region 6 with (at_lookup; refine wp_lookup_nil _ rfl _ _ 48 rfl 3 67 law3 Try.underlying48 (zeroU _) rfl _ _ rfl Hkey.out ?_)
          rw [← HW0.out]
          go_upto_region 9 with fail
          rw [← HB.out, ← HW1.out]
          clear HW0 HB HW1 c2 f2 e2 ef ca fa hHead0
          have e2 := e21
          clear e21
          go_upto_region 10 with (at_mapUpdate; refine wpList_mapUpdate_own _ rfl _ _ _ 48 rfl 3 67 law3 Try.underlying48 _ b F.length _ rfl hown1 (by have := hFl.out; unfold maxLen; omega) _ _ _ rfl rfl Hkey.out _ [] unitElem_mk ?_; intro w7 hown7 hgrow7)
          have hd7 : w7.heap[g]? = some (.cells #[.slice Av l.length cv, .int .i64 (at' : Int), .map (some b)] 50 (0, 0)) := (hgrow7.block g hgl.out fun e => by injection e with e; exact hbg.out e.symm).trans hhead.out
          have q0 : w7.cell? ⟨g, 0, none⟩ = some (.slice Av l.length cv) := by rw [cell_of_row w7 g 0 _ _ (0, 0) hd7]; rfl
          have r7 := hrow1.out.keep (w' := w7) fun k hk => hgrow7.block k (hrow1.out.lt hk) fun e => hvb.out (by rw [hk]; exact e)
          have r8 := hide (r7.keep (w' := w7.alloc (.cells #[.int .i64 x] 3)) fun k hk => (balloc w7 _).block k (r7.lt hk))
          have s1 := hide (Src.lit1 w7 (.int .i64 x) 3)
          have Hd7 := hide hd7
          have Ho7 := hide hown7
          have Hg7 := hide hgrow7
          clear hd7 hown7 hgrow7  r7 e2 hown1
          go_wp2_with (at_builtin; with_reducible refine wp_app 48 rfl rfl (.tmp 45) (.tmp 47) 31 rfl Try.underlying31 infoI8 ?_ (us := l.map encI) ?_ r8.out (A := some ⟨w7.heap.size, 0, none⟩) (c := 1) (news := [.int .i64 x]) ?_ ?_ ?_ ?_ ?_ ?_)
          case refine_1 => rfl
          case refine_2 => rfl
          case refine_3 => rfl
          case refine_4 => exact s1.out
          case refine_5 => intro u hu; simp at hu; subst hu; rfl
          case refine_6 => have := hll.out; have := hFl.out; rw [List.length_map, List.length_singleton]; omega
          case refine_7 => have := hll.out; have := hFl.out; rw [List.length_map, List.length_singleton]; unfold maxLen; omega
          case refine_8 =>
          intro v' w9 hr9 g9 a9
          have hd9 : w9.heap[g]? = some (.cells #[.slice Av l.length cv, .int .i64 (at' : Int), .map (some b)] 50 (0, 0)) :=
            (g9.block g (by have := Hg7.out.size; have := hgl.out; simp; omega) fun e => hvg.out e.symm).trans (((balloc w7 _).block g (by have := Hg7.out.size; have := hgl.out; omega)).trans Hd7.out)
          have f9 : w9.frozen? ⟨g, 0, none⟩ = false := by simp [World.frozen?, hd9]
          have q9 : w9.cell? ⟨g, 0, none⟩ = some (.slice Av l.length cv) := by rw [cell_of_row w9 g 0 _ _ (0, 0) hd9]; rfl
          obtain ⟨A', c', rfl, -, -⟩ := hr9.shape
          have Hr9 := hide hr9
          have G9 := hide g9
          have A9 := hide a9
          clear hr9 g9 a9 hd9
          go_wp2_with fail
          have el : (l.map encI ++ [Value.int .i64 x]).length = l.length + 1 := by simp
          rw [el] at Hr9 A9
          obtain ⟨S2, hq2, hs2⟩ := push_end (w := wr) (W := w1) (x := x) (b := b) Hq.out Hwf.out hch.out hhead.out hrow1.out hbS.out hbg.out hvb.out hbl.out (HD.out ▸ Ho7.out) Hg7.out Hr9.out G9.out A9.out
          have he : pushL E (xs.take (k + 1)) = F ++ [x] := by rw [hts.out, if_neg Hin.out]
          refine ⟨⟨k + 1, S2, by omega, by rw [Int.natCast_succ], ?_, by rw [he]; exact hq2, Hs.out.trans hs2⟩, by simp only [intOf]; omega⟩
          rw [he, List.length_append, List.length_singleton, Hn.out]
          have := Hbd.out
          refine congrArg (Value.int .i64) ?_
          omega
        · have hh := keysOf_has F x
          rw [decide_eq_false hin] at hh
          obtain ⟨D, hD⟩ : ∃ D : DataW Unit, D = setOf (.agg []) (keysOf F) := ⟨_, rfl⟩
          rw [← hD] at hown hh
          have HD := hide hD
          have Hin := hide hin
          obtain ⟨w1, hw1⟩ : ∃ w1, w1 = wr.alloc (.cells #[] 67) := ⟨_, rfl⟩
          have hb1 : Below wr.heap.size wr w1 := by rw [hw1]; exact balloc wr _
          have h1 : QA w1 S' g F p v l at' (some b) := Hq.out.keep (Ch.of_below (S := fun _ => False) hb1) fun _ _ h => h
          have HW1 := hide hw1
          obtain ⟨Av, cv, rfl, -, -⟩ := h1.row.shape
          rw [List.length_map] at *
          obtain ⟨e0, -, -, ef⟩ := h1.cells
          have e2 : w1.cell? ⟨g, 2, none⟩ = some (.map (some b)) := h1.cells.2.2.1
          have hown1 : w1.ownsMap Try.prog 3 (unitElem (H := Unit)) b F.length D := by
            obtain ⟨es, clock, q1, q2⟩ := hown
            exact ⟨es, clock, (hb1.block b (Hq.out.lt b (Hq.out.sm b rfl).1)).trans q1, q2⟩
          have H1 := hide h1
          have hgb := hide (show w1.heap.size = wr.heap.size + 1 by rw [hw1]; simp)
          have Hb1 := hide hb1
          clear hD hin hq hw1 hb1 h1 hrow e0 ef
          go_upto_region 6 with (at_lookup; refine wpList_lookup_own_unit _ rfl _ _ 48 rfl 3 67 law3 Try.underlying48 (zeroU _) b F.length _ rfl hown _ _ rfl Hkey.out ?_)
          rw [← HW1.out]
          clear HW1 hown c2
          have hgl := hide (H1.out.lt g H1.out.sg)
          have hbl := hide (H1.out.lt b (H1.out.sm b rfl).1)
          have hbg := hide (H1.out.sm b rfl).2
          have hvb := hide (show (Value.slice Av l.length cv).ownBlock ≠ some b from fun e => (H1.out.sv b e).2.2 rfl)
          have hvg := hide (show (Value.slice Av l.length cv).ownBlock ≠ some g from fun e => (H1.out.sv g e).2.1 rfl)
          have hll := hide H1.out.ll
          have hhead := hide H1.out.head
          have hrow1 := hide H1.out.row
          have hch : Hid (Ch S' wr w1) := hide (Ch.of_below Hb1.out)
          have hbS : Hid (S' b ∨ wr.heap.size ≤ b) := hide (.inl (H1.out.sm b rfl).1)
          clear H1
          go_upto_region 10 with (at_mapUpdate; refine wpList_mapUpdate_own _ rfl _ _ _ 48 rfl 3 67 law3 Try.underlying48 _ b F.length _ rfl hown1 (by have := hFl.out; unfold maxLen; omega) _ _ _ rfl rfl Hkey.out _ [] unitElem_mk ?_; intro w7 hown7 hgrow7)
          have hd7 : w7.heap[g]? = some (.cells #[.slice Av l.length cv, .int .i64 (at' : Int), .map (some b)] 50 (0, 0)) := (hgrow7.block g hgl.out fun e => by injection e with e; exact hbg.out e.symm).trans hhead.out
          have q0 : w7.cell? ⟨g, 0, none⟩ = some (.slice Av l.length cv) := by rw [cell_of_row w7 g 0 _ _ (0, 0) hd7]; rfl
          have r7 := hrow1.out.keep (w' := w7) fun k hk => hgrow7.block k (hrow1.out.lt hk) fun e => hvb.out (by rw [hk]; exact e)
          have r8 := hide (r7.keep (w' := w7.alloc (.cells #[.int .i64 x] 3)) fun k hk => (balloc w7 _).block k (r7.lt hk))
          have s1 := hide (Src.lit1 w7 (.int .i64 x) 3)
          have Hd7 := hide hd7
          have Ho7 := hide hown7
          have Hg7 := hide hgrow7
          clear hd7 hown7 hgrow7  r7 e2 hown1
          go_wp2_with (at_builtin; with_reducible refine wp_app 48 rfl rfl (.tmp 45) (.tmp 47) 31 rfl Try.underlying31 infoI8 ?_ (us := l.map encI) ?_ r8.out (A := some ⟨w7.heap.size, 0, none⟩) (c := 1) (news := [.int .i64 x]) ?_ ?_ ?_ ?_ ?_ ?_)
          case refine_1 => rfl
          case refine_2 => rfl
          case refine_3 => rfl
          case refine_4 => exact s1.out
          case refine_5 => intro u hu; simp at hu; subst hu; rfl
          case refine_6 => have := hll.out; have := hFl.out; rw [List.length_map, List.length_singleton]; omega
          case refine_7 => have := hll.out; have := hFl.out; rw [List.length_map, List.length_singleton]; unfold maxLen; omega
          case refine_8 =>
          intro v' w9 hr9 g9 a9
          have hd9 : w9.heap[g]? = some (.cells #[.slice Av l.length cv, .int .i64 (at' : Int), .map (some b)] 50 (0, 0)) :=
            (g9.block g (by have := Hg7.out.size; have := hgl.out; simp; omega) fun e => hvg.out e.symm).trans (((balloc w7 _).block g (by have := Hg7.out.size; have := hgl.out; omega)).trans Hd7.out)
          have f9 : w9.frozen? ⟨g, 0, none⟩ = false := by simp [World.frozen?, hd9]
          have q9 : w9.cell? ⟨g, 0, none⟩ = some (.slice Av l.length cv) := by rw [cell_of_row w9 g 0 _ _ (0, 0) hd9]; rfl
          obtain ⟨A', c', rfl, -, -⟩ := hr9.shape
          have Hr9 := hide hr9
          have G9 := hide g9
          have A9 := hide a9
          clear hr9 g9 a9 hd9
          go_wp2_with fail
          have el : (l.map encI ++ [Value.int .i64 x]).length = l.length + 1 := by simp
          rw [el] at Hr9 A9
          obtain ⟨S2, hq2, hs2⟩ := push_end (w := wr) (W := w1) (x := x) (b := b) Hq.out Hwf.out hch.out hhead.out hrow1.out hbS.out hbg.out hvb.out hbl.out (HD.out ▸ Ho7.out) Hg7.out Hr9.out G9.out A9.out
          have he : pushL E (xs.take (k + 1)) = F ++ [x] := by rw [hts.out, if_neg Hin.out]
          refine ⟨⟨k + 1, S2, by omega, by rw [Int.natCast_succ], ?_, by rw [he]; exact hq2, Hs.out.trans hs2⟩, by simp only [intOf]; omega⟩
          rw [he, List.length_append, List.length_singleton, Hn.out]
          have := Hbd.out
          refine congrArg (Value.int .i64) ?_
          omega
    · obtain rfl : k = N := by omega
      have he : xs.take k = xs := List.take_of_length_le (by rw [← HN.out]; exact Nat.le_refl _)
      rw [he] at hq ⊢
      have Hq := hide hq
      have Hs := hide hs
      clear hq hs he
      obtain ⟨n, hn⟩ : ∃ n, n = (pushL E xs).length - E.length := ⟨_, rfl⟩
      rw [← hn] at hR ⊢
      clear hn
      go_wp2_with fail
      exact hR.out _ _ ⟨rfl, S', Hq.out, Hs.out⟩
end
end Go.Proofs.Ytdppjhfndolbjaa
