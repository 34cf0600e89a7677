/- outer.New, walked. -/
import Derived.Test.YtfkofhdgokhodaaOut2
import Derived.Deep.RegionLaw
set_option linter.unusedVariables false
set_option linter.unusedSimpArgs false
namespace Go.Proofs.Ytfkofhdgokhodaa
open Go.RowKit Go.Maps

section
variable {b0 g : Nat} {c : Nat → Nat} {W w w3 : World} {vo vh vo' u v' : Value} {uo uh : List Value} {of has : List (List Int)} {o : Obj} {j : Nat} {l : List Int} {x : Int}
theorem OG.more_at (h : OG b0 c w g vo vh uo uh of has) (hB : Below b0 W w) (hb : b0 ≤ w.heap.size) (hg : (w.alloc o).grownBy w3 vo.ownBlock) :
    w3.cell? ⟨g, 0, none⟩ = some vo ∧ w3.frozen? ⟨g, 0, none⟩ = false ∧ Below b0 W (w3.setCell ⟨g, 0, none⟩ vo') := by
  have hz : (w.alloc o).heap.size = w.heap.size + 1 := by simp
  have hne : vo.ownBlock ≠ some g := fun e => by have := (h.co g e).1; have := h.gc.1; omega
  have hlt := h.lt
  have e9 : w3.heap[g]? = some (.cells #[vo, vh] 81 (0, 0)) := ((hg.block g (by omega) fun e => hne e.symm).trans ((balloc w o).block g hlt)).trans h.cell
  exact ⟨cell_of_row w3 g 0 _ _ _ e9, by simp [World.frozen?, e9], ((Ch.of_grown hg).below (hB.alloc hb o) (by omega) fun z hz' => (h.co z hz').2).setCell h.gc.2 _⟩
theorem OG.put_below (h : OG b0 c w g vo vh uo uh of has) (hB : Below b0 W w) (hb : b0 ≤ w.heap.size) (hj : uh[j]? = some u) (hl : has[j]? = some l) (hg : (w.alloc o).grownBy w3 u.ownBlock) {q k : Nat} (hq : vh = .slice (some ⟨q, 0, none⟩) k k) :
    Below b0 W (w3.setCell ⟨q, j, none⟩ v') := by
  have hz : (w.alloc o).heap.size = w.heap.size + 1 := by simp
  exact ((Ch.of_grown hg).below (hB.alloc hb o) (by omega) fun z hz' => ((h.eh j u l hj hl).2 z hz').2).setCell (h.ch q (by rw [hq]; rfl)).2 _
theorem OG.rowcell {Z k : Nat} (h : OG b0 c w g vo (.slice (some ⟨Z, 0, none⟩) k k) uo uh of has) (hj : uh[j]? = some u) : w.cell? ⟨Z, j, none⟩ = some u ∧ w.frozen? ⟨Z, j, none⟩ = false ∧ Z < w.heap.size := by
  have hju : j < uh.length := (List.getElem?_eq_some_iff.1 hj).1
  have huj : uh[j] = u := (List.getElem?_eq_some_iff.1 hj).2
  obtain ⟨q, c0, e0, cc, f, ql, -⟩ := h.rh.set hju u
  injection e0 with e0
  injection e0 with e0
  injection e0 with e0
  subst e0
  exact ⟨by rw [cc, huj], f, ql⟩
theorem OG.put_at {Z k : Nat} (h : OG b0 c w g vo (.slice (some ⟨Z, 0, none⟩) k k) uo uh of has) (hB : Below b0 W w) (hj : uh[j]? = some u) (hl : has[j]? = some l)
    (hr : Row w3 3 v' (l.map encI ++ [.int .i64 x])) (hg : (w.alloc o).grownBy w3 u.ownBlock) (ho : v'.ownBlock = u.ownBlock ∨ v'.ownBlock = some (w.alloc o).heap.size) (hb : b0 ≤ w.heap.size) :
    w3.cell? ⟨Z, j, none⟩ = some u ∧ w3.frozen? ⟨Z, j, none⟩ = false ∧ w3.cell? ⟨g, 1, none⟩ = some (.slice (some ⟨Z, 0, none⟩) k k) ∧ Hid (OG b0 (fun z => if z < w.heap.size then c z else 4 + j) (w3.setCell ⟨Z, j, none⟩ v') g vo (.slice (some ⟨Z, 0, none⟩) k k) uo (uh.set j v') of (has.set j (l ++ [x])) ∧ Below b0 W (w3.setCell ⟨Z, j, none⟩ v')) := by
  obtain ⟨q, c0, e0, -, -, cc, f, ho2⟩ := h.put hb hj hl hr hg ho
  injection e0 with e0 e1 e2
  injection e0 with e0
  injection e0 with e0
  subst e0
  have hz : (w.alloc o).heap.size = w.heap.size + 1 := by simp
  have hlt := h.lt
  have e9 := ((hg.block g (by omega) fun e => by have := ((h.eh j u l hj hl).2 g e.symm).1; have := h.gc.1; omega).trans ((balloc w o).block g hlt)).trans h.cell
  exact ⟨cc, f, cell_of_row w3 g 1 _ _ _ e9, hide ⟨ho2, h.put_below hB hb hj hl hg rfl⟩⟩
theorem step_appo {P : Program} {ops : Array Oper} {o : Oper} {a : Act} {w : World} {K : Act → World → Prop} {Q : Exit → Act → World → Prop} {X : Prop} (hg : o.guard = none) (N : Tmp) (_hN : o.dst = some N) (s x : Operand) (t : TypeId)
    (ho : o.op = .call { callee := .builtin .append, args := #[s, x], argTypes := #[t, t] }) {e : TypeId} {z : Value} {bytes : Nat} (ht : P.underlying t = some (.slice e)) (hi : (P.info? e).map (fun i => (i.zero, i.size, i.bytes)) = some (some z, 1, bytes)) (hz : z.cells.size = 1)
    {v : Value} {us : List Value} (hv : a.eval s = v) (hown : Row w e v us) {A : Option Addr} {c : Nat} {news : List Value} (hx : a.eval x = .slice A news.length c) (hs : Src w A news) (h1 : ∀ u ∈ news, u.oneCell' = true)
    (hb : (us.length + news.length) * bytes ≤ 140737488355328) (hl : us.length + news.length ≤ maxLen)
    (h : ∀ v' w', Row w' e v' (us ++ news) → w.grownBy w' v.ownBlock → (v'.ownBlock = v.ownBlock ∨ v'.ownBlock = some w.heap.size) → K (a.put (some N) v') w') : if Region.wanted o (yielded ops a.tmps) = true then Oper.wp P o a w K Q else X := by
  rw [if_pos (by simp [Region.wanted, hg])]
  exact op_app N _hN s x t ho ht hi hz hv hown hx hs h1 hb hl h
end
set_option maxHeartbeats 4000000 in
set_option maxRecDepth 100000 in
theorem onew_calls (N B Q E F : Int) (s : UInt64) (n q a : Nat) (w : World) (hm : mayB N B Q E F = true) (hn : N = (n : Int)) (hq : Q = (q : Int)) (ha : auxI Q E N = (a : Int)) (hn60 : n ≤ 60) (ha9 : a ≤ 1000) (hqa : q ≤ a) :
    Calls Try.prog 7 #[pV N B Q E F, .int .u64 (s.toNat : Int)] w fun e w' => ∃ g c vo vh uo uh, e = .returned (.tuple #[.pointer (some ⟨g, 0, none⟩), .int .i64 0]) ∧ OG w.heap.size c w' g vo vh uo uh (ofL a q s n) (hasL (ofL a q s n) a) ∧ Below w.heap.size w w' := by
  subst hn
  subst hq
  refine cps fun R hR => ?_
  obtain ⟨W, hW, hb, hs, d0, d1, d2, d3, d4⟩ := box5 w (n : Int) B (q : Int) E F 23
  have hbd := may_bd hm
  have hck := hide (check_calls (n : Int) B (q : Int) E F W)
  rw [if_pos hm] at hck
  have hmk := make_lists a (by omega)
  obtain ⟨b, hbq⟩ : ∃ b, b = w.heap.size := ⟨_, rfl⟩
  have Hbq := hide hbq
  have HW := hide hW
  have Hb := hide hb
  have Hs := hide hs
  have hcells := hide (show ∀ x, Below W.heap.size W x → x.cell? ⟨b, 0, none⟩ = some (.int .i64 (n : Int)) ∧ x.cell? ⟨b, 1, none⟩ = some (.int .i64 B) ∧ x.cell? ⟨b, 2, none⟩ = some (.int .i64 (q : Int)) ∧ x.cell? ⟨b, 3, none⟩ = some (.int .i64 E) ∧ x.cell? ⟨b, 4, none⟩ = some (.int .i64 F) from fun x hx => by
    rw [hbq]
    exact ⟨later_cell d0 ⟨x, hx⟩, later_cell d1 ⟨x, hx⟩, later_cell d2 ⟨x, hx⟩, later_cell d3 ⟨x, hx⟩, later_cell d4 ⟨x, hx⟩⟩)
  have haux := hide (fun y => aux_calls (n : Int) B (q : Int) E F y (by omega) (by omega) (by omega) (by omega) (by omega) (by omega))
  rw [ha] at haux
  have hq8 : q ≤ 8 := by omega
  have hn1 : 1 ≤ n := by omega
  obtain ⟨k0, k1, k2, k3, k4⟩ := hcells.out W (Below.refl _ _)
  clear d0 d1 d2 d3 d4 hW hb hs hm hbd ha hbq
  go_enter Try.func7, Try.ntmps7
  go_upto_region 1 with fail
  rw [← HW.out, ← Hbq.out]
  clear HW
  go_wp2_with fail
  refine hck.out.mono ?_
  rintro _ w1 ⟨rfl, hb1⟩
  clear k0 k1 k2 k3 k4 hck
  obtain ⟨k0, k1, k2, k3, k4⟩ := hcells.out w1 hb1
  have B1 := hide hb1
  have hax := hide (haux.out w1)
  clear hb1 haux
  go_wp2_with fail
  refine hax.out.mono ?_
  rintro _ w2 ⟨rfl, hb2⟩
  have B2 := hide (below_step B1.out B1.out.size hb2)
  clear k0 k1 k2 k3 k4 hax hb2 B1
  obtain ⟨W3, hW3, hb3, hO⟩ := OG.new w2 a (by omega)
  have HW3 := hide hW3
  have B3 := hide (below_step B2.out B2.out.size hb3)
  have HO := hide (hO.mono B2.out.size)
  obtain ⟨k0, -, k2, -, -⟩ := hcells.out W3 B3.out
  obtain ⟨Z, hZ⟩ : ∃ Z, Z = w2.heap.size := ⟨_, rfl⟩
  have HZ := hide hZ
  rw [← hZ] at HO
  clear hW3 hb3 hO hZ B2
  go_upto_region 6 with fail
  rw [← HW3.out, ← HZ.out]
  clear HW3
  have Hg := hide (show Z = w2.heap.size ∧ w2.heap.size ≤ W3.heap.size from ⟨HZ.out, by have := HO.out.lt; have := HZ.out; omega⟩)
  obtain ⟨g, hg⟩ : ∃ g, g = Z + 1 := ⟨_, rfl⟩
  rw [← hg] at HO ⊢
  obtain ⟨G0, hG0⟩ : ∃ G0 : List (List Int), G0 = ofL a q s 0 := ⟨_, rfl⟩
  clear hg
  go_wp2_with fail
  go_loopw [26] (fun iv wr => ∃ i c vo uo uh, i ≤ n ∧ iv = .int .i64 (i : Int) ∧ OG W.heap.size c wr g vo (.slice (some ⟨Z, 0, none⟩) a a) uo uh (ofL a q s i) (hasL (ofL a q s i) a) ∧ Below W.heap.size W wr) (fun iv _ => n - (intOf iv).toNat)
  case atStart => exact ⟨0, _, _, _, _, Nat.zero_le _, rfl, HO.out, B3.out⟩
  case round =>
    obtain ⟨i, c, vo, uo, uh, hi, rfl, hO, hb⟩ := hrel
    by_cases hlt : i < n
    · have t1 : decide ((i : Int) < (n : Int)) = true := by simp; omega
      obtain ⟨k0, -, k2, -, -⟩ := hcells.out wr hb
      have Hcw := hide hcells.out
      have HO1 := hide hO
      have HB1 := hide hb
      have hwi : IntKind.u64.wrap (i : Int) = (i : Int) := by rw [IntKind.wrap_u64]; omega
      have hlen : uo.length = i := hO.lo.trans (ofL_len _ _ _ _)
      clear hO hb
      have K2 := hide k2
      have Hl := hide hlen
      have Hpure := hide (show ofL a q s (i + 1) = ofL a q s i ++ [someL a q (seedF [s, 1, UInt64.ofNat i])] from rfl)
      have HB0 : Hid (Below wr.heap.size wr wr) := hide (Below.refl _ _)
      clear hlen
      go_upto_region 9 with fail
      go_region_held (fun y => y.cell? ⟨b, 2, none⟩ = some (.int .i64 (q : Int))) (first | assumption | exact held_cell9 K2 (by repeat (first | assumption | refine held_alloc9 ?_ | refine held_drew9 ?_))) (first
        | (go_at_call 11
           refine (new3 s i (by omega) wr _ (by first | exact (Below.refl _ _).drew | exact Below.refl _ _)).mono ?_
           rintro _ w7 ⟨gr, rfl, hgr, hra, hb7⟩
           have HB7 := hide hb7
           have Hra := hide hra
           have Hgr := hide hgr
           clear hb7 hra hgr)
        | (go_at_call 10
           refine (some3 (w := wr) (by omega) hqa HB7.out Hgr.out Hra.out).mono ?_
           rintro _ w8 ⟨v, rfl, hv, hvz, hb8⟩
           have HB8 := hide hb8
           have Hv := hide hv
           have Hvz := hide hvz
           clear hb8 hv hvz))
      clear k0 k2 K2 HB7 Hra Hgr HB0 hwi
      have hO8 := HO1.out.keep (w' := w8) (c' := fun z => if z < wr.heap.size then c z else 3) (fun z h1 _ => HB8.out.block z h1) (fun z h1 => if_pos h1)
      have hvc : ∀ z, v.ownBlock = some z → (fun z => if z < wr.heap.size then c z else 3) z = 3 ∧ W.heap.size ≤ z := fun z hz => ⟨if_neg (by have := Hvz.out z hz; omega), Nat.le_trans HB1.out.size (Hvz.out z hz)⟩
      obtain ⟨c1, hc1⟩ : ∃ c1 : Nat → Nat, c1 = fun z => if z < wr.heap.size then c z else 3 := ⟨_, rfl⟩
      rw [← hc1] at hO8 hvc
      obtain ⟨l, hl⟩ : ∃ l, l = someL a q (seedF [s, 1, UInt64.ofNat i]) := ⟨_, rfl⟩
      have hll : l.length = q := by rw [hl, someL_len]
      have hlb : ∀ x ∈ l, 0 ≤ x ∧ x < (a : Int) := fun x hx => someL_bd hqa _ (by rw [← hl]; exact hx)
      have hln : l.Nodup := by rw [hl]; exact someL_nodup _ _ _
      rw [← hl] at Hpure Hv
      obtain ⟨Av, cv, rfl, -, -⟩ := Hv.out.shape
      rw [List.length_map, hll] at Hv Hvz hvc ⊢
      obtain ⟨Ao, co, rfl, -, -⟩ := hO8.ro.shape
      rw [Hl.out] at hO8
      obtain ⟨G, hG⟩ : ∃ G, G = ofL a q s i := ⟨_, rfl⟩
      have hGl : G.length = i := by rw [hG, ofL_len]
      rw [← hG] at hO8 Hpure
      have HG := hide (And.intro hGl hG)
      have HL := hide (And.intro hll (And.intro hlb hln))
      have HO8 := hide hO8
      have Hvc := hide hvc
      have Bw8 := hide (below_step HB1.out HB1.out.size HB8.out)
      obtain ⟨d0, d1, df⟩ := hO8.cells
      have d0f := df 0
      have hx := hide (hO8.ro.keep (w' := w8.alloc (.cells #[.slice Av q cv] 29)) fun z hz => (balloc w8 _).block z (hO8.ro.lt hz))
      have s6 := hide (Src.lit1 w8 (.slice Av q cv) 29)
      have hone := hide (show ∀ u ∈ [Value.slice Av q cv], u.oneCell' = true from fun u hu => by simp at hu; subst hu; rfl)
      have hby := hide (show (uo.length + [Value.slice Av q cv].length) * 24 ≤ 140737488355328 ∧ uo.length + [Value.slice Av q cv].length ≤ maxLen from ⟨by rw [Hl.out, List.length_singleton]; omega, by rw [Hl.out, List.length_singleton]; unfold maxLen; omega⟩)
      clear hc1 hl hll hlb hln hG hGl hO8 hvc df HB8 Hvz
      go_wp2_with (at_builtin; with_reducible refine wp_app 45 rfl rfl (.tmp 42) (.tmp 44) 71 rfl Try.underlying71 infoL ?_ (us := uo) ?_ hx.out (A := some ⟨w8.heap.size, 0, none⟩) (c := 1) (news := [.slice Av q cv]) ?_ s6.out hone.out hby.out.1 hby.out.2 ?_)
      all_goals first | rfl | skip
      intro v9 w9 hr9 g9 o9
      obtain ⟨x0, x0f, x0b⟩ := HO8.out.more_at (vo' := v9) Bw8.out Bw8.out.size g9
      have hO10 := HO8.out.more Bw8.out.size Hv.out Hvc.out hr9 g9 o9
      obtain ⟨c10, hc10⟩ : ∃ c10 : Nat → Nat, c10 = fun z => if z < w8.heap.size then c1 z else 1 := ⟨_, rfl⟩
      rw [← hc10] at hO10
      obtain ⟨A9, c9, rfl, -, -⟩ := hr9.shape
      have hl9 : (uo ++ [Value.slice Av q cv]).length = i + 1 := by rw [List.length_append, Hl.out]; rfl
      rw [hl9] at x0b hO10 ⊢
      have HO10 := hide hO10
      have HB10 := hide x0b
      obtain ⟨W10, hW10⟩ : ∃ W10, W10 = w9.setCell ⟨g, 0, none⟩ (.slice A9 (i + 1) c9) := ⟨_, rfl⟩
      rw [← hW10] at HO10 HB10
      have HW10 := hide hW10
      clear hc10 hr9 g9 o9 hl9 hO10 x0b hx s6 hone hby d0 d1 d0f hW10
      go_upto_region 11 with fail
      rw [← HW10.out]
      clear HW10 x0 x0f
      obtain ⟨uo2, huo2⟩ : ∃ uo2, uo2 = uo ++ [Value.slice Av q cv] := ⟨_, rfl⟩
      have hui := hide (show uo2[i]? = some (Value.slice Av q cv) by rw [huo2, ← Hl.out, List.getElem?_append_right (Nat.le_refl _), Nat.sub_self]; rfl)
      have hgi := hide (show (G ++ [l])[i]? = some l by rw [← HG.out.1, List.getElem?_append_right (Nat.le_refl _), Nat.sub_self]; rfl)
      rw [← huo2] at HO10
      obtain ⟨G2, hG2⟩ : ∃ G2, G2 = G ++ [l] := ⟨_, rfl⟩
      rw [← hG2] at HO10 Hpure hgi
      have HG2 := hide hG2
      have Hi := hide (And.intro hi hlt)
      clear huo2 HO8 HO1 Hvc Bw8 Hv HB1 Hl t1 hG2
      go_wp2_with fail
      go_loopw [50] (fun tv wx => ∃ t c uh', t ≤ q ∧ tv = .int .i64 (t : Int) ∧ OG W.heap.size c wx g (.slice A9 (i + 1) c9) (.slice (some ⟨Z, 0, none⟩) a a) uo2 uh' G2 (midL G l t a) ∧ Below W.heap.size W wx) (fun tv _ => q - (intOf tv).toNat)
      case atStart => exact ⟨0, c10, uh, Nat.zero_le _, rfl, by rw [midL_zero]; exact HO10.out, HB10.out⟩
      case round =>
        obtain ⟨t, c2, uh2, ht, rfl, hO2, hb2⟩ := hrel
        by_cases hlt2 : t < q
        · have t2 : decide ((t : Int) < (q : Int)) = true := by simp; omega
          have htl : t < l.length := by rw [HL.out.1]; exact hlt2
          obtain ⟨j, hj⟩ : ∃ j : Nat, l[t] = (j : Int) := ⟨(l[t]).toNat, by have := (HL.out.2.1 _ (List.getElem_mem htl)).1; omega⟩
          have hja : j < a := by have := (HL.out.2.1 _ (List.getElem_mem htl)).2; omega
          obtain ⟨zv, cv', ev, cc, -, -, -⟩ := (hO2.eo i _ l hui.out hgi.out).1.set (i := t) (by rw [List.length_map]; exact htl) (Value.bool true)
          rw [List.getElem_map, hj, show encI (j : Int) = Value.int .i64 (j : Int) from rfl] at cc
          injection ev with ev ev2 ev3
          subst ev
          clear ev2 ev3
          have hhj := midL_at G HL.out.2.2 htl hj hja
          obtain ⟨u, hu⟩ : ∃ u, uh2[j]? = some u := ⟨uh2[j]'(by rw [hO2.lh, midL_len]; exact hja), List.getElem?_eq_getElem _⟩
          have hru := (hO2.eh j u _ hu hhj).1
          have hstep := midL_step G HL.out.2.2 htl hj hja
          have hle : (hasF G (j : Int)).length ≤ 60 := Nat.le_trans (hasF_len _ _) (by rw [HG.out.1]; omega)
          obtain ⟨hs, hhs⟩ : ∃ hs, hs = hasF G (j : Int) := ⟨_, rfl⟩
          rw [← hhs] at hhj hru hstep hle
          obtain ⟨Au, cu, rfl, -, -⟩ := hru.shape
          obtain ⟨lh, hlh⟩ : ∃ lh, lh = (hs.map encI).length := ⟨_, rfl⟩
          rw [← hlh] at hru hu
          rw [List.length_map] at hlh
          obtain ⟨z1, z2, z3⟩ := hO2.rowcell hu
          obtain ⟨-, y1, yf⟩ := hO2.cells
          have ya := held_cell9 (hide y1) (held_alloc9 (o := .cells #[.int .i64 (i : Int)] 3) (hide (Below.refl wr.heap.size wr)))
          have za := held_cell9 (hide z1) (held_alloc9 (o := .cells #[.int .i64 (i : Int)] 3) (hide (Below.refl wr.heap.size wr)))
          have HX := hide (hru.keep (w' := wr.alloc (.cells #[.int .i64 (i : Int)] 3)) fun z hz => (balloc wr _).block z (hru.lt hz))
          have HO2 := hide hO2
          have HB2 := hide hb2
          have Hst := hide hstep
          have Hu := hide hu
          have Hhj := hide hhj
          have Hlh := hide hlh
          have Hle := hide hle
          have Ht := hide (And.intro ht hlt2)
          have hone := hide (show ∀ u ∈ [Value.int .i64 (i : Int)], u.oneCell' = true from fun u hu => by simp at hu; subst hu; rfl)
          clear hO2 hb2 hstep hhs hru htl hj hlh hhj hu yf hle
          have i1 : (0 : Int) ≤ (j : Int) := by omega
          have i2 : (j : Int) < (a : Int) := by omega
          go_upto_region 14 with fail
          go_region_law (
            go_loud (
              with_reducible refine step_appo rfl 68 rfl (.tmp 65) (.tmp 67) 29 rfl Try.underlying29 infoIq ?_ (v := .slice Au lh cu) (us := hs.map encI) ?_ ?_ (A := some ⟨wr.heap.size, 0, none⟩) (c := 1) (news := [.int .i64 (i : Int)]) ?_ ?_ hone.out ?_ ?_ ?_
              · rfl
              · rfl
              · exact HX.out
              · rfl
              · exact Src.lit1 wr (.int .i64 (i : Int)) 3
              · rw [List.length_map, ← Hlh.out, List.length_singleton]; have := Hle.out; have := Hlh.out; omega
              · rw [List.length_map, ← Hlh.out, List.length_singleton]; have := Hle.out; have := Hlh.out; unfold maxLen; omega
              intro v5 w5 hr5 g5 o5
              obtain ⟨p1, p2, p3, P4⟩ := OG.put_at (w := wr) (w3 := w5) (v' := v5) (x := (i : Int)) (u := .slice Au lh cu) (l := hs) (j := j) (o := .cells #[.int .i64 (i : Int)] 3) HO2.out HB2.out Hu.out Hhj.out hr5 ⟨g5.os, g5.tape, g5.output, g5.size, g5.block⟩ o5 HB2.out.size
              obtain ⟨A5, c5, rfl, -, -⟩ := hr5.shape
              rw [List.length_append, List.length_map, ← Hlh.out, List.length_singleton] at P4 ⊢
              clear hr5 g5 o5))
          all_goals
            clear p1 p2 p3 y1 z1 z2 ya za
            have ht9 : t ≤ 60 := by have := Ht.out; omega
            go_wp2_with fail
            exact ⟨⟨t + 1, _, _, Ht.out.2, rfl, by rw [Hst.out, HG.out.1]; exact P4.out.1, P4.out.2⟩, by have := Ht.out; simp only [intOf]; omega⟩
        · have htq : t = q := by omega
          have t2 : decide ((t : Int) < (q : Int)) = false := by simp; omega
          rw [htq, show midL G l q a = hasL G2 a by rw [← HL.out.1, midL_full, HG2.out]] at hO2
          have HO3 := hide (show OG W.heap.size c2 wr g (.slice A9 (i + 1) c9) (.slice (some ⟨Z, 0, none⟩) a a) uo2 uh2 (ofL a q s (i + 1)) (hasL (ofL a q s (i + 1)) a) by rw [Hpure.out]; exact hO2)
          have HB3 := hide hb2
          clear hO2 hb2 htq
          have hi9 : i ≤ 60 := by have := Hi.out; omega
          go_wp2_with fail
          exact ⟨⟨i + 1, c2, _, uo2, uh2, by have := Hi.out; omega, rfl, HO3.out, HB3.out⟩, by have := Hi.out; simp only [intOf]; omega⟩
    · have hin : i = n := by omega
      have t1 : decide ((i : Int) < (n : Int)) = false := by simp; omega
      rw [hin] at hO
      have HO4 := hide hO
      have HB4 := hide hb
      clear hO hb hin
      go_wp2_with fail
      exact hR.out _ _ ⟨g, c, vo, _, uo, uh, rfl, HO4.out.mono Hb.out.size, Hb.out.trans (HB4.out.mono Hb.out.size)⟩
end Go.Proofs.Ytfkofhdgokhodaa
