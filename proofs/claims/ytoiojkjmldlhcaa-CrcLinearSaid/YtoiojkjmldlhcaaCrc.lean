/- The sums of 32 bits, walked. -/
import Derived.Test.YtoiojkjmldlhcaaCrcMath
import Derived.Test.YtoiojkjmldlhcaaWireParts
set_option linter.unusedVariables false
set_option linter.unusedSimpArgs false
namespace Go.Proofs.Ytoiojkjmldlhcaa
open Go.RowKit

def enc32 (x : UInt32) : Value := .int .u32 (x.toNat : Int)
/-- k bytes of the table are reckoned. -/
def tabK (k : Nat) : List UInt32 := (List.range k).map (fun i => tblC (UInt8.ofNat i)) ++ List.replicate (256 - k) 0
def TabAt (w : World) (g k : Nat) : Prop := w.heap[g]? = some (.cells ((tabK k).map enc32).toArray 65 (0, 0))

def zTab : Array Value := Array.replicate 256 (.int .u32 0)
theorem infoT : (Try.prog.info? 65).map (fun i => i.zero) = some (some (.agg zTab)) := by kernel_rfl
theorem zero_tab (w : World) : (zeroValue 65).run Try.prog w = .ok (.agg zTab) w := by
  obtain ⟨i, hi, hz⟩ := Option.map_eq_some_iff.1 infoT
  simp [zeroValue, typeInfo, hi, hz]
theorem tabK_zero : ((tabK 0).map enc32).toArray = zTab := by
  rw [show tabK 0 = List.replicate 256 0 from rfl, List.map_replicate, List.toArray_replicate]
  rfl
theorem crcB_yes {r : UInt32} (h : (((r.toNat : Int)) / (2147483648 : Int) == (1 : Int)) = true) : bits .xor .u32 ((r.toNat : Int) * (2 : Int) % (4294967296 : Int)) 79764919 = ((crcB r).toNat : Int) := by
  have hr := r.toNat_lt
  have h1 : r >>> 31 = 1 := by
    apply UInt32.toNat_inj.1
    rw [UInt32.toNat_shiftRight]
    simp [Nat.shiftRight_eq_div_pow] at h ⊢
    omega
  have e : ((r.toNat : Int) * (2 : Int) % (4294967296 : Int)) = ((r <<< 1).toNat : Int) := by
    rw [UInt32.toNat_shiftLeft]; simp [Nat.shiftLeft_eq]
  unfold crcB
  rw [if_pos h1, e]
  exact xor32 (r <<< 1) polyC
theorem crcB_no {r : UInt32} (h : (((r.toNat : Int)) / (2147483648 : Int) == (1 : Int)) = false) : ((r.toNat : Int) * (2 : Int) % (4294967296 : Int)) = ((crcB r).toNat : Int) := by
  have hr := r.toNat_lt
  have h1 : r.toNat < 2147483648 := by simp at h; omega
  obtain ⟨e1, e2⟩ := crcB_small h1
  rw [e1, e2]; omega
theorem crcN_succ (j : Nat) (a : UInt32) : crcN (j + 1) a = crcB (crcN j a) := crcN_add j 1 a
theorem byte_top {k : Nat} (hk : k < 256) : ((k : Int) * (16777216 : Int)) = (((UInt8.ofNat k).toUInt32 <<< 24).toNat : Int) := by
  rw [UInt32.toNat_shiftLeft]
  simp [Nat.shiftLeft_eq]
  omega
theorem tabK_len (k : Nat) (hk : k ≤ 256) : (tabK k).length = 256 := by simp [tabK]; omega
theorem tabK_set (k : Nat) (hk : k < 256) : (tabK k).set k (tblC (UInt8.ofNat k)) = tabK (k + 1) := by
  unfold tabK
  rw [List.set_append_right _ _ (by simp), List.length_map, List.length_range, Nat.sub_self, show 256 - k = (256 - (k + 1)) + 1 by omega, List.replicate_succ, List.set_cons_zero, List.range_succ, List.map_append, List.append_assoc]
  rfl
theorem tabK_get (i : Nat) (hi : i < 256) : (tabK 256)[i]? = some (tblC (UInt8.ofNat i)) := by
  unfold tabK
  rw [Nat.sub_self, List.replicate_zero, List.append_nil, List.getElem?_map, List.getElem?_range hi]; rfl
theorem TabAt.cell {w : World} {g k i : Nat} (h : TabAt w g k) (hk : k ≤ 256) (hi : i < 256) : (∃ u, w.cell? ⟨g, i, none⟩ = some (enc32 u) ∧ (tabK k)[i]? = some u) ∧ w.frozen? ⟨g, i, none⟩ = false := by
  have hl : i < (tabK k).length := by rw [tabK_len k hk]; exact hi
  refine ⟨⟨(tabK k)[i], ?_, List.getElem?_eq_getElem hl⟩, by unfold TabAt at h; simp [World.frozen?, h]⟩
  rw [cell_of_row w g i _ _ (0, 0) h, List.getElem?_toArray, List.getElem?_map, List.getElem?_eq_getElem hl]; rfl
theorem TabAt.set {w : World} {g k : Nat} (h : TabAt w g k) (hk : k < 256) : TabAt (w.setCell ⟨g, k, none⟩ (.int .u32 ((tblC (UInt8.ofNat k)).toNat : Int))) g (k + 1) := by
  unfold TabAt at h ⊢
  rw [← tabK_set k hk]
  simp [World.setCell, Array.getElem?_modify, h, enc32]
theorem TabAt.lt {w : World} {g k : Nat} (h : TabAt w g k) : g < w.heap.size := by
  rcases Nat.lt_or_ge g w.heap.size with hlt | hge
  · exact hlt
  · unfold TabAt at h; rw [Array.getElem?_eq_none hge] at h; cases h
theorem TabAt.keep {w w' : World} {g k : Nat} (h : TabAt w g k) (hk : w'.heap[g]? = w.heap[g]?) : TabAt w' g k := hk.trans h
set_option maxRecDepth 100000 in
theorem new_calls (w : World) : Calls Try.prog 27 #[] w fun e w' => e = .returned (.pointer (some ⟨w.heap.size, 0, none⟩)) ∧ TabAt w' w.heap.size 256 ∧ Below w.heap.size w w' ∧ w.heap.size < w'.heap.size := by
  refine cps fun R hR => ?_
  have hz := zero_tab w
  generalize hzt : zTab = Z at hz
  have Hzt := hide hzt
  clear hzt
  go_enter Try.func27, Try.ntmps27
  go_wp2_with fail
  have hz0 := hide (show TabAt (w.alloc (.cells Z 65)) w.heap.size 0 by
    unfold TabAt
    rw [heap_alloc_new, ← Hzt.out, tabK_zero])
  clear hz Hzt
  go_loopw [6] (fun i wr => ∃ k : Nat, k ≤ 256 ∧ i = .int .i64 (k : Int) ∧ TabAt wr w.heap.size k ∧ Below w.heap.size w wr ∧ w.heap.size < wr.heap.size) (fun i _ => 256 - (intOf i).toNat)
  case atStart => exact ⟨0, Nat.zero_le _, rfl, hz0.out, balloc _ _, by simp⟩
  case round =>
    obtain ⟨k, hk, rfl, ht, hb, hlt⟩ := hrel
    have Ht := hide ht
    clear ht hz0
    by_cases hkl : k < 256
    · go_wp2_with fail
      go_loop [3, 12] (fun x i => ∃ j : Nat, j ≤ 8 ∧ i = .int .i64 (j : Int) ∧ x = .int .u32 ((crcN j ((UInt8.ofNat k).toUInt32 <<< 24)).toNat : Int)) (fun _ i => 8 - (intOf i).toNat)
      case atStart => exact ⟨0, Nat.zero_le _, rfl, by rw [byte_top hkl]; rfl⟩
      case round =>
        obtain ⟨j, hj, rfl, rfl⟩ := hrel
        by_cases hjl : j < 8
        · generalize hr : crcN j ((UInt8.ofNat k).toUInt32 <<< 24) = r
          have Hr := hide hr
          clear hr
          cases htop : (((r.toNat : Int)) / (2147483648 : Int) == (1 : Int))
          case' true => have hv := hide (crcB_yes htop)
          case' false => have hv := hide (crcB_no htop)
          all_goals
            go_wp2_with fail
            go_round
            case rel => exact ⟨j + 1, by omega, by go_num, by rw [hv.out, crcN_succ, Hr.out]⟩
            case measure => simp [intOf]; omega
        · obtain rfl : j = 8 := by omega
          obtain ⟨⟨u, hc, -⟩, hf⟩ := Ht.out.cell hk hkl
          have hs := hide (Ht.out.set hkl)
          rw [show crcN 8 ((UInt8.ofNat k).toUInt32 <<< 24) = tblC (UInt8.ofNat k) from rfl]
          generalize tblC (UInt8.ofNat k) = z at hs ⊢
          generalize enc32 u = old at hc
          go_wp2_with fail
          go_roundw
          case rel => exact ⟨k + 1, by omega, by go_num, hs.out, (Ch.set wr _ _).below hb (Nat.le_of_lt hlt) (fun b hb' => Nat.le_of_eq (show w.heap.size = b from Eq.symm hb')), by simpa [World.setCell] using hlt⟩
          case measure => simp [intOf]; omega
    · obtain rfl : k = 256 := by omega
      go_wp2_with fail
      exact hR.out _ _ ⟨rfl, Ht.out, hb, hlt⟩

theorem idx_raw (r : UInt32) (x : UInt8) : bits .xor .u8 ((r.toNat : Int) / (16777216 : Int) % (256 : Int)) (x.toNat : Int) = (((r >>> 24).toUInt8 ^^^ x).toNat : Int) := by
  have e : ((r.toNat : Int) / (16777216 : Int) % (256 : Int)) = ((r >>> 24).toUInt8.toNat : Int) := by
    rw [UInt32.toNat_toUInt8, UInt32.toNat_shiftRight]
    simp [Nat.shiftRight_eq_div_pow]
  rw [e]
  exact xor8 _ _
theorem step_raw32 (r u : UInt32) (x : UInt8) (h : (tabK 256)[((r >>> 24).toUInt8 ^^^ x).toNat]? = some u) : bits .xor .u32 ((r.toNat : Int) * (256 : Int) % (4294967296 : Int)) (u.toNat : Int) = ((stepC r x).toNat : Int) := by
  rw [tabK_get _ ((r >>> 24).toUInt8 ^^^ x).toNat_lt] at h
  injection h with h
  rw [UInt8.ofNat_toNat] at h
  have e : ((r.toNat : Int) * (256 : Int) % (4294967296 : Int)) = ((r <<< 8).toNat : Int) := by
    rw [UInt32.toNat_shiftLeft]; simp [Nat.shiftLeft_eq]
  rw [e, ← h]
  exact xor32 _ _
theorem not_raw (r : UInt32) : bits .xor .u32 IntKind.u32.max (r.toNat : Int) = ((~~~ r).toNat : Int) := by
  rw [← ones_xor]
  exact xor32 4294967295 r
set_option maxRecDepth 100000 in
theorem sum_calls (g : Nat) (B : Option Addr) (bss : List (List UInt8)) (d : Nat) (S : Nat → Prop) (w : World) (ht : TabAt w g 256) (hd : d ≤ maxLen) (hdl : bss.length ≤ d) (hb : RdL (Kd.sl Kd.byte) S w B bss) :
    Calls Try.prog 29 #[.pointer (some ⟨g, 0, none⟩), .slice B bss.length d] w fun e w' => e = .returned (.int .u32 ((crcS bss.flatten).toNat : Int)) ∧ w = w' := by
  refine cps fun R hR => ?_
  unfold maxLen at hd
  have Ht := hide ht
  clear ht
  go_enter Try.func29, Try.ntmps29
  go_wp2_with fail
  go_loop [5, 12] (fun x i => ∃ k : Nat, k ≤ bss.length ∧ i = .int .i64 (k : Int) ∧ x = .int .u32 ((crcF 4294967295 (bss.take k).flatten).toNat : Int)) (fun _ i => bss.length - (intOf i).toNat)
  case atStart => exact ⟨0, Nat.zero_le _, rfl, rfl⟩
  case round =>
    obtain ⟨k, hk, rfl, rfl⟩ := hrel
    by_cases hlt : k < bss.length
    · obtain ⟨b, off, u, rfl, hsb, hu, hcell⟩ := hb.at1 rfl hlt
      obtain ⟨Ab, cb, rfl, hcb, hcm, hrd⟩ := Kd.sl_cell hu
      unfold maxLen at hcm
      have Hsn := hide (show crcF 4294967295 (bss.take (k + 1)).flatten = crcF (crcF 4294967295 (bss.take k).flatten) bss[k] by rw [List.take_succ_eq_append_getElem hlt, List.flatten_append, List.flatten_cons, List.flatten_nil, List.append_nil, crcF_append])
      clear hu
      generalize crcF 4294967295 (bss.take k).flatten = r0 at Hsn ⊢
      generalize bss[k] = xs at hcell hrd Hsn hcb
      go_wp2_with fail
      go_loop [5, 18] (fun x i => ∃ j : Nat, j ≤ xs.length ∧ i = .int .i64 (j : Int) ∧ x = .int .u32 ((crcF r0 (xs.take j)).toNat : Int)) (fun _ i => xs.length - (intOf i).toNat)
      case atStart => exact ⟨0, Nat.zero_le _, rfl, rfl⟩
      case round =>
        obtain ⟨j, hj, rfl, rfl⟩ := hrel
        by_cases hjl : j < xs.length
        · obtain ⟨b', off', u', rfl, hsb', hu', hcell'⟩ := hrd.at1 rfl hjl
          obtain rfl := Kd.byte_cell hu'
          have Hst := hide (show crcF r0 (xs.take (j + 1)) = stepC (crcF r0 (xs.take j)) xs[j] by rw [List.take_succ_eq_append_getElem hjl, crcF_snoc])
          clear hu'
          generalize crcF r0 (xs.take j) = r at Hst ⊢
          generalize xs[j] = x at hcell' Hst
          obtain ⟨⟨u, hc, hu⟩, -⟩ := Ht.out.cell (Nat.le_refl _) (((r >>> 24).toUInt8 ^^^ x).toNat_lt : _ < 256)
          have hi := idx_raw r x
          have Hv := hide (step_raw32 r u x hu)
          have hlt' : ((r >>> 24).toUInt8 ^^^ x).toNat < 256 := ((r >>> 24).toUInt8 ^^^ x).toNat_lt
          clear hu
          generalize ((r >>> 24).toUInt8 ^^^ x).toNat = idx at hc hi hlt'
          replace hc : w.cell? ⟨g, idx, none⟩ = some (.int .u32 (u.toNat : Int)) := hc
          go_wp2_with fail
          go_round
          case rel => exact ⟨j + 1, by omega, by go_num, by rw [Hv.out, Hst.out]⟩
          case measure => simp [intOf]; omega
        · obtain rfl : j = xs.length := by omega
          rw [List.take_length]
          go_wp2_with fail
          go_round
          case rel => exact ⟨k + 1, by omega, by go_num, by rw [Hsn.out]⟩
          case measure => simp [intOf]; omega
    · obtain rfl : k = bss.length := by omega
      rw [List.take_length]
      have hn := hide (not_raw (crcF 4294967295 bss.flatten))
      unfold crcS at hR
      generalize crcF 4294967295 bss.flatten = r at hR hn ⊢
      have hsg : IntKind.u32.signed = false := rfl
      go_wp2_with fail
      exact hR.out _ _ ⟨by rw [hn.out], rfl⟩

theorem make_row (n : Nat) (hn : n ≤ 1000000) (w : World) : ∃ w', (Instr.makeSlice 24 (.int .i64 0) (.int .i64 ((n : Int) + 4))).run Try.prog w = .ok (.slice (some ⟨w.heap.size, 0, none⟩) 0 (n + 4)) w' ∧
    Row w' 5 (.slice (some ⟨w.heap.size, 0, none⟩) 0 (n + 4)) [] ∧ w.grownBy w' none := by
  obtain ⟨i, hi, hzz⟩ := Option.map_eq_some_iff.1 infoB
  simp only [Prod.mk.injEq] at hzz
  obtain ⟨h1, h2, h3⟩ := hzz
  obtain ⟨w', a, b, c⟩ := run_make_own (P := Try.prog) w 0 24 5 i _ 1 Try.underlying24 hi h1 h2 .i64 .i64 (n + 4) (by rw [h3]; omega) (by unfold maxLen; omega) (Nat.zero_le _)
  exact ⟨w', by simpa using a, by simpa [Row] using b, c⟩
theorem byte_raw (s : UInt32) : IntKind.u8.wrap ((s.toNat : Int) / (16777216 : Int)) = ((s >>> 24).toUInt8.toNat : Int) ∧ IntKind.u8.wrap ((s.toNat : Int) / (65536 : Int)) = ((s >>> 16).toUInt8.toNat : Int) ∧
    IntKind.u8.wrap ((s.toNat : Int) / (256 : Int)) = ((s >>> 8).toUInt8.toNat : Int) ∧ IntKind.u8.wrap (s.toNat : Int) = (s.toUInt8.toNat : Int) := by
  refine ⟨?_, ?_, ?_, ?_⟩ <;> simp [UInt32.toNat_toUInt8, UInt32.toNat_shiftRight, Nat.shiftRight_eq_div_pow, IntKind.wrap, IntKind.bits, IntKind.signed]
theorem Src.lit4 (w : World) (u1 u2 u3 u4 : Value) (t : TypeId) : Src (w.alloc (.cells #[u1, u2, u3, u4] t)) (some ⟨w.heap.size, 0, none⟩) [u1, u2, u3, u4] := fun _ => ⟨_, rfl, Addr.add_cells (heap_alloc_new w _)⟩

theorem Fresh.row {w w2 : World} {v : Value} {xs : List UInt8} (h : Fresh w w2 v xs) : Row w2 5 v (xs.map encB) := h.1
theorem Fresh.grow {w w2 w3 : World} {v v' : Value} {xs ys : List UInt8} (h : Fresh w w2 v xs) (hr : Row w3 5 v' ((xs ++ ys).map encB)) (hg : w2.grownBy w3 v.ownBlock) (ha : v'.ownBlock = v.ownBlock ∨ v'.ownBlock = some w2.heap.size) : Fresh w w3 v' (xs ++ ys) :=
  ⟨hr, h.2.1.grown hg h.2.1.size h.2.2, fun q hq => by
    rcases ha with ha | ha
    · exact h.2.2 q (ha ▸ hq)
    · rw [ha] at hq; injection hq with hq; have := h.2.1.size; omega⟩
theorem Fresh.alloc {w w2 : World} {v : Value} {xs : List UInt8} (h : Fresh w w2 v xs) (o : Obj) : Fresh w (w2.alloc o) v xs := ⟨h.1.keep fun k hk => (balloc w2 o).block k (h.1.lt hk), h.2.1.alloc h.2.1.size o, h.2.2⟩
set_option maxRecDepth 100000 in
theorem seal_calls (g : Nat) (B : Option Addr) (b : List UInt8) (c : Nat) (S : Nat → Prop) (w : World) (ht : TabAt w g 256) (hm : c ≤ maxLen) (hc : b.length ≤ c) (hl : b.length ≤ 100000) (hb : RdL Kd.byte S w B b) (hS : ∀ k, S k → k < w.heap.size) :
    Calls Try.prog 28 #[.pointer (some ⟨g, 0, none⟩), .slice B b.length c] w fun e w' => ∃ v', e = .returned v' ∧ Fresh w w' v' (sealL b) := by
  refine cps fun R hR => ?_
  have Hb := hide hb
  have Ht := hide ht
  clear hb ht
  unfold sealL at hR
  generalize hn : b.length = n at hc hl ⊢
  have Hn := hide hn
  clear hn
  go_enter Try.func28, Try.ntmps28
  have hW : Below w.heap.size w (w.alloc (.cells #[.slice B n c] 24)) := balloc _ _
  have hs := hide (sum_calls g _ [b] 1 _ (w.alloc (.cells #[.slice B n c] 24)) (Ht.out.keep (hW.block g Ht.out.lt)) (by simp [maxLen]) (by simp) (lit1b Hn.out hc hm Hb.out hS 24))
  rw [show [b].flatten = b by simp, show ([b] : List (List UInt8)).length = 1 from rfl] at hs
  generalize crcS b = sm at hs hR
  obtain ⟨w2, hmk, hr2, hg2⟩ := make_row n (by omega) (w.alloc (.cells #[.slice B n c] 24))
  have Hr2 := hide hr2
  have Hg2 := hide hg2
  have hb2 := hide (hW.trans (Below.mono (⟨hg2.os, hg2.tape, hg2.output, hg2.size, fun q hq => hg2.block q hq (by simp)⟩ : Below (w.alloc (.cells #[.slice B n c] 24)).heap.size (w.alloc (.cells #[.slice B n c] 24)) w2) hW.size))
  clear hr2 hg2
  go_wp2_with fail
  refine hs.out.mono ?_
  rintro e w1 ⟨rfl, rfl⟩
  have lmb := hide (show (b.map encB).length = n by rw [List.length_map, Hn.out])
  have hF2 := hide (show Fresh w w2 _ [] from ⟨Hr2.out, hb2.out, fun q hq => by simp [Value.ownBlock] at hq; omega⟩)
  simp only [World.size_alloc] at hmk
  go_wp2_with (at_builtin; with_reducible refine wp_app 16 rfl rfl (.tmp 14) (.tmp 15) 24 rfl Try.underlying24 infoB ?_ (us := []) ?_ Hr2.out (A := B) (c := c) (news := b.map encB) ?_ (Hb.out.keep fun q hq => hb2.out.block q (hS q hq)).srcB (encB_one b) ?_ ?_ ?_)
  case refine_1 => rfl
  case refine_2 => simp [Act.eval]
  case refine_3 => rw [lmb.out]; rfl
  case refine_4 => rw [lmb.out]; simp; omega
  case refine_5 => rw [lmb.out]; simp [maxLen]; omega
  case refine_6 =>
    intro v3 w3 h3 g3 a3
    have hF3 := hide (hF2.out.grow (ys := b) (by simpa using h3) g3 a3)
    obtain ⟨r1, r2, r3, r4⟩ := byte_raw sm
    have hbe : be4 sm = [(sm >>> 24).toUInt8, (sm >>> 16).toUInt8, (sm >>> 8).toUInt8, sm.toUInt8] := rfl
    have Hbe := hide hbe
    clear h3 g3 a3 hmk hbe
    generalize (sm >>> 24).toUInt8 = b1 at r1 Hbe
    generalize (sm >>> 16).toUInt8 = b2 at r2 Hbe
    generalize (sm >>> 8).toUInt8 = b3 at r3 Hbe
    generalize sm.toUInt8 = b4 at r4 Hbe
    go_wp2_with (at_builtin; with_reducible refine wp_app 30 rfl rfl (.tmp 17) (.tmp 29) 24 rfl Try.underlying24 infoB ?_ (us := ([] ++ b).map encB) ?_ (hF3.out.alloc _).row (c := 4) (news := [.int .u8 (b1.toNat : Int), .int .u8 (b2.toNat : Int), .int .u8 (b3.toNat : Int), .int .u8 (b4.toNat : Int)]) ?_ (Src.lit4 _ _ _ _ _ _) ?_ ?_ ?_ ?_)
    case refine_1 => rfl
    case refine_2 => rfl
    case refine_3 => rfl
    case refine_4 => intro u hu; simp at hu; rcases hu with rfl | rfl | rfl | rfl <;> rfl
    case refine_5 => rw [List.nil_append, lmb.out]; simp; omega
    case refine_6 => rw [List.nil_append, lmb.out]; simp [maxLen]; omega
    case refine_7 =>
      intro v4 w4 h4 g4 a4
      have hF4 := hide ((hF3.out.alloc _).grow (ys := be4 sm) (by rw [Hbe.out, List.map_append]; exact h4) g4 a4)
      clear h4 g4 a4
      go_wp2_with fail
      exact hR.out _ _ ⟨_, rfl, hF4.out⟩

set_option maxRecDepth 100000 in
theorem right_calls (g : Nat) (B : Option Addr) (xs : List UInt8) (c : Nat) (S : Nat → Prop) (w : World) (ht : TabAt w g 256) (hm : c ≤ maxLen) (hc : xs.length ≤ c) (hl : xs.length ≤ 100000) (hb : RdL Kd.byte S w B xs) (hS : ∀ k, S k → k < w.heap.size) :
    Calls Try.prog 32 #[.pointer (some ⟨g, 0, none⟩), .slice B xs.length c] w fun e w' => e = .returned (.bool (rightB xs)) ∧ Below w.heap.size w w' := by
  refine cps fun R hR => ?_
  have Hb := hide hb
  have Ht := hide ht
  have hm' := hm
  unfold maxLen at hm'
  clear hb ht
  unfold rightB at hR
  by_cases h4 : xs.length < 4
  · have e1 : decide (4 ≤ xs.length) = false := by simp; omega
    rw [e1, Bool.false_and] at hR
    generalize xs.length = n at *
    go_enter Try.func32, Try.ntmps32
    go_wp2_with fail
    exact hR.out _ _ ⟨rfl, Below.refl _ _⟩
  have e1 : decide (4 ≤ xs.length) = true := by simp; omega
  rw [e1, Bool.true_and] at hR
  have hlt := hide (show (xs.take (xs.length - 4)).length = xs.length - 4 by rw [List.length_take]; omega)
  have hsv := hide (fun x (hb : Below w.heap.size w x) => run_str (P := Try.prog) (w := x) Try.underlying24 Try.underlying5 Try.underlying9 (Hb.out.keep (w' := x) fun q hq => hb.block q (hS q hq)).srcB c)
  have hse := hide (fun x (hb : Below w.heap.size w x) => seal_calls g B (xs.take (xs.length - 4)) c S x (Ht.out.keep (hb.block g Ht.out.lt)) hm (by rw [hlt.out]; omega) (by rw [hlt.out]; omega) ((Hb.out.keep fun q hq => hb.block q (hS q hq)).take _) (fun q hq => Nat.lt_of_lt_of_le (hS q hq) hb.size))
  generalize hsl : sealL (xs.take (xs.length - 4)) = sl at hse hR
  rw [hlt.out] at hse
  generalize hn : xs.length = n at *
  have Hn := hide hn
  clear hn e1 hsl
  obtain ⟨m, rfl⟩ : ∃ m, n = m + 4 := ⟨n - 4, by omega⟩
  rw [Nat.add_sub_cancel] at hse
  have hmc : (m : Int) ≤ (c : Int) := by omega
  go_enter Try.func32, Try.ntmps32
  go_wp2_with fail
  have s0 := hsv.out w (Below.refl _ _)
  have s0' := hsv.out w.drew (Below.refl _ _).drew
  generalize hstr : bstr xs = str at hsv s0 s0'
  have Hstr := hide hstr
  clear hstr
  go_region_held (fun x => Sem.run Try.prog (convert 24 9 (.slice B (m + 4) c)) x = Result.ok (.string str) x) (assumption) (first
    | (go_at_call 28
       refine (hse.out _ (Below.refl _ _).drew).mono ?_
       rintro e w9 ⟨v9, rfl, hf9⟩
       have hb9 := hide ((Below.refl w.heap.size w).drew.trans hf9.2.1)
       have s9 := hsv.out w9 hb9.out
       obtain ⟨A9, c9, rfl, -, -⟩ := hf9.shape
       have t9 := run_str (P := Try.prog) (w := w9) Try.underlying24 Try.underlying5 Try.underlying9 hf9.1.src c9
       clear hf9))
  have htl : str.toList = xs := by rw [← Hstr.out, ByteArray.toList_eq]
  have Htl := hide htl
  clear htl
  go_wp2_with fail
  exact hR.out _ _ ⟨by show Ending.returned (Value.bool (sl == str.toList)) = _; rw [Htl.out], hb9.out⟩
end Go.Proofs.Ytoiojkjmldlhcaa
