/- ArenaOwn, walked. -/
import Derived.Test.YthcbjhmckbfkmaaArenaSpeaks
import Derived.Test.YthcbjhmckbfkmaaBlockPieces
set_option linter.unusedVariables false
set_option linter.unusedSimpArgs false
namespace Go.Proofs.Ythcbjhmckbfkmaa
open Go.RowKit

theorem zero_xor' (ts : List UInt8) (n : Nat) (h : ts.length = n) : xorL (zs n) ts = ts := by
  subst h
  apply List.ext_getElem
  · simp [xorL, zs]
  · intro i h1 h2
    simp [xorL, zs]
theorem NewV.ow {e : TypeId} {w w' : World} {v : Value} {xs : List UInt8} (h : NewV e w w' v (xs.map encB)) : ∃ A c, v = .slice A xs.length c ∧ Kd.ow.R (fun k => w.heap.size ≤ k ∧ k < w'.heap.size) w' xs [.slice A xs.length c] ∧ Below w.heap.size w w' := by
  obtain ⟨A, c, rfl, h1, h2, hb, h3⟩ := h
  rw [List.length_map] at h1 ⊢
  refine ⟨A, c, rfl, ⟨A, c, rfl, h1, h2, fun hp => ?_⟩, hb⟩
  rcases h3 with ⟨h3, rfl⟩ | ⟨rfl, hlt, rest, hr, hh⟩
  · have : xs = [] := by simpa using h3
    subst this; simp at hp
  · exact ⟨_, rest, _, rfl, ⟨Nat.le_refl _, hlt⟩, hh⟩
set_option maxHeartbeats 1000000 in
theorem ArenaOwn_calls (A : Option Addr) (b : List UInt8) (c : Nat) (w : World) (hm : c ≤ maxLen) (hc : b.length ≤ c) (hr : RdL Kd.byte (· < w.heap.size) w A b) :
    Calls Try.prog 8 #[.slice A b.length c] w fun e w' => e = .returned (.bool true) ∧ Below w.heap.size w w' := by
  refine cps fun R hR => ?_
  have hm' := hm
  unfold maxLen at hm'
  obtain ⟨n, hn⟩ : ∃ n, n = b.length := ⟨_, rfl⟩
  rw [← hn] at hc ⊢
  have Hn := hide hn.symm
  clear hn
  go_enter Try.func8, Try.ntmps8
  go_wp2_with fail
  refine (aspeaks w).mono ?_
  rintro e w1 ⟨rfl, hb1⟩
  by_cases h200 : 200 < n
  · clear hr
    go_wp2_with fail
    exact hR.out _ _ ⟨rfl, hb1⟩
  go_wp2_with fail
  refine (al_new (n : Int) 2 w1).mono ?_
  rintro e w2 ⟨rfl, S2, h2⟩
  rw [Int.toNat_natCast, show (2 : Int).toNat = 2 from rfl] at h2
  go_wp2_with fail
  have hA : Calls Try.prog 23 #[.pointer (some ⟨w1.heap.size, 0, none⟩)] w2 fun e w' => e = .returned (.tuple #[.int .i64 0, .bool true]) ∧ ∃ S', AL w1 w' S' w1.heap.size n 2 [zs n] [true] [] 1 1 ∧ Step S2 S' w2 w' :=
    al_fresh h2 rfl (by decide) (by omega) (by decide) (by decide) (by decide)
  refine hA.mono ?_
  clear hA h2
  rintro e w3 ⟨rfl, S3, h3, -⟩
  have hlt3 := hide h3.ar.lt
  have hz13 := h3.bel.size
  have hb13 := hb1.trans (h3.bel.mono hb1.size)
  have Hb3 := hide (fun (y wx : World) (hbx : Below w1.heap.size w1 wx) (hy : Below wx.heap.size wx y) => (hb1.trans (hbx.mono hb1.size)).trans (hy.mono (Nat.le_trans hb1.size hbx.size)))
  have Hr3 := hide ((hr.below hb13).mono fun k hk => Nat.lt_of_lt_of_le hk hb13.size)
  have hs3 := hide ((Hr3.out.below (balloc w3 (.cells #[] 5))).srcB)
  have ho := hide (encB_one b)
  have hl := hide (show (b.map encB).length = n by rw [List.length_map, Hn.out])
  have h3' := hide h3
  have Hr := hide hr
  clear hr h3
  go_wp2_with (at_builtin; with_reducible refine wp_app_lit 25 rfl rfl (.tmp 23) (.tmp 24) 22 rfl Try.underlying22 infoB ?_ (news := b.map encB) (g := w3.heap.size) ?_ (A := A) (c := c) ?_ ?_ ho.out ?_ ?_ ?_)
  case refine_1 => rfl
  case refine_2 => rfl
  case refine_3 => rw [hl.out]; rfl
  case refine_4 => exact hs3.out
  case refine_5 => rw [hl.out]; omega
  case refine_6 => rw [hl.out]; unfold maxLen; omega
  case refine_7 =>
  intro v4 w4 hn4
  obtain ⟨A4, c4, rfl, h4, hb4⟩ := hn4.ow
  rw [Hn.out] at h4 ⊢
  have hb34 := (balloc w3 (.cells #[] 5)).trans (hb4.mono (by simp))
  have H4 := hide h4
  have h4l := h4
  obtain ⟨A4', c4', e4, hc4, hm4, -⟩ := h4l
  rw [Hn.out] at e4 hc4
  simp only [List.cons.injEq, Value.slice.injEq, and_true, true_and] at e4
  obtain ⟨rfl, rfl⟩ := e4
  have hal := h3'.out.below hb34
  have hrd4 : RdL Kd.byte (fun k => w3.heap.size ≤ k ∧ k < w4.heap.size) w4 A4 b := (Kd.ow_rd h4).2.mono fun k hk => by simp at hk; omega
  have hP := hide (put_lit (n := n) hal 0 (by rfl) (by omega) (xs := b) (c := c4) (by rw [Hn.out]; exact hc4) hm4 hrd4 (fun k hk => ⟨hk.2, fun hs => by have := hlt3.out k hs; omega⟩) Hn.out)
  rw [show got [zs n] [true] ((0 : Nat) : Int) = zs n by simp [got, hasB], zero_xor' b n Hn.out] at hP
  clear h4 hn4 hb4 hal hrd4
  go_wp2_with fail
  refine hP.out.mono ?_
  rintro e w5 ⟨rfl, h5, hs5⟩
  have h5' : AL w1 w5 S3 w1.heap.size n 2 [b] [true] [] 1 1 := h5
  have hwb : WB (fun k => w3.heap.size ≤ k ∧ k < w4.heap.size) w5 (.slice A4 n c4) n := by
    have h6 := Kd.ow_wb H4.out
    have h7 := h6
    rw [Hn.out] at h7
    exact (h7.mono (S' := fun k => w3.heap.size ≤ k ∧ k < w4.heap.size) fun k hk => by simp at hk; omega).keep fun k hk => hs5.ch.block k hk.2 fun hs => by have := hlt3.out k hs; omega
  clear hP h5 hs5 H4 h3'
  have H5 := hide h5'
  have Hwb := hide hwb
  clear h5' hwb
  go_wp2_with fail
  go_loopw [38] (fun i wr => ∃ k : Nat, k ≤ n ∧ i = .int .i64 (k : Int) ∧ AL w1 wr S3 w1.heap.size n 2 [b] [true] [] 1 1 ∧ WB (fun k => w3.heap.size ≤ k ∧ k < w4.heap.size) wr (.slice A4 n c4) n) (fun i _ => n - (intOf i).toNat)
  case atStart => exact ⟨0, Nat.zero_le _, rfl, H5.out, Hwb.out⟩
  case round =>
    obtain ⟨k, hk, rfl, hal, hwk⟩ := hrel
    by_cases hlt : k < n
    · obtain ⟨q, off, x, cc, e, -, -, hS, hcell, hfz⟩ := hwk.cell hlt
      simp only [Value.slice.injEq] at e
      obtain ⟨rfl, -, rfl⟩ := e
      obtain ⟨y, hy⟩ := inc8 x
      have Hal := hide hal
      have Hwk := hide hwk
      clear hal hwk
      go_wp2_with fail
      go_roundw
      case rel =>
        refine ⟨k + 1, by omega, by go_num, Hal.out.keep (Ch.set wr ⟨q, off + k, none⟩ _) (fun j hj => ?_) (fun j hj hj' => ?_), Hwk.out.set q (off + k) y⟩
        · have h0 := hS.1; rw [hj]; show w1.heap.size ≤ q; omega
        · have h0 := hS.1; have := hlt3.out j hj; have h2 : j = q := hj'; omega
      case measure => simp [intOf]; omega
    · clear hk hwk
      have hG := hide (as_get 0 hal.ar (by omega))
      rw [show got [b] [true] 0 = b from rfl, Hn.out] at hG
      have Hal := hide hal
      clear hal
      go_wp2_with fail
      refine hG.out.mono ?_
      rintro e w6 ⟨A6, c6, rfl, h6, hb6⟩
      have hwb : WB (fun k => wr.heap.size ≤ k ∧ k < w6.heap.size) w6 (.slice A6 n c6) n := by
        have h7 := Kd.ow_wb (xs := b) h6
        rw [Hn.out] at h7; exact h7
      have H6 := hide (Hal.out.below hb6)
      have Hlt := hide (Hal.out.ar.lt)
      have Hwb := hide hwb
      have hz := Hal.out.bel.size
      clear h6 hwb Hal hG
      go_wp2_with fail
      go_loopw [53] (fun i wx => ∃ k : Nat, k ≤ n ∧ i = .int .i64 (k : Int) ∧ AL w1 wx S3 w1.heap.size n 2 [b] [true] [] 1 1 ∧ WB (fun k => wr.heap.size ≤ k ∧ k < w6.heap.size) wx (.slice A6 n c6) n) (fun i _ => n - (intOf i).toNat)
      case atStart => exact ⟨0, Nat.zero_le _, rfl, H6.out, Hwb.out⟩
      case round =>
        obtain ⟨k, hk, rfl, hal, hwk⟩ := hrel
        by_cases hlt : k < n
        · obtain ⟨q, off, x, cc, e, -, -, hS, hcell, hfz⟩ := hwk.cell hlt
          simp only [Value.slice.injEq] at e
          obtain ⟨rfl, -, rfl⟩ := e
          obtain ⟨y, hy⟩ := inc8 x
          have Hal := hide hal
          have Hwk := hide hwk
          clear hal hwk
          rename_i wx
          go_wp2_with fail
          go_roundw
          case rel =>
            refine ⟨k + 1, by omega, by go_num, Hal.out.keep (Ch.set _ ⟨q, off + k, none⟩ _) (fun j hj => ?_) (fun j hj hj' => ?_), Hwk.out.set q (off + k) y⟩
            · have h0 := hS.1; rw [hj]; show w1.heap.size ≤ q; omega
            · have h0 := hS.1; have := Hlt.out j hj; have h2 : j = q := hj'; omega
          case measure => simp [intOf]; omega
        · clear hk hwk
          rename_i wx _
          have Hal := hide hal
          have hGet := hide (fun (y : World) (hy : Below wr.heap.size wr y) => (show Calls Try.prog 24 #[.pointer (some ⟨w1.heap.size, 0, none⟩), .int .i64 0] y fun e w' => ∃ A c, e = .returned (.slice A b.length c) ∧ Kd.ow.R (fun k => y.heap.size ≤ k ∧ k < w'.heap.size) w' b [.slice A b.length c] ∧ Below y.heap.size y w' from as_get 0 (Hal.out.below hy).ar (by omega)))
          have hS := hide (fun (y : World) (hy : Below wr.heap.size wr y) => run_str (P := Try.prog) (w := y) Try.underlying22 Try.underlying5 Try.underlying9 ((Hr.out.below (Hb3.out _ _ Hal.out.bel hy)).srcB) c)
          have hS9 := hide (fun (y : World) (A9 : Option Addr) (c9 : Nat) (T : Nat → Prop) (h9 : Kd.ow.R T y b [.slice A9 b.length c9]) => run_str (P := Try.prog) (w := y) Try.underlying22 Try.underlying5 Try.underlying9 ((Kd.ow_rd h9).2.srcB) c9)
          rw [Hn.out] at hGet hS hS9
          generalize bstr b = str at hS hS9
          have hb := hb1.trans (hal.bel.mono hb1.size)
          clear hal
          have s0 := hS.out wr (Below.refl _ _)
          go_wp2_with fail
          go_region_held (fun y => Hid (Below wr.heap.size wr y) ∧ (convert 22 9 (.slice A n c)).run Try.prog y = .ok (.string str) y)
            (exact ⟨hide (Hid.out (by repeat (first | assumption | exact hide (Below.refl _ _) | refine held_alloc ?_ | refine held_drew ?_))), hS.out _ (Hid.out (by repeat (first | assumption | exact hide (Below.refl _ _) | refine held_alloc ?_ | refine held_drew ?_)))⟩) (first
            | (go_at_call 24
               refine (hGet.out _ (Hid.out (by repeat (first | assumption | exact hide (Below.refl _ _) | refine held_alloc ?_ | refine held_drew ?_)))).mono ?_
               rintro e w9 ⟨A9, c9, rfl, h9, hb9'⟩
               have hb9 : Hid (Below wr.heap.size wr w9) := hide (Below.trans (Hid.out (by repeat (first | assumption | exact hide (Below.refl _ _) | refine held_alloc ?_ | refine held_drew ?_))) (hb9'.mono (Below.size (Hid.out (by repeat (first | assumption | exact hide (Below.refl _ _) | refine held_alloc ?_ | refine held_drew ?_))))))
               have t9 := hS9.out _ _ _ _ h9
               clear h9))
          go_wp2_with fail
          exact hR.out _ _ ⟨rfl, hb.trans (hb9.out.mono hb.size)⟩
end Go.Proofs.Ythcbjhmckbfkmaa
