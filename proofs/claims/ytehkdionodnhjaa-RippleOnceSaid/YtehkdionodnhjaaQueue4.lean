/- The reference's answer for a queue: Has, Push. -/
import Derived.Test.YtehkdionodnhjaaQueue3
set_option linter.unusedVariables false
set_option linter.unusedSimpArgs false
namespace Go.Proofs.Ytehkdionodnhjaa
open Go.RowKit Go.Maps

/-- A whole number's cell. -/
def Kd.i : Kd Int := Kd.one fun n u => u = .int .i64 n
theorem Kd.i_cell {S : Nat → Prop} {w : World} {n : Int} {u : Value} (h : Kd.i.R S w n [u]) : u = .int .i64 n := by
  obtain ⟨v, e, h⟩ := h
  injection e with e; subst e; exact h
theorem RdL.int_i {S : Nat → Prop} {w : World} {A : Option Addr} {xs : List Int} (h : RdL (Kd.int .i64) S w A xs) : RdL Kd.i S w A xs := fun hp => by
  obtain ⟨b, off, e, hs, hc⟩ := h hp
  refine ⟨b, off, e, hs, fun i x hx => ?_⟩
  obtain ⟨cs, ⟨u, rfl, hu⟩, hcell⟩ := hc i x hx
  exact ⟨[u], ⟨u, rfl, hu.1⟩, hcell⟩
theorem Row.rdI {w : World} {e : TypeId} {A : Option Addr} {n c : Nat} {xs : List Int} (h : Row w e (.slice A n c) (xs.map encI)) : RdL Kd.i (fun k => (Value.slice A n c).ownBlock = some k) w A xs :=
  h.rd (d := Kd.i) rfl (fun k => (Value.slice A n c).ownBlock = some k) (fun b hb => hb) fun x => ⟨_, rfl, rfl⟩
theorem RdL.srcI {S : Nat → Prop} {w : World} {A : Option Addr} {xs : List Int} (h : RdL Kd.i S w A xs) : Src w A (xs.map encI) := h.src rfl fun _ _ hr => Kd.i_cell hr
theorem below_tr {a : Nat} {w w1 w2 : World} (h : Below a w w1) (ha : a ≤ w1.heap.size) (h2 : Below w1.heap.size w1 w2) : Below a w w2 := h.trans (h2.mono ha)
set_option maxHeartbeats 1000000 in
theorem has_calls (A : Option Addr) (c : Nat) (xs : List Int) (x : Int) (S : Nat → Prop) (w : World) (hc : c ≤ maxLen) (hl : xs.length ≤ c) (h : RdL Kd.i S w A xs) :
    Calls Try.prog 16 #[.slice A xs.length c, .int .i64 x] w fun e w' => e = .returned (.bool (decide (x ∈ xs))) ∧ w = w' := by
  refine cps fun R hR => ?_
  have Hx := hide h
  unfold maxLen at hc
  obtain ⟨N, hN⟩ : ∃ N, N = xs.length := ⟨_, rfl⟩
  rw [← hN] at hl ⊢
  have HN := hide hN
  clear h hN
  go_enter Try.func16, Try.ntmps16
  go_wp2_with fail
  go_loop [5] (fun i => ∃ k : Nat, k ≤ N ∧ i = .int .i64 (k : Int) ∧ x ∉ xs.take k) (fun i => N - (intOf i).toNat)
  case atStart => exact ⟨0, by omega, rfl, by simp⟩
  case round =>
    obtain ⟨k, hk, rfl, hn⟩ := hrel
    have Hn := hide hn
    clear hn
    by_cases hlt : k < N
    · have hkl : k < xs.length := by rw [← HN.out]; exact hlt
      obtain ⟨bx, off, u, rfl, hbx, hu, hcx⟩ := Hx.out.at1 rfl hkl
      obtain rfl := Kd.i_cell hu
      obtain ⟨y, hy⟩ : ∃ y, y = xs[k] := ⟨_, rfl⟩
      rw [← hy] at hcx
      have Hy := hide hy
      have Hkl := hide hkl
      clear hy hu
      by_cases e : y = x
      · subst e
        have t : ((y : Int) == y) = true := by simp
        go_wp2_with fail
        exact hR.out _ _ ⟨ret_bool (decide_eq_true (by rw [Hy.out]; exact List.getElem_mem _)).symm, rfl⟩
      · have t : ((y : Int) == x) = false := by simp [e]
        have He := hide e
        clear e
        go_wp2_with fail
        go_round
        case rel =>
          refine ⟨k + 1, by omega, by go_num, ?_⟩
          rw [List.take_succ_eq_append_getElem Hkl.out, ← Hy.out]
          intro h
          rcases List.mem_append.1 h with h | h
          · exact Hn.out h
          · simp at h; exact He.out h.symm
        case measure => simp [intOf]; omega
    · obtain rfl : k = N := by omega
      go_wp2_with fail
      refine hR.out _ _ ⟨ret_bool (decide_eq_false ?_).symm, rfl⟩
      have := Hn.out
      rwa [List.take_of_length_le (by rw [← HN.out]; exact Nat.le_refl _)] at this
set_option maxHeartbeats 2000000 in
theorem refpush_calls (A B : Option Addr) (c d : Nat) (E xs : List Int) (S : Nat → Prop) (w : World) (hc : c ≤ maxLen) (hcl : E.length ≤ c) (hd : d ≤ maxLen) (hdl : xs.length ≤ d) (hm : E.length + xs.length ≤ 1000000) (hS : ∀ k, S k → k < w.heap.size) (hE : RdL Kd.i S w A E) (hx : RdL Kd.i S w B xs) :
    Calls Try.prog 11 #[.slice A E.length c, .slice B xs.length d] w fun e w' => ∃ A' c', e = .returned (.tuple #[.slice A' (pushL E xs).length c', .int .i64 (((pushL E xs).length - E.length : Nat) : Int)]) ∧
      Row w' 3 (.slice A' (pushL E xs).length c') ((pushL E xs).map encI) ∧ (∀ k, (Value.slice A' (pushL E xs).length c').ownBlock = some k → w.heap.size ≤ k) ∧ Below w.heap.size w w' := by
  refine cps fun R hR => ?_
  have HE := hide hE
  have Hx := hide hx
  have HS := hide hS
  have Hl := hide (pushL_len E)
  have Hm := hide hm
  unfold maxLen at hc hd
  obtain ⟨N, hN⟩ : ∃ N, N = xs.length := ⟨_, rfl⟩
  obtain ⟨M, hM⟩ : ∃ M, M = E.length := ⟨_, rfl⟩
  rw [← hN] at hdl ⊢
  rw [← hM] at hcl ⊢
  have HN := hide hN
  have HM := hide hM
  have hMm : M ≤ 1000000 := by omega
  have r1 := hide (Row.lit (w := w) (e := 3) [] (by simp))
  have b1 := hide (balloc w (.cells #[] 3))
  have s1 := hide (show Src (w.alloc (.cells #[] 3)) A (E.map encI) from (hE.keep (w' := w.alloc (.cells #[] 3)) fun k hk => (balloc w _).block k (hS k hk)).srcI)
  clear hE hx hS hm hN hM
  go_enter Try.func11, Try.ntmps11
  go_wp2_with (at_builtin; with_reducible refine wp_app 10 rfl rfl (.tmp 8) (.tmp 9) 24 rfl Try.underlying24 infoI8 ?_ (us := []) ?_ r1.out (A := A) (c := c) (news := E.map encI) ?_ ?_ ?_ ?_ ?_ ?_)
  case refine_1 => rfl
  case refine_2 => rfl
  case refine_3 => rw [List.length_map, ← HM.out]; rfl
  case refine_4 => exact s1.out
  case refine_5 => exact encI_one E
  case refine_6 => rw [List.length_map, ← HM.out]; simp; omega
  case refine_7 => rw [List.length_map, ← HM.out]; simp; unfold maxLen; omega
  case refine_8 =>
  intro v w2 hr2 g2 o2
  rw [List.nil_append] at hr2
  have hB2 : Below w.heap.size w w2 := (Ch.of_grown g2).below b1.out (by simp) fun b hb => by have e : some w.heap.size = some b := hb; injection e with e; omega
  have ho2 : ∀ k, v.ownBlock = some k → w.heap.size ≤ k := fun k hk => by
    rcases o2 with e | e
    · have e : v.ownBlock = some w.heap.size := e
      rw [hk] at e; injection e with e; omega
    · rw [hk] at e; injection e with e; simp at e; omega
  obtain ⟨Av, cv, rfl, -, -⟩ := hr2.shape
  have Hr2 := hide hr2
  have HB2 := hide hB2
  have Ho2 := hide ho2
  clear hr2 g2 o2 hB2 ho2 r1 b1 s1
  rw [List.length_map, ← HM.out] at Hr2 Ho2 ⊢
  go_wp2_with fail
  go_loopw [6, 7] (fun v i wr => ∃ (k : Nat) (Av : Option Addr) (cv : Nat), k ≤ N ∧ i = .int .i64 (k : Int) ∧ v = .slice Av (pushL E (xs.take k)).length cv ∧ Row wr 3 (.slice Av (pushL E (xs.take k)).length cv) ((pushL E (xs.take k)).map encI) ∧ (∀ k', (Value.slice Av (pushL E (xs.take k)).length cv).ownBlock = some k' → w.heap.size ≤ k') ∧ Below w.heap.size w wr) (fun _ i _ => N - (intOf i).toNat)
  case atStart => exact ⟨0, Av, cv, by omega, rfl, by rw [HM.out]; rfl, by have := Hr2.out; rw [HM.out] at this; exact this, by have := Ho2.out; rw [HM.out] at this; exact this, HB2.out⟩
  case round =>
    obtain ⟨k, Av, cv, hk, rfl, rfl, hr, ho, hb⟩ := hrel
    have hbd := Hl.out (xs.take k)
    have hkm : (xs.take k).length ≤ k := List.length_take_le _ _
    have Hbd := hide (show E.length ≤ (pushL E (xs.take k)).length ∧ (pushL E (xs.take k)).length ≤ E.length + k from ⟨hbd.1, by omega⟩)
    clear hbd hkm
    by_cases hlt : k < N
    · have hkl : k < xs.length := by rw [← HN.out]; exact hlt
      obtain ⟨bx, off, u, rfl, hbx, hu, hcx⟩ := Hx.out.at1 rfl hkl
      obtain rfl := Kd.i_cell hu
      have hcr : wr.cell? ⟨bx, off + k, none⟩ = some (.int .i64 xs[k]) := (hb.cell (HS.out bx hbx)).trans hcx
      have hts : Hid (pushL E (xs.take (k + 1)) = if xs[k] ∈ pushL E (xs.take k) then pushL E (xs.take k) else pushL E (xs.take k) ++ [xs[k]]) := hide (by
        rw [List.take_succ_eq_append_getElem hkl, pushL_snoc])
      obtain ⟨y, hy⟩ : ∃ y, y = xs[k] := ⟨_, rfl⟩
      rw [← hy] at hcr hts
      obtain ⟨F, hF⟩ : ∃ F, F = pushL E (xs.take k) := ⟨_, rfl⟩
      rw [← hF] at hts hr ho Hbd ⊢
      have hFm : F.length ≤ 1000000 := by have := Hbd.out; have := Hm.out; have := HN.out; omega
      obtain ⟨A', c', es, hlc, hcm⟩ := hr.shape
      rw [List.length_map] at es hlc
      obtain rfl : cv = c' := by injection es
      have hh := hide (has_calls Av cv F y _ wr hcm hlc hr.rdI)
      have Hr := hide hr
      have Ho := hide ho
      have Hb := hide hb
      clear es hF hy hu hcx hkl hr ho hb
      unfold maxLen at hcm
      by_cases hin : y ∈ F
      · have hd : decide (y ∈ F) = true := decide_eq_true hin
        have Hin := hide hin
        clear hin
        go_wp2_with fail
        refine hh.out.mono ?_
        rintro _ w1 ⟨rfl, rfl⟩
        go_wp2_with fail
        have he : pushL E (xs.take (k + 1)) = F := by rw [hts.out, if_pos Hin.out]
        refine ⟨⟨k + 1, Av, cv, by omega, by rw [Int.natCast_succ], by rw [he], by rw [he]; exact Hr.out, by rw [he]; exact Ho.out, Hb.out⟩, by simp only [intOf]; omega⟩
      · have hd : decide (y ∈ F) = false := decide_eq_false hin
        have Hin := hide hin
        have b3 := balloc wr (.cells #[.int .i64 y] 3)
        have r3 := hide (Hr.out.keep (w' := wr.alloc (.cells #[.int .i64 y] 3)) fun k hk => b3.block k (Hr.out.lt hk))
        have s3 := hide (Src.lit1 wr (.int .i64 y) 3)
        have B3 := hide b3
        clear hin b3
        go_wp2_with fail
        refine hh.out.mono ?_
        rintro _ w1 ⟨rfl, rfl⟩
        go_wp2_with (at_builtin; with_reducible refine wp_app 30 rfl rfl (.tmp 24) (.tmp 29) 24 rfl Try.underlying24 infoI8 ?_ (us := F.map encI) ?_ r3.out (A := some ⟨wr.heap.size, 0, none⟩) (c := 1) (news := [.int .i64 y]) ?_ ?_ ?_ ?_ ?_ ?_)
        case refine_1 => rfl
        case refine_2 => rfl
        case refine_3 => rfl
        case refine_4 => exact s3.out
        case refine_5 => intro u hu; simp at hu; subst hu; rfl
        case refine_6 => rw [List.length_map, List.length_singleton]; omega
        case refine_7 => rw [List.length_map, List.length_singleton]; unfold maxLen; omega
        case refine_8 =>
        intro v' w9 hr9 g9 o9
        have el : (F.map encI ++ [Value.int .i64 y]).length = F.length + 1 := by simp
        obtain ⟨A', c', rfl, -, -⟩ := hr9.shape
        rw [el] at hr9 o9 ⊢
        have Hr9 := hide hr9
        have G9 := hide g9
        have O9 := hide o9
        clear hr9 g9 o9 el
        go_wp2_with fail
        have he : pushL E (xs.take (k + 1)) = F ++ [y] := by rw [hts.out, if_neg Hin.out]
        have hel : (pushL E (xs.take (k + 1))).length = F.length + 1 := by rw [he]; simp
        have hB9 : Below w.heap.size w w9 := (Ch.of_grown G9.out).below (below_tr Hb.out Hb.out.size B3.out) (by have := Hb.out.size; simp; omega) fun b hb => Ho.out b hb
        refine ⟨⟨k + 1, A', c', by omega, by rw [Int.natCast_succ], by rw [hel], ?_, ?_, hB9⟩, by simp only [intOf]; omega⟩
        · rw [hel, he, List.map_append]; exact Hr9.out
        · rw [hel]
          intro k' hk'
          rcases O9.out with e | e
          · exact Ho.out k' (by rw [← e]; exact hk')
          · have e : (Value.slice A' (F.length + 1) c').ownBlock = some (wr.alloc (.cells #[.int .i64 y] 3)).heap.size := e
            rw [hk'] at e; injection e with e; have := Hb.out.size; simp at e; omega
    · obtain rfl : k = N := by omega
      have he : xs.take k = xs := List.take_of_length_le (by rw [← HN.out]; exact Nat.le_refl _)
      rw [he] at hr ho Hbd ⊢
      have Hr := hide hr
      have Ho := hide ho
      have Hb := hide hb
      clear hr ho hb he
      obtain ⟨F, hF⟩ : ∃ F, F = pushL E xs := ⟨_, rfl⟩
      rw [← hF] at hR Hr Ho Hbd ⊢
      have h1 : (M : Int) ≤ (F.length : Int) := by have := Hbd.out; have := HM.out; omega
      have h2 : (F.length : Int) ≤ 1000000 := by have := Hbd.out; have := Hm.out; have := HN.out; omega
      clear hF
      go_wp2_with fail
      refine hR.out _ _ ⟨Av, cv, ?_, Hr.out, Ho.out, Hb.out⟩
      rw [show (F.length : Int) - (M : Int) = ((F.length - E.length : Nat) : Int) by have := HM.out; omega]
      rfl
end Go.Proofs.Ytehkdionodnhjaa
