/- RngBelow walked. -/
import Derived.Test.YtcfoigebkcknnaaRngDraws
import Derived.Test.YtcfoigebkcknnaaApp
set_option linter.unusedVariables false
set_option linter.unusedSimpArgs false
namespace Go.Proofs.Ytcfoigebkcknnaa
open Go.RowKit

theorem info64 : (Try.prog.info? 35).map (fun i => (i.zero, i.size, i.bytes)) = some (some (.int .u64 0), 1, 8) := by kernel_rfl
theorem belowF_bd (s : UInt64) (n : Int) : 0 ≤ (belowF s n).2 ∧ (1 ≤ n → (belowF s n).2 < n) ∧ (n < 1 → (belowF s n).2 = 0) := by
  unfold belowF
  split
  · exact ⟨Int.le_refl _, fun h => by omega, fun _ => rfl⟩
  · have := Nat.mod_lt (drawF (fewF n.toNat) s).2.toNat (show 0 < n.toNat by omega)
    exact ⟨Int.natCast_nonneg _, fun h => (by omega : (((drawF (fewF n.toNat) s).2.toNat % n.toNat : Nat) : Int) < n), fun h => by omega⟩

theorem lawbelow_calls (A : Option Addr) (c : Nat) (xs : List UInt64) (n m : Int) (w : World) (hm : c ≤ maxLen) (hc : xs.length ≤ c) (h : RdL Kd.u64 (· < w.heap.size) w A xs)
    (hn1 : -9223372036854775808 ≤ n) (hn2 : n ≤ 9223372036854775807) (hm1 : 0 ≤ m) (hm2 : m ≤ 255) :
    Calls Try.prog 9 #[.slice A xs.length c, .int .i64 n, .int .u8 m] w fun e w' => e = .returned (.bool true) ∧ Below w.heap.size w w' := by
  refine cps fun R hR => ?_
  have hm' := hm
  unfold maxLen at hm'
  go_enter Try.func9, Try.ntmps9
  go_wp2_with fail
  refine (speaks_calls w).mono ?_
  rintro e w1 ⟨rfl, hb1⟩
  have h1 := h.below hb1
  by_cases hl : xs.length ≤ 50
  · go_wp2_with fail
    refine (new_calls A c xs (· < w.heap.size) w1 hm hc (fun k hk => Nat.lt_of_lt_of_le hk hb1.size) h1).mono ?_
    rintro e w2 ⟨rfl, hr2, hb2⟩
    have h2 := h1.keep fun k hk => hb2.block k (Nat.lt_of_lt_of_le hk hb1.size)
    have hb2' := hb1.trans (hb2.mono hb1.size)
    have hga : w.heap.size ≤ w1.heap.size := hb1.size
    have hla := hr2.lt
    generalize w1.heap.size = ga at hr2 hga hla ⊢
    go_wp2_with (refine wp_app 19 rfl rfl (.tmp 17) (.tmp 18) 38 rfl Try.underlying38 info64 rfl (v := .slice (some ⟨w2.heap.size, 0, none⟩) 0 0) (us := []) (A := A) (c := c) (news := xs.map enc64) rfl (Row.lit [] (by simp)) (by simp [Act.eval]) ?hs (enc64_one xs) (by simp; omega) (by simp [maxLen]; omega) ?hk)
    case hs => exact (RdL.keep h2 fun k hk => Below.heap_alloc w2 _ k (Nat.lt_of_lt_of_le hk (Nat.le_trans hb1.size hb2.size))).src64
    intro v3 w3 hrow hg3 hat3
    have hga2 : ga < w2.heap.size := hla
    have hb3 : Below w.heap.size w w3 := (hb2'.alloc hb2'.size _).grown hg3 (Nat.le_trans hb2'.size (by simp)) (fun k hk => by simp [Value.ownBlock] at hk; have := hb2'.size; omega)
    have hr3 : RandAt w3 ga (seedF xs) := hr2.keep ((hg3.block ga (by simp; omega) (by simp [Value.ownBlock]; omega)).trans (Below.heap_alloc w2 _ ga hga2))
    have hsz3 : w2.heap.size < w3.heap.size := by have := hg3.size; simp at this; omega
    rw [List.nil_append] at hrow
    obtain ⟨A3, c3, rfl, hc3, hm3⟩ : ∃ A3 c3, v3 = .slice A3 xs.length c3 ∧ xs.length ≤ c3 ∧ c3 ≤ maxLen := by simpa using hrow.shape
    have hrd3 : RdL Kd.u64 (· < w3.heap.size) w3 A3 xs := hrow.rd rfl _ (fun b hb => hrow.lt hb) (fun x => ⟨_, rfl, rfl⟩)
    clear hrow hat3 hg3
    go_wp2_with fail
    refine (new_calls A3 c3 xs _ w3 hm3 hc3 (fun k hk => hk) hrd3).mono ?_
    rintro e w4 ⟨rfl, hr4, hb4⟩
    have hra4 := hr3.below hb4 hr3.lt
    have hb4' := hb3.trans (hb4.mono hb3.size)
    have hgb : w.heap.size ≤ w3.heap.size := hb3.size
    have hne : ga ≠ w3.heap.size := by omega
    generalize w3.heap.size = gb at hr4 hgb hne ⊢
    generalize seedF xs = s0 at hr4 hra4
    clear hr2 hr3 hrd3 h1 h2
    go_wp2_with fail
    go_loopw [22] (fun i wr => ∃ (k : Nat) (st : UInt64), (k : Int) ≤ m ∧ i = .int .u8 (k : Int) ∧ RandAt wr ga st ∧ RandAt wr gb st ∧ Below w.heap.size w wr) (fun i _ => (m - intOf i).toNat)
    case atStart => exact ⟨0, s0, by omega, rfl, hra4, hr4, hb4'⟩
    case round =>
      obtain ⟨k, st, hk, rfl, hata, hatb, hb⟩ := hrel
      by_cases hlt : (k : Int) < m
      · have H1 := hide (below_any ga n st wr hata hn2)
        have H2 := hide (fun W hW => below_any gb n st W hW hn2)
        obtain ⟨hx0, hx1, hx2⟩ := belowF_bd st n
        generalize (belowF st n).1 = t1 at H1 H2
        generalize (belowF st n).2 = x1 at H1 H2 hx0 hx1 hx2
        go_wp2_with fail
        refine H1.out.mono ?_
        rintro e w5 ⟨rfl, hata5, hg5⟩
        have hatb5 : RandAt w5 gb st := hatb.keep (hg5.block gb hatb.lt (fun e => hne (by injection e with e; exact e.symm)))
        have hb5 := below_grown hb hg5 hb.size hga
        go_wp2_with fail
        refine (H2.out w5 hatb5).mono ?_
        rintro e w6 ⟨rfl, hatb6, hg6⟩
        have hata6 : RandAt w6 ga t1 := hata5.keep (hg6.block ga hata5.lt (fun e => hne (by injection e with e)))
        have hb6 := below_grown hb5 hg6 hb5.size hgb
        have q1 : decide (x1 < 0) = false := by simp; omega
        by_cases hn : n < 1
        · have q2 := hx2 hn
          subst q2
          have q3 : decide (1 ≤ n) = false := by simp; omega
          have q4 : decide (n < 1) = true := by simp; omega
          go_wp2_with fail
          go_roundw
          case rel => exact ⟨k + 1, t1, by omega, by go_num, hata6, hatb6, hb6⟩
          case measure => simp [intOf]; omega
        · have q2 := hx1 (by omega)
          have q3 : decide (1 ≤ n) = true := by simp; omega
          have q4 : decide (n < 1) = false := by simp; omega
          have q5 : decide (n ≤ x1) = false := by simp; omega
          go_wp2_with fail
          go_roundw
          case rel => exact ⟨k + 1, t1, by omega, by go_num, hata6, hatb6, hb6⟩
          case measure => simp [intOf]; omega
      · have hcall1 := next_calls ga st wr hata
        have hatb' : ∀ u, RandAt (wr.setCell ⟨ga, 0, none⟩ u) gb st := fun u => hatb.keep (Below.heap_setCell wr ⟨ga, 0, none⟩ u gb (fun e => hne e.symm))
        have hcall2 := fun u => next_calls gb st _ (hatb' u)
        generalize mix64 (st + stepC) = x1 at hcall1 hcall2
        generalize st + stepC = t1 at hcall1 hcall2
        have hb5 := fun u v => (hb.setCell (p := ⟨ga, 0, none⟩) hga u).setCell (p := ⟨gb, 0, none⟩) hgb v
        have H1 := hide hcall1
        have H2 := hide hcall2
        have HB := hide hb5
        clear hcall1 hcall2 hatb' hb5
        go_wp2_with fail
        refine H1.out.mono ?_
        rintro e w5 ⟨rfl, rfl⟩
        go_wp2_with fail
        refine (H2.out _).mono ?_
        rintro e w5 ⟨rfl, rfl⟩
        go_wp2_with fail
        exact hR.out _ _ ⟨rfl, HB.out _ _⟩
  · go_wp2_with fail
    all_goals exact hR.out _ _ ⟨rfl, hb1⟩
end Go.Proofs.Ytcfoigebkcknnaa
