/- A net's small functions, walked: a copy, a place, bits that are turned. -/
import Derived.Test.YtehkdionodnhjaaWb
import Derived.Test.YtehkdionodnhjaaBurst
import Derived.Deep.RegionLaw
import Derived.Deep.QuietTactic
import Derived.BigQuiet
set_option linter.unusedVariables false
set_option linter.unusedSimpArgs false
namespace Go.Proofs.Ytehkdionodnhjaa
open Go.RowKit

/-- A number from 0 on below another one. -/
def plN (pt : Int) (n : Nat) : Nat := if n = 0 then 0 else (pt % (n : Int)).toNat
theorem plN_lt (pt : Int) {n : Nat} (h : 0 < n) : plN pt n < n := by
  unfold plN
  rw [if_neg (by omega)]
  have := Int.emod_lt_of_pos pt (show (0 : Int) < (n : Int) by omega)
  have := Int.emod_nonneg pt (show (n : Int) ≠ 0 by omega)
  omega
theorem plN_le (pt : Int) (n : Nat) : plN pt n ≤ n := by
  rcases Nat.eq_zero_or_pos n with h | h
  · subst h; simp [plN]
  · exact Nat.le_of_lt (plN_lt pt h)
theorem tmod_bd (a : Int) {n : Int} (h : 0 < n) : -n < a.tmod n ∧ a.tmod n < n := by
  have h1 := Int.tmod_lt_of_pos a h
  have h2 := Int.lt_tmod_of_pos a h
  exact ⟨h2, h1⟩
theorem place_eq (a : Int) (n : Nat) (h : 0 < n) : (a.tmod (n : Int) + (n : Int)).tmod (n : Int) = (plN a n : Int) := by
  have hb := tmod_bd a (show (0 : Int) < (n : Int) by omega)
  have hm : (a.tmod (n : Int) + (n : Int)).tmod (n : Int) = a % (n : Int) := by
    rw [Int.tmod_eq_emod_of_nonneg (by omega), Int.add_emod_right, Int.tmod_eq_emod]
    split
    · simp
    · simp [Int.sub_emod_right]
  rw [hm, plN, if_neg (by omega)]
  have := Int.emod_nonneg a (show (n : Int) ≠ 0 by omega)
  omega
theorem place_em (a : Int) (n : Nat) (h : 0 < n) : a.tmod (n : Int) % (n : Int) = (plN a n : Int) := by
  have hm : a.tmod (n : Int) % (n : Int) = a % (n : Int) := by
    rw [Int.tmod_eq_emod]
    split
    · simp
    · simp [Int.sub_emod_right]
  rw [hm, plN, if_neg (by omega)]
  have := Int.emod_nonneg a (show (n : Int) ≠ 0 by omega)
  omega
theorem place_neg (a : Int) (n : Nat) (h : 0 < n) (hn : n ≤ 1000000) (hx : a.tmod (n : Int) < 0) : a.tmod (n : Int) + (n : Int) = (plN a n : Int) := by
  have hb := tmod_bd a (show (0 : Int) < (n : Int) by omega)
  rw [← place_em a n h]
  generalize a.tmod (n : Int) = x at hb hx
  rw [show x % (n : Int) = (x + (n : Int)) % (n : Int) by simp, Int.emod_eq_of_lt (by omega) (by omega)]
theorem place_pos (a : Int) (n : Nat) (h : 0 < n) (hx : 0 ≤ a.tmod (n : Int)) : a.tmod (n : Int) = (plN a n : Int) := by
  have hb := tmod_bd a (show (0 : Int) < (n : Int) by omega)
  rw [← place_em a n h, Int.emod_eq_of_lt hx hb.2]
theorem NewV.ow {e : TypeId} {w w' : World} {v : Value} {xs : List UInt8} (h : NewV e w w' v (xs.map encB)) : ∃ A c, v = .slice A xs.length c ∧ Kd.ow.R (fun k => w.heap.size ≤ k ∧ k < w'.heap.size) w' xs [.slice A xs.length c] ∧ Below w.heap.size w w' := by
  obtain ⟨A, c, rfl, h1, h2, hb, h3⟩ := h
  rw [List.length_map] at h1 ⊢
  refine ⟨A, c, rfl, ⟨A, c, rfl, h1, h2, fun hp => ?_⟩, hb⟩
  rcases h3 with ⟨h3, rfl⟩ | ⟨rfl, hlt, rest, hr, hh⟩
  · have : xs = [] := by simpa using h3
    subst this; simp at hp
  · exact ⟨_, rest, _, rfl, ⟨Nat.le_refl _, hlt⟩, hh⟩
theorem place_calls (pt : Int) (n : Nat) (w : World) (hn : n ≤ 1000000) (hp : (Lit.int .i64 pt).wf = true) : Calls Try.prog 39 #[.int .i64 pt, .int .i64 (n : Int)] w fun e w' => e = .returned (.int .i64 (plN pt n : Int)) ∧ w = w' := by
  refine cps fun R hR => ?_
  have hb := bounds_i64 hp
  rcases Nat.eq_zero_or_pos n with h0 | h0
  · subst h0
    go_enter Try.func39, Try.ntmps39
    go_wp2_with fail
    exact hR.out _ _ ⟨rfl, rfl⟩
  · have hbd := tmod_bd pt (show (0 : Int) < (n : Int) by omega)
    have h1 : ¬ ((n : Int) < 1) := by omega
    have h2 : ((n : Int) == 0) = false := by simp; omega
    have hnn : (n : Int) ≤ 1000000 := by omega
    go_enter Try.func39, Try.ntmps39
    go_wp2_with fail
    exact hR.out _ _ ⟨ret_int (place_em pt n h0), rfl⟩
theorem refplace_calls (pt : Int) (n : Nat) (w : World) (hn : n ≤ 1000000) (hp : (Lit.int .i64 pt).wf = true) : Calls Try.prog 41 #[.int .i64 pt, .int .i64 (n : Int)] w fun e w' => e = .returned (.int .i64 (plN pt n : Int)) ∧ w = w' := by
  refine cps fun R hR => ?_
  have hb := bounds_i64 hp
  rcases Nat.eq_zero_or_pos n with h0 | h0
  · subst h0
    go_enter Try.func41, Try.ntmps41
    go_wp2_with fail
    exact hR.out _ _ ⟨rfl, rfl⟩
  · have hbd := tmod_bd pt (show (0 : Int) < (n : Int) by omega)
    have h1 : ¬ ((n : Int) < 1) := by omega
    have h2 : ((n : Int) == 0) = false := by simp; omega
    have hnn : (n : Int) ≤ 1000000 := by omega
    have hneg := hide (place_neg pt n h0 hn)
    have hpos := hide (place_pos pt n h0)
    go_enter Try.func41, Try.ntmps41
    go_wp2_with fail
    · exact hR.out _ _ ⟨ret_int (hneg.out (by assumption)), rfl⟩
    · exact hR.out _ _ ⟨ret_int (hpos.out (by assumption)), rfl⟩
/-- A copy. -/
theorem clone_calls (A : Option Addr) (b : List UInt8) (c : Nat) (S : Nat → Prop) (w : World) (hl : b.length ≤ 1000000) (hS : ∀ k, S k → k < w.heap.size) (h : RdL Kd.byte S w A b) :
    Calls Try.prog 38 #[.slice A b.length c] w fun e w' => ∃ A' c', e = .returned (.slice A' b.length c') ∧ Kd.ow.R (fun k => w.heap.size ≤ k ∧ k < w'.heap.size) w' b [.slice A' b.length c'] ∧ Below w.heap.size w w' := by
  refine cps fun R hR => ?_
  have hb := balloc w (.cells #[] 5)
  have s1 := hide ((h.keep (w' := w.alloc (.cells #[] 5)) fun k hk => hb.block k (hS k hk)).srcB)
  have Hb := hide hb
  have hle := hide (show (b.map encB).length = b.length from List.length_map _)
  clear hb h hS
  obtain ⟨N, hN⟩ : ∃ N, N = b.length := ⟨_, rfl⟩
  rw [← hN] at hl hle ⊢
  have HN := hide hN
  clear hN
  go_enter Try.func38, Try.ntmps38
  go_wp2_with (at_builtin; with_reducible refine wp_app_lit 5 rfl rfl (.tmp 3) (.tmp 4) 57 rfl Try.underlying57 infoB ?_ (g := w.heap.size) ?_ (A := A) (c := c) (news := b.map encB) ?_ ?_ ?_ ?_ ?_ ?_)
  case refine_1 => rfl
  case refine_2 => rfl
  case refine_3 => rw [hle.out]; rfl
  case refine_4 => exact s1.out
  case refine_5 => exact encB_one b
  case refine_6 => rw [hle.out]; omega
  case refine_7 => rw [hle.out]; unfold maxLen; omega
  case refine_8 =>
  intro v w2 hn
  obtain ⟨A', c', rfl, hk, hb2⟩ := hn.ow
  rw [← HN.out] at hk ⊢
  have Hk := hide hk
  have Hb2 := hide hb2
  clear hn hk hb2
  go_wp2_with fail
  have hsz : w.heap.size ≤ (w.alloc (.cells #[] 5)).heap.size := by simp
  refine hR.out _ _ ⟨A', c', by rw [← HN.out]; rfl, ?_, Hb.out.trans (Hb2.out.mono hsz)⟩
  rw [← HN.out]
  exact Kd.ow.mono (fun k hk => ⟨by have := hk.1; omega, hk.2⟩) Hk.out
end Go.Proofs.Ytehkdionodnhjaa
