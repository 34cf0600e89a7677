/- Bytes read as a packet: what either side says; the reference's walk. -/
import Derived.Test.YtopfpadfjfmmiaaFrameSame
set_option linter.unusedVariables false
set_option linter.unusedSimpArgs false
namespace Go.Proofs.Ytopfpadfjfmmiaa
open Go.RowKit

theorem set9 {w Z : World} {g : Nat} {t : TypeId} {v0 v1 v2 v3 v4 v5 v6 v7 v8 : Value} (u0 u1 u2 u3 u4 u5 u6 u7 u8 : Value) (h : w.heap[g]? = some (.cells #[v0, v1, v2, v3, v4, v5, v6, v7, v8] t (0, 0))) (hZ : Z = (((((((((w.setCell ⟨g, 0, none⟩ u0).setCell ⟨g, 1, none⟩ u1).setCell ⟨g, 2, none⟩ u2).setCell ⟨g, 3, none⟩ u3).setCell ⟨g, 4, none⟩ u4).setCell ⟨g, 5, none⟩ u5).setCell ⟨g, 6, none⟩ u6).setCell ⟨g, 7, none⟩ u7).setCell ⟨g, 8, none⟩ u8)) :
    Z.heap[g]? = some (.cells #[u0, u1, u2, u3, u4, u5, u6, u7, u8] t (0, 0)) ∧ Ch (· = g) w Z := by
  subst hZ
  have h0 : (w.setCell ⟨g, 0, none⟩ u0).heap[g]? = some (.cells #[u0, v1, v2, v3, v4, v5, v6, v7, v8] t (0, 0)) := by have := set_cs h 0 u0; simpa using this
  have h1 : ((w.setCell ⟨g, 0, none⟩ u0).setCell ⟨g, 1, none⟩ u1).heap[g]? = some (.cells #[u0, u1, v2, v3, v4, v5, v6, v7, v8] t (0, 0)) := by have := set_cs h0 1 u1; simpa using this
  have h2 : (((w.setCell ⟨g, 0, none⟩ u0).setCell ⟨g, 1, none⟩ u1).setCell ⟨g, 2, none⟩ u2).heap[g]? = some (.cells #[u0, u1, u2, v3, v4, v5, v6, v7, v8] t (0, 0)) := by have := set_cs h1 2 u2; simpa using this
  have h3 : ((((w.setCell ⟨g, 0, none⟩ u0).setCell ⟨g, 1, none⟩ u1).setCell ⟨g, 2, none⟩ u2).setCell ⟨g, 3, none⟩ u3).heap[g]? = some (.cells #[u0, u1, u2, u3, v4, v5, v6, v7, v8] t (0, 0)) := by have := set_cs h2 3 u3; simpa using this
  have h4 : (((((w.setCell ⟨g, 0, none⟩ u0).setCell ⟨g, 1, none⟩ u1).setCell ⟨g, 2, none⟩ u2).setCell ⟨g, 3, none⟩ u3).setCell ⟨g, 4, none⟩ u4).heap[g]? = some (.cells #[u0, u1, u2, u3, u4, v5, v6, v7, v8] t (0, 0)) := by have := set_cs h3 4 u4; simpa using this
  have h5 : ((((((w.setCell ⟨g, 0, none⟩ u0).setCell ⟨g, 1, none⟩ u1).setCell ⟨g, 2, none⟩ u2).setCell ⟨g, 3, none⟩ u3).setCell ⟨g, 4, none⟩ u4).setCell ⟨g, 5, none⟩ u5).heap[g]? = some (.cells #[u0, u1, u2, u3, u4, u5, v6, v7, v8] t (0, 0)) := by have := set_cs h4 5 u5; simpa using this
  have h6 : (((((((w.setCell ⟨g, 0, none⟩ u0).setCell ⟨g, 1, none⟩ u1).setCell ⟨g, 2, none⟩ u2).setCell ⟨g, 3, none⟩ u3).setCell ⟨g, 4, none⟩ u4).setCell ⟨g, 5, none⟩ u5).setCell ⟨g, 6, none⟩ u6).heap[g]? = some (.cells #[u0, u1, u2, u3, u4, u5, u6, v7, v8] t (0, 0)) := by have := set_cs h5 6 u6; simpa using this
  have h7 : ((((((((w.setCell ⟨g, 0, none⟩ u0).setCell ⟨g, 1, none⟩ u1).setCell ⟨g, 2, none⟩ u2).setCell ⟨g, 3, none⟩ u3).setCell ⟨g, 4, none⟩ u4).setCell ⟨g, 5, none⟩ u5).setCell ⟨g, 6, none⟩ u6).setCell ⟨g, 7, none⟩ u7).heap[g]? = some (.cells #[u0, u1, u2, u3, u4, u5, u6, u7, v8] t (0, 0)) := by have := set_cs h6 7 u7; simpa using this
  have h8 : (((((((((w.setCell ⟨g, 0, none⟩ u0).setCell ⟨g, 1, none⟩ u1).setCell ⟨g, 2, none⟩ u2).setCell ⟨g, 3, none⟩ u3).setCell ⟨g, 4, none⟩ u4).setCell ⟨g, 5, none⟩ u5).setCell ⟨g, 6, none⟩ u6).setCell ⟨g, 7, none⟩ u7).setCell ⟨g, 8, none⟩ u8).heap[g]? = some (.cells #[u0, u1, u2, u3, u4, u5, u6, u7, u8] t (0, 0)) := by have := set_cs h7 8 u8; simpa using this
  exact ⟨h8, (((((((((((((((((Ch.set w ⟨g, 0, none⟩ _)).trans (Ch.set _ ⟨g, 1, none⟩ _) fun _ h => .inl h)).trans (Ch.set _ ⟨g, 2, none⟩ _) fun _ h => .inl h)).trans (Ch.set _ ⟨g, 3, none⟩ _) fun _ h => .inl h)).trans (Ch.set _ ⟨g, 4, none⟩ _) fun _ h => .inl h)).trans (Ch.set _ ⟨g, 5, none⟩ _) fun _ h => .inl h)).trans (Ch.set _ ⟨g, 6, none⟩ _) fun _ h => .inl h)).trans (Ch.set _ ⟨g, 7, none⟩ _) fun _ h => .inl h)).trans (Ch.set _ ⟨g, 8, none⟩ _) fun _ h => .inl h)⟩
/-- What is wrong with bytes, as a frame; 0: nothing. -/
def mayF (b : List UInt8) : Bool := mayH (getN (mid b 11 4) : Nat) (getN (mid b 15 2) : Nat) (getN (mid b 17 1) : Nat) (getN (mid b 18 2) : Nat) (getN (mid b 20 2) : Nat) (wrap64 ((getN (mid b 22 8) : Nat) : Int))
def fErr (b : List UInt8) : Nat :=
  if b.length < 42 then 4 else if getN (mid b 0 2) ≠ 16716 then 5 else if b.getD 2 0 ≠ 1 then 6 else if mayF b = false then 1 else if b.length ≠ 42 + getN (mid b 15 2) then 7 else if rightB b = false then 8 else 0
abbrev zPk : Value := .agg #[.int .u64 0, .int .i64 0, .int .i64 0, .int .i64 0, .int .i64 0, .int .i64 0, .int .i64 0, .int .u64 0, .slice none 0 0]

theorem mid_rd {S : Nat → Prop} {w : World} {A : Option Addr} {b : List UInt8} {c : Nat} (h : RdL Kd.byte S w A b) (p n : Nat) (hp : p ≤ b.length) (hc : b.length ≤ c) : RdL Kd.byte S w (if c = p then A else A.map fun a => a.add p) (mid b p n) := by
  have := (h.drop p c hp hc).take n
  rw [show p * Kd.byte.sz = p from Nat.mul_one p] at this
  exact this
theorem mid_len {b : List UInt8} {p n : Nat} (h : p + n ≤ b.length) : (mid b p n).length = n := by simp [mid]; omega

theorem rnumber_calls (A : Option Addr) (b : List UInt8) (c p n : Nat) (S : Nat → Prop) (w : World) (hm : c ≤ maxLen) (hc : b.length ≤ c) (hp : p + n ≤ b.length) (hn : 0 < n) (h : RdL Kd.byte S w A b) :
    Calls Try.prog 28 #[.slice A b.length c, .int .i64 (p : Int), .int .i64 (n : Int)] w fun e w' => e = .returned (.int .i64 (wrap64 ((getN (mid b p n) : Nat) : Int))) ∧ w = w' := by
  refine cps fun R hR => ?_
  have hg := hide (refget_calls _ (mid b p n) (c - p) S w (by omega) (by rw [mid_len hp]; omega) (mid_rd h p n (by omega) hc))
  rw [mid_len hp] at hg
  generalize ((getN (mid b p n) : Nat) : Int) = x at *
  unfold maxLen at hm
  have k1 : (p : Int) + (n : Int) ≤ (c : Int) := by omega
  have k2 : (p : Int) ≤ (p : Int) + (n : Int) := by omega
  clear h
  have hcp : ¬ c = p := by omega
  rw [if_neg hcp] at hg
  go_enter Try.func28, Try.ntmps28
  go_wp2_with fail
  refine hg.out.mono ?_
  rintro e w' ⟨rfl, rfl⟩
  go_wp2_with fail
  exact hR.out _ _ ⟨rfl, rfl⟩
end Go.Proofs.Ytopfpadfjfmmiaa
