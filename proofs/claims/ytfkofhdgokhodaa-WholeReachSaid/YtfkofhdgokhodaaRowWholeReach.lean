/- The statement WholeReach: for every Params, session and object the law returns true and leaves its arguments as they were. No condition. -/
import Derived.Test.YtfkofhdgokhodaaRow
import Derived.Test.YtfkofhdgokhodaaWholeReach
set_option linter.unusedVariables false
namespace Go.Proofs.Ytfkofhdgokhodaa
open Go.ChangeShapes Go.WideShapes Go.ChangeAt Go.RowKit
open Go.ChangeMaps (open_string shut_string)

namespace WholeReach
set_option maxRecDepth 100000 in
theorem lifted (os : Os) (started : os.Started) (H : Type) (enc : TypeId × Value → H) :
    ReturnsInHanded {} Try.checked os 4 .any (Rows.wholeReachSpec.pre6 enc Try.prog Try.f4 Rows.wholeReachRow.domain false) (Rows.wholeReachSpec.post enc Try.prog Try.f4 false true false false) := by
  refine returnsInHanded_of_change (C := Try.checked) Try.own started (by kernel_rfl) Try.func4
    (ChangeSpec.witness6 (enc := enc) (C := Try.checked) false ⟨#[], #[.agg #[.int .i64 0, .int .i64 0, .int .i64 0, .int .i64 0, .int .i64 0], .int .u64 0, .slice none 0 0], []⟩ 8 (by kernel_rfl) (by kernel_rfl) (by kernel_rfl) (by kernel_rfl)) ?_
  intro W base args ds gs before hval0 hW hcnd _
  have hval : ∀ (j : Nat) t v, Try.f4.params[j]? = some t → args[j]? = some v → Value.okWide Try.prog W .any base t v := hval0
  have hW' := hW
  obtain ⟨p, q, hA0, hV, rfl, hfz, hnd⟩ := hW
  have hA : DataW.TrodAll enc Try.prog W 0 (fun _ => true) true Try.f4.params.toList args.toList ds p := hA0
  rw [Try.params4] at hA hval
  obtain ⟨v0, vs0, d0, ds0, p0, q0, hargs, rfl, rfl, h0, r0⟩ := trodAll_cons hA
  obtain ⟨v1, vs1, d1, ds1, p1, q1, rfl, rfl, rfl, h1, r1⟩ := trodAll_cons r0
  obtain ⟨v2, vs2, d2, ds2, p2, q2, rfl, rfl, rfl, h2, r2⟩ := trodAll_cons r1
  obtain ⟨rfl, rfl, rfl⟩ := trodAll_nil r2
  obtain rfl : args = #[v0, v1, v2] := by cases args; simp_all
  obtain ⟨rfl, rfl⟩ := trodVars_none hV
  have lt0 : ∀ x ∈ p0, x.block < W.heap.size := by obtain ⟨m, hm⟩ := h0; exact DataW.trod_lt m _ _ _ hm
  have lt1 : ∀ x ∈ p1, x.block < W.heap.size := by obtain ⟨m, hm⟩ := h1; exact DataW.trod_lt m _ _ _ hm
  have lt2 : ∀ x ∈ p2, x.block < W.heap.size := by obtain ⟨m, hm⟩ := h2; exact DataW.trod_lt m _ _ _ hm
  obtain ⟨a0, cs0, rfl, R0⟩ := arg_struct Try.underlying23 opnParams (hval 0 23 v0 rfl rfl) h0
  obtain ⟨N, B, Q, E, F⟩ := a0
  obtain ⟨_, _, rfl, ⟨_, rfl, rfl, wN⟩, _, _, rfl, ⟨_, rfl, rfl, wB⟩, _, _, rfl, ⟨_, rfl, rfl, wQ⟩, _, _, rfl, ⟨_, rfl, rfl, wE⟩, _, rfl, rfl, wF⟩ := R0
  obtain ⟨s, rfl⟩ := arg_u64 Try.underlying24 (hval 1 24 v1 rfl rfl) h1
  obtain ⟨ob, A, c, rfl, hol, hom, hor⟩ := arg_slice Try.underlying39 (opn_sl Try.underlying39 (by kernel_rfl) (opn_byte Try.underlying5 (by kernel_rfl))) (hval 2 39 v2 rfl rfl) h2
  have walk : Calls Try.prog 4 #[pV N B Q E F, .int .u64 (s.toNat : Int), .slice A ob.length c] W fun e w' => e = .returned (.bool true) ∧ Below W.heap.size W w' := by
    exact Reach_calls N B Q E F s A c ob W hom hol hor
  clear hA0 hval0
  refine walk.mono fun e W' ⟨he, bel⟩ => ?_
  subst he
  exact ⟨_, rfl, _, _, _, [], _, [], hW', trodAll_mk1 (shut_bool Try.underlying4 _), (trodAll_cons_mk (Below.trod Try.laidOut (by kernel_rfl) (of_decide_eq_true (by kernel_rfl)) h0 bel lt0) (trodAll_cons_mk (Below.trod Try.laidOut (by kernel_rfl) (of_decide_eq_true (by kernel_rfl)) h1 bel lt1) (trodAll_cons_mk (Below.trod Try.laidOut (by kernel_rfl) (of_decide_eq_true (by kernel_rfl)) h2 bel lt2) trodAll_mk0))), rfl, bel.frame _, fun h => by cases h⟩

theorem over : Rows.wholeReachRow.holds Try.pinned (OpenSpec.ofChange Rows.wholeReachSpec) :=
  OpenClaim.holds_of_wide 4 Try.f4 rfl rfl rfl rfl rfl rfl rfl ⟨rfl, rfl, rfl, rfl, rfl⟩ rfl rfl rfl rfl rfl (by kernel_rfl) Try.func4 (by kernel_rfl)
    (of_decide_eq_true (by kernel_rfl)) (by unfold Func.isWrapper; first | (rw [if_pos (by decide +kernel)]; kernel_rfl) | (rw [if_neg (by decide +kernel)]; exact ⟨rfl, rfl⟩))
    (fun os started H enc _ => lifted os started H enc)
theorem proved : Rows.WholeReachSaid := over
#print axioms proved
end WholeReach
end Go.Proofs.Ytfkofhdgokhodaa
