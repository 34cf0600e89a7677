/- The statement DegreeRises: for any pair the law returns true and leaves its argument as it was. No condition. -/
import Derived.Test.YtakbkopekcmcjaaRow
import Derived.Test.YtakbkopekcmcjaaDegreeRises
set_option linter.unusedVariables false
namespace Go.Proofs.Ytakbkopekcmcjaa
open Go.ChangeShapes Go.WideShapes Go.ChangeAt Go.RowKit
open Go.ChangeMaps (open_string shut_string)
theorem arg_pair {H : Type} {enc : TypeId × Value → H} {W : World} {base : Nat} {spare : Nat → Bool} {held : Bool} {r : Reach} {b0 : Nat} {v : Value} {y : DataW H} {ps : List MemPlace} (hv : Value.okWide Try.prog W r b0 40 v) (h : DataW.Trod enc Try.prog W base spare held 40 v y ps) :
    ∃ (N B Q E F : Int) (u v' : UInt64) (i : Int), v = .agg #[.int .i64 N, .int .i64 B, .int .i64 Q, .int .i64 E, .int .i64 F, .int .u64 (u.toNat : Int), .int .u64 (v'.toNat : Int), .int .i64 i] ∧ -9223372036854775808 ≤ i ∧ i ≤ 9223372036854775807 := by
  obtain ⟨a, cs, rfl, R⟩ := arg_struct (d := Kd.seq (Kd.seq (Kd.int .i64) (Kd.seq (Kd.int .i64) (Kd.seq (Kd.int .i64) (Kd.seq (Kd.int .i64) (Kd.int .i64))))) (Kd.seq Kd.u64 (Kd.seq Kd.u64 (Kd.int .i64)))) Try.underlying40 (opn_struct Try.underlying40 (by kernel_rfl) (opnF_cons rfl opnParams (opnF_cons rfl (opn_u64 Try.underlying31 (by kernel_rfl)) (opnF_cons rfl (opn_u64 Try.underlying31 (by kernel_rfl)) (opnF_last rfl (opn_int Try.underlying3 (by kernel_rfl))))))) hv h
  obtain ⟨⟨N, B, Q, E, F⟩, u, v', i⟩ := a
  obtain ⟨_, _, rfl, ⟨_, _, rfl, ⟨_, rfl, rfl, wN⟩, _, _, rfl, ⟨_, rfl, rfl, wB⟩, _, _, rfl, ⟨_, rfl, rfl, wQ⟩, _, _, rfl, ⟨_, rfl, rfl, wE⟩, _, rfl, rfl, wF⟩, _, _, rfl, ⟨_, rfl, rfl⟩, _, _, rfl, ⟨_, rfl, rfl⟩, _, rfl, rfl, wi⟩ := R
  have b := bounds_i64 wi
  exact ⟨N, B, Q, E, F, u, v', i, rfl, b.1, b.2⟩
namespace DegreeRises
set_option maxRecDepth 100000 in
theorem lifted (os : Os) (started : os.Started) (H : Type) (enc : TypeId × Value → H) :
    ReturnsInHanded {} Try.checked os 5 .any (Rows.degreeRisesSpec.pre6 enc Try.prog Try.f5 Rows.degreeRisesRow.domain false) (Rows.degreeRisesSpec.post enc Try.prog Try.f5 false true false false) := by
  refine returnsInHanded_of_change (C := Try.checked) Try.own started (by kernel_rfl) Try.func5
    (ChangeSpec.witness6 (enc := enc) (C := Try.checked) false ⟨#[], #[.agg #[.int .i64 0, .int .i64 0, .int .i64 0, .int .i64 0, .int .i64 0, .int .u64 0, .int .u64 0, .int .i64 0]], []⟩ 8 (by kernel_rfl) (by kernel_rfl) (by kernel_rfl) (by kernel_rfl)) ?_
  intro W base args ds gs before hval0 hW hcnd _
  have hval : ∀ (j : Nat) t v, Try.f5.params[j]? = some t → args[j]? = some v → Value.okWide Try.prog W .any base t v := hval0
  have hW' := hW
  obtain ⟨p, q, hA0, hV, rfl, hfz, hnd⟩ := hW
  have hA : DataW.TrodAll enc Try.prog W 0 (fun _ => true) true Try.f5.params.toList args.toList ds p := hA0
  rw [Try.params5] at hA hval
  obtain ⟨v0, vs0, d0, ds0, p0, q0, hargs, rfl, rfl, h0, r0⟩ := trodAll_cons hA
  obtain ⟨rfl, rfl, rfl⟩ := trodAll_nil r0
  obtain rfl : args = #[v0] := by cases args; simp_all
  obtain ⟨rfl, rfl⟩ := trodVars_none hV
  have lt0 : ∀ x ∈ p0, x.block < W.heap.size := by obtain ⟨m, hm⟩ := h0; exact DataW.trod_lt m _ _ _ hm
  obtain ⟨N, B, Q, E, F, u, v', i, rfl, bi1, bi2⟩ := arg_pair (hval 0 40 v0 rfl rfl) h0
  have walk : Calls Try.prog 5 #[.agg #[.int .i64 N, .int .i64 B, .int .i64 Q, .int .i64 E, .int .i64 F, .int .u64 (u.toNat : Int), .int .u64 (v'.toNat : Int), .int .i64 i]] W fun e w' => e = .returned (.bool true) ∧ Below W.heap.size W w' := by
    exact Rises_calls N B Q E F i u.toNat v'.toNat W bi1 bi2 u.toNat_lt v'.toNat_lt
  clear hA0 hval0
  refine walk.mono fun e W' ⟨he, bel⟩ => ?_
  subst he
  exact ⟨_, rfl, _, _, _, [], _, [], hW', trodAll_mk1 (shut_bool Try.underlying4 _), (trodAll_cons_mk (Below.trod Try.laidOut (by kernel_rfl) (of_decide_eq_true (by kernel_rfl)) h0 bel lt0) trodAll_mk0), rfl, bel.frame _, fun h => by cases h⟩

theorem over : Rows.degreeRisesRow.holds Try.pinned (OpenSpec.ofChange Rows.degreeRisesSpec) :=
  OpenClaim.holds_of_wide 5 Try.f5 rfl rfl rfl rfl rfl rfl rfl ⟨rfl, rfl, rfl, rfl, rfl⟩ rfl rfl rfl rfl rfl (by kernel_rfl) Try.func5 (by kernel_rfl)
    (of_decide_eq_true (by kernel_rfl)) (by unfold Func.isWrapper; first | (rw [if_pos (by decide +kernel)]; kernel_rfl) | (rw [if_neg (by decide +kernel)]; exact ⟨rfl, rfl⟩))
    (fun os started H enc _ => lifted os started H enc)
theorem proved : Rows.DegreeRisesSaid := over
#print axioms proved
end DegreeRises
end Go.Proofs.Ytakbkopekcmcjaa
