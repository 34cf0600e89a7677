/- The statement CrcLinear: for any three rows of bytes the law returns true and leaves its arguments as they were. No condition. -/
import Derived.Test.YtoiojkjmldlhcaaRow
import Derived.Test.YtoiojkjmldlhcaaCrcLinear
set_option linter.unusedVariables false
namespace Go.Proofs.Ytoiojkjmldlhcaa
open Go.ChangeShapes Go.WideShapes Go.ChangeAt Go.RowKit
open Go.ChangeMaps (open_string shut_string)

namespace CrcLinear
set_option maxRecDepth 100000 in
theorem lifted (os : Os) (started : os.Started) (H : Type) (enc : TypeId × Value → H) :
    ReturnsInHanded {} Try.checked os 10 .any (Rows.crcLinearSpec.pre6 enc Try.prog Try.f10 Rows.crcLinearRow.domain false) (Rows.crcLinearSpec.post enc Try.prog Try.f10 false true false false) := by
  refine returnsInHanded_of_change (C := Try.checked) Try.own started (by kernel_rfl) Try.func10
    (ChangeSpec.witness6 (enc := enc) (C := Try.checked) false ⟨#[], #[.slice none 0 0, .slice none 0 0, .slice none 0 0], []⟩ 8 (by kernel_rfl) (by kernel_rfl) (by kernel_rfl) (by kernel_rfl)) ?_
  intro W base args ds gs before hval0 hW hcnd _
  have hval : ∀ (j : Nat) t v, Try.f10.params[j]? = some t → args[j]? = some v → Value.okWide Try.prog W .any base t v := hval0
  have hW' := hW
  obtain ⟨p, q, hA0, hV, rfl, hfz, hnd⟩ := hW
  have hA : DataW.TrodAll enc Try.prog W 0 (fun _ => true) true Try.f10.params.toList args.toList ds p := hA0
  rw [Try.params10] at hA hval
  obtain ⟨v0, vs0, d0, ds0, p0, q0, hargs, rfl, rfl, h0, r0⟩ := trodAll_cons hA
  obtain ⟨v1, vs1, d1, ds1, p1, q1, rfl, rfl, rfl, h1, r1⟩ := trodAll_cons r0
  obtain ⟨v2, vs2, d2, ds2, p2, q2, rfl, rfl, rfl, h2, r2⟩ := trodAll_cons r1
  obtain ⟨rfl, rfl, rfl⟩ := trodAll_nil r2
  obtain rfl : args = #[v0, v1, v2] := by cases args; simp_all
  obtain ⟨rfl, rfl⟩ := trodVars_none hV
  have lt0 : ∀ x ∈ p0, x.block < W.heap.size := by obtain ⟨m, hm⟩ := h0; exact DataW.trod_lt m _ _ _ hm
  have lt1 : ∀ x ∈ p1, x.block < W.heap.size := by obtain ⟨m, hm⟩ := h1; exact DataW.trod_lt m _ _ _ hm
  have lt2 : ∀ x ∈ p2, x.block < W.heap.size := by obtain ⟨m, hm⟩ := h2; exact DataW.trod_lt m _ _ _ hm
  obtain ⟨xs, A, c, rfl, hal, ham, har⟩ := arg_slice Try.underlying24 (opn_sl Try.underlying24 (by kernel_rfl) (opn_byte Try.underlying5 (by kernel_rfl))) (hval 0 24 v0 rfl rfl) h0
  obtain ⟨ys, B, d, rfl, hbl, hbm, hbr⟩ := arg_slice Try.underlying24 (opn_sl Try.underlying24 (by kernel_rfl) (opn_byte Try.underlying5 (by kernel_rfl))) (hval 1 24 v1 rfl rfl) h1
  obtain ⟨zl, C, f, rfl, hcl, hcm, hcr⟩ := arg_slice Try.underlying24 (opn_sl Try.underlying24 (by kernel_rfl) (opn_byte Try.underlying5 (by kernel_rfl))) (hval 2 24 v2 rfl rfl) h2
  have walk : Calls Try.prog 10 #[.slice A xs.length c, .slice B ys.length d, .slice C zl.length f] W fun e w' => e = .returned (.bool true) ∧ Below W.heap.size W w' := by
    exact CrcLinear_calls A xs c B ys d C zl f W ham hal har hbm hbl hbr hcm hcl hcr
  clear hA0 hval0
  refine walk.mono fun e W' ⟨he, bel⟩ => ?_
  subst he
  exact ⟨_, rfl, _, _, _, [], _, [], hW', trodAll_mk1 (shut_bool Try.underlying4 _), (trodAll_cons_mk (Below.trod Try.laidOut (by kernel_rfl) (of_decide_eq_true (by kernel_rfl)) h0 bel lt0) (trodAll_cons_mk (Below.trod Try.laidOut (by kernel_rfl) (of_decide_eq_true (by kernel_rfl)) h1 bel lt1) (trodAll_cons_mk (Below.trod Try.laidOut (by kernel_rfl) (of_decide_eq_true (by kernel_rfl)) h2 bel lt2) trodAll_mk0))), rfl, bel.frame _, fun h => by cases h⟩

theorem over : Rows.crcLinearRow.holds Try.pinned (OpenSpec.ofChange Rows.crcLinearSpec) :=
  OpenClaim.holds_of_wide 10 Try.f10 rfl rfl rfl rfl rfl rfl rfl ⟨rfl, rfl, rfl, rfl, rfl⟩ rfl rfl rfl rfl rfl (by kernel_rfl) Try.func10 (by kernel_rfl)
    (of_decide_eq_true (by kernel_rfl)) (by unfold Func.isWrapper; first | (rw [if_pos (by decide +kernel)]; kernel_rfl) | (rw [if_neg (by decide +kernel)]; exact ⟨rfl, rfl⟩))
    (fun os started H enc _ => lifted os started H enc)
theorem proved : Rows.CrcLinearSaid := over
#print axioms proved
end CrcLinear
end Go.Proofs.Ytoiojkjmldlhcaa
