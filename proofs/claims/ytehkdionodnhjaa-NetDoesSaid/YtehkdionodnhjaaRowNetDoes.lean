/- The statement NetDoes: for any Ops and any frames the law returns true and leaves its arguments as they were. No condition. -/
import Derived.Test.YtehkdionodnhjaaRow
import Derived.Test.YtehkdionodnhjaaNetDoes
set_option linter.unusedVariables false
namespace Go.Proofs.Ytehkdionodnhjaa
open Go.ChangeShapes Go.WideShapes Go.ChangeAt Go.RowKit
open Go.ChangeMaps (open_string shut_string)

namespace NetDoes
set_option maxRecDepth 100000 in
theorem lifted (os : Os) (started : os.Started) (H : Type) (enc : TypeId × Value → H) :
    ReturnsInHanded {} Try.checked os 8 .any (Rows.netDoesSpec.pre6 enc Try.prog Try.f8 Rows.netDoesRow.domain false) (Rows.netDoesSpec.post enc Try.prog Try.f8 false true false false) := by
  refine returnsInHanded_of_change (C := Try.checked) Try.own started (by kernel_rfl) Try.func8
    (ChangeSpec.witness6 (enc := enc) (C := Try.checked) false ⟨#[], #[.slice none 0 0, .slice none 0 0], []⟩ 8 (by kernel_rfl) (by kernel_rfl) (by kernel_rfl) (by kernel_rfl)) ?_
  intro W base args ds gs before hval0 hW hcnd _
  have hval : ∀ (j : Nat) t v, Try.f8.params[j]? = some t → args[j]? = some v → Value.okWide Try.prog W .any base t v := hval0
  have hW' := hW
  obtain ⟨p, q, hA0, hV, rfl, hfz, hnd⟩ := hW
  have hA : DataW.TrodAll enc Try.prog W 0 (fun _ => true) true Try.f8.params.toList args.toList ds p := hA0
  rw [Try.params8] at hA hval
  obtain ⟨v0, vs0, d0, ds0, p0, q0, hargs, rfl, rfl, h0, r0⟩ := trodAll_cons hA
  obtain ⟨v1, vs1, d1, ds1, p1, q1, rfl, rfl, rfl, h1, r1⟩ := trodAll_cons r0
  obtain ⟨rfl, rfl, rfl⟩ := trodAll_nil r1
  obtain rfl : args = #[v0, v1] := by cases args; simp_all
  obtain ⟨rfl, rfl⟩ := trodVars_none hV
  have lt0 : ∀ x ∈ p0, x.block < W.heap.size := by obtain ⟨m, hm⟩ := h0; exact DataW.trod_lt m _ _ _ hm
  have lt1 : ∀ x ∈ p1, x.block < W.heap.size := by obtain ⟨m, hm⟩ := h1; exact DataW.trod_lt m _ _ _ hm
  obtain ⟨acts, A, c, rfl, hl, hm, hr⟩ := arg_slice Try.underlying65 (opn_sl Try.underlying65 (by kernel_rfl) (opn_struct (d := Kd.op) Try.underlying59 (by kernel_rfl) (opnF_cons rfl (opn_int Try.underlying3 (by kernel_rfl)) (opnF_cons rfl (opn_int Try.underlying3 (by kernel_rfl)) (opnF_cons rfl (opn_u32 Try.underlying56 (by kernel_rfl)) (opnF_last rfl (opn_sl Try.underlying57 (by kernel_rfl) (opn_byte Try.underlying5 (by kernel_rfl))))))))) (hval 0 65 v0 rfl rfl) h0
  obtain ⟨frs, B, d, rfl, hbl, hbm, hbr⟩ := arg_slice Try.underlying60 (opn_sl Try.underlying60 (by kernel_rfl) (opn_sl Try.underlying57 (by kernel_rfl) (opn_byte Try.underlying5 (by kernel_rfl)))) (hval 1 60 v1 rfl rfl) h1
  have walk : Calls Try.prog 8 #[.slice A acts.length c, .slice B frs.length d] W fun e w' => e = .returned (.bool true) ∧ Below W.heap.size W w' := by
    exact Does24_calls A acts c B frs d W hl hm hr hbl hbm hbr
  clear hA0 hval0
  refine walk.mono fun e W' ⟨he, bel⟩ => ?_
  subst he
  exact ⟨_, rfl, _, _, _, [], _, [], hW', trodAll_mk1 (shut_bool Try.underlying4 _), (trodAll_cons_mk (Below.trod Try.laidOut (by kernel_rfl) (of_decide_eq_true (by kernel_rfl)) h0 bel lt0) (trodAll_cons_mk (Below.trod Try.laidOut (by kernel_rfl) (of_decide_eq_true (by kernel_rfl)) h1 bel lt1) trodAll_mk0)), rfl, bel.frame _, fun h => by cases h⟩

theorem over : Rows.netDoesRow.holds Try.pinned (OpenSpec.ofChange Rows.netDoesSpec) :=
  OpenClaim.holds_of_wide 8 Try.f8 rfl rfl rfl rfl rfl rfl rfl ⟨rfl, rfl, rfl, rfl, rfl⟩ rfl rfl rfl rfl rfl (by kernel_rfl) Try.func8 (by kernel_rfl)
    (of_decide_eq_true (by kernel_rfl)) (by unfold Func.isWrapper; first | (rw [if_pos (by decide +kernel)]; kernel_rfl) | (rw [if_neg (by decide +kernel)]; exact ⟨rfl, rfl⟩))
    (fun os started H enc _ => lifted os started H enc)
theorem proved : Rows.NetDoesSaid := over
#print axioms proved
end NetDoes
end Go.Proofs.Ytehkdionodnhjaa
