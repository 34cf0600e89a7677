/- The statement WholePeel: for any equations the law returns true and leaves its argument as it was. No condition. -/
import Derived.Test.YtdppjhfndolbjaaRow
import Derived.Test.YtdppjhfndolbjaaRowW
import Derived.Test.YtdppjhfndolbjaaWholePeel
set_option linter.unusedVariables false
namespace Go.Proofs.Ytdppjhfndolbjaa
open Go.ChangeShapes Go.WideShapes Go.ChangeAt Go.RowKit
open Go.ChangeMaps (open_string shut_string)

namespace WholePeel
set_option maxRecDepth 100000 in
theorem lifted (os : Os) (started : os.Started) (H : Type) (enc : TypeId × Value → H) :
    ReturnsInHanded {} Try.checked os 7 .any (Rows.wholePeelSpec.pre6 enc Try.prog Try.f7 Rows.wholePeelRow.domain false) (Rows.wholePeelSpec.post enc Try.prog Try.f7 false true false false) := by
  refine returnsInHanded_of_change_sized (C := Try.checked) Try.own started (by kernel_rfl) Try.func7
    (ChangeSpec.witness6 (enc := enc) (C := Try.checked) false ⟨#[], #[.agg #[.int .u8 0, .int .u8 0, .slice none 0 0, .slice none 0 0]], []⟩ 8 (by kernel_rfl) (by kernel_rfl) (by kernel_rfl) (by kernel_rfl)) ?_
  intro W base args ds gs before hval0 hW hcnd hz _
  have hval : ∀ (j : Nat) t v, Try.f7.params[j]? = some t → args[j]? = some v → Value.okWide Try.prog W .any base t v := hval0
  have hW' := hW
  obtain ⟨p, q, hA0, hV, rfl, hfz, hnd⟩ := hW
  have hA : DataW.TrodAll enc Try.prog W 0 (fun _ => true) true Try.f7.params.toList args.toList ds p := hA0
  rw [Try.params7] at hA hval
  obtain ⟨v0, vs0, d0, ds0, p0, q0, hargs, rfl, rfl, h0, r0⟩ := trodAll_cons hA
  obtain ⟨rfl, rfl, rfl⟩ := trodAll_nil r0
  obtain rfl : args = #[v0] := by cases args; simp_all
  obtain ⟨rfl, rfl⟩ := trodVars_none hV
  have lt0 : ∀ x ∈ p0, x.block < W.heap.size := by obtain ⟨m, hm⟩ := h0; exact DataW.trod_lt m _ _ _ hm
  obtain ⟨a0, cs0, rfl, R0, BB0⟩ := arg_structW Try.underlying25 (opnW_struct (d := Kd.seq (Kd.int .u8) (Kd.seq (Kd.int .u8) (Kd.seq (Kd.sl (Kd.sl kInt)) (Kd.sl (Kd.sl Kd.byte))))) Try.underlying25 (by kernel_rfl) (opnFW_cons rfl (opnW_of (opn_int Try.underlying5 (by kernel_rfl))) (opnFW_cons rfl (opnW_of (opn_int Try.underlying5 (by kernel_rfl))) (opnFW_cons rfl (opnW_sl Try.underlying22 (by kernel_rfl) (opnW_sl Try.underlying31 (by kernel_rfl) (opnW_of (opn_int Try.underlying3 (by kernel_rfl))))) (opnFW_last rfl (opnW_sl Try.underlying23 (by kernel_rfl) (opnW_sl Try.underlying38 (by kernel_rfl) (opnW_of (opn_byte Try.underlying5 (by kernel_rfl)))))))))) (hval 0 25 v0 rfl rfl) h0 (weights_of (j := 0) hz rfl rfl)
  obtain ⟨al, sz, of, vals⟩ := a0
  obtain ⟨_, _, rfl, ⟨_, rfl, rfl, wal⟩, _, _, rfl, ⟨_, rfl, rfl, wsz⟩, _, _, rfl, ⟨Bo, co, rfl, o1, o2, o3⟩, Bv, cv, rfl, u1, u2, u3⟩ := R0
  have walk : Calls Try.prog 7 #[eqsV al sz Bo of.length co Bv vals.length cv] W fun e w' => e = .returned (.bool true) ∧ Below W.heap.size W w' := by
    have bal := bounds_u8 wal
    have bsz := bounds_u8 wsz
    have hbi : Try.prog.bytesOf 3 = 8 := by kernel_rfl
    have hbd : ∀ o ∈ of, o.length ≤ 1000000000000000000 := fun o ho => by have := (BB0.2.2.1.2 o ho).1; rw [hbi] at this; unfold reachBytes at this; omega
    exact WholePeel_calls al sz bal bsz Bo Bv of vals co cv W o1 o2 u1 u2 o3 u3 hbd
  clear hA0 hval0
  refine walk.mono fun e W' ⟨he, bel⟩ => ?_
  subst he
  exact ⟨_, rfl, _, _, _, [], _, [], hW', trodAll_mk1 (shut_bool Try.underlying4 _), (trodAll_cons_mk (Below.trod Try.laidOut (by kernel_rfl) (of_decide_eq_true (by kernel_rfl)) h0 bel lt0) trodAll_mk0), rfl, bel.frame _, fun h => by cases h⟩

theorem over : Rows.wholePeelRow.holds Try.pinned (OpenSpec.ofChange Rows.wholePeelSpec) :=
  OpenClaim.holds_of_wide 7 Try.f7 rfl rfl rfl rfl rfl rfl rfl ⟨rfl, rfl, rfl, rfl, rfl⟩ rfl rfl rfl rfl rfl (by kernel_rfl) Try.func7 (by kernel_rfl)
    (of_decide_eq_true (by kernel_rfl)) (by unfold Func.isWrapper; first | (rw [if_pos (by decide +kernel)]; kernel_rfl) | (rw [if_neg (by decide +kernel)]; exact ⟨rfl, rfl⟩))
    (fun os started H enc _ => lifted os started H enc)
theorem proved : Rows.WholePeelSaid := over
#print axioms proved
end WholePeel
end Go.Proofs.Ytdppjhfndolbjaa
