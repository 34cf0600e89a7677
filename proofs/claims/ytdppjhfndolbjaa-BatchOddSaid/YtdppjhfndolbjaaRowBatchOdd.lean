/- The statement BatchOdd: for any equations, and any odd one anywhere among them, the law returns true and leaves its arguments as they were. No condition. -/
import Derived.Test.YtdppjhfndolbjaaRow
import Derived.Test.YtdppjhfndolbjaaRowW
import Derived.Test.YtdppjhfndolbjaaBatchOdd
set_option linter.unusedVariables false
namespace Go.Proofs.Ytdppjhfndolbjaa
open Go.ChangeShapes Go.WideShapes Go.ChangeAt Go.RowKit
open Go.ChangeMaps (open_string shut_string)

namespace BatchOdd
set_option maxRecDepth 100000 in
theorem lifted (os : Os) (started : os.Started) (H : Type) (enc : TypeId × Value → H) :
    ReturnsInHanded {} Try.checked os 4 .any (Rows.batchOddSpec.pre6 enc Try.prog Try.f4 Rows.batchOddRow.domain false) (Rows.batchOddSpec.post enc Try.prog Try.f4 false true false false) := by
  refine returnsInHanded_of_change_sized (C := Try.checked) Try.own started (by kernel_rfl) Try.func4
    (ChangeSpec.witness6 (enc := enc) (C := Try.checked) false ⟨#[], #[.agg #[.int .u8 0, .int .u8 0, .slice none 0 0, .slice none 0 0], .agg #[.slice none 0 0, .slice none 0 0], .int .u8 0], []⟩ 8 (by kernel_rfl) (by kernel_rfl) (by kernel_rfl) (by kernel_rfl)) ?_
  intro W base args ds gs before hval0 hW hcnd hz _
  have hval : ∀ (j : Nat) t v, Try.f4.params[j]? = some t → args[j]? = some v → Value.okWide Try.prog W .any base t v := hval0
  have hW' := hW
  obtain ⟨p, q, hA0, hV, rfl, hfz, hnd⟩ := hW
  have hA : DataW.TrodAll enc Try.prog W 0 (fun _ => true) true Try.f4.params.toList args.toList ds p := hA0
  rw [Try.params4] at hA hval
  obtain ⟨v0, vs0, d0, ds0, p0, q0, hargs, rfl, rfl, h0, r0⟩ := trodAll_cons hA
  obtain ⟨v1, vs1, d1, ds1, p1, q1, rfl, rfl, rfl, h1, r1⟩ := trodAll_cons r0
  obtain ⟨v2, vs2, d2, ds2, p2, q2, rfl, rfl, rfl, h2, r2⟩ := trodAll_cons r1
  obtain ⟨rfl, rfl, rfl⟩ := trodAll_nil r2
  obtain rfl : args = #[v0, v1, v2] := by cases args; simp_all
  obtain ⟨rfl, rfl⟩ := trodVars_none hV
  have lt0 : ∀ x ∈ p0, x.block < W.heap.size := by obtain ⟨m, hm⟩ := h0; exact DataW.trod_lt m _ _ _ hm
  have lt1 : ∀ x ∈ p1, x.block < W.heap.size := by obtain ⟨m, hm⟩ := h1; exact DataW.trod_lt m _ _ _ hm
  have lt2 : ∀ x ∈ p2, x.block < W.heap.size := by obtain ⟨m, hm⟩ := h2; exact DataW.trod_lt m _ _ _ hm
  obtain ⟨a0, cs0, rfl, R0, BB0⟩ := arg_structW Try.underlying25 (opnW_struct (d := Kd.seq (Kd.int .u8) (Kd.seq (Kd.int .u8) (Kd.seq (Kd.sl (Kd.sl kInt)) (Kd.sl (Kd.sl Kd.byte))))) Try.underlying25 (by kernel_rfl) (opnFW_cons rfl (opnW_of (opn_int Try.underlying5 (by kernel_rfl))) (opnFW_cons rfl (opnW_of (opn_int Try.underlying5 (by kernel_rfl))) (opnFW_cons rfl (opnW_sl Try.underlying22 (by kernel_rfl) (opnW_sl Try.underlying31 (by kernel_rfl) (opnW_of (opn_int Try.underlying3 (by kernel_rfl))))) (opnFW_last rfl (opnW_sl Try.underlying23 (by kernel_rfl) (opnW_sl Try.underlying38 (by kernel_rfl) (opnW_of (opn_byte Try.underlying5 (by kernel_rfl)))))))))) (hval 0 25 v0 rfl rfl) h0 (weights_of (j := 0) hz rfl rfl)
  obtain ⟨al, sz, of, vals⟩ := a0
  obtain ⟨_, _, rfl, ⟨_, rfl, rfl, wal⟩, _, _, rfl, ⟨_, rfl, rfl, wsz⟩, _, _, rfl, ⟨Bo, co, rfl, o1, o2, o3⟩, Bv, cv, rfl, u1, u2, u3⟩ := R0
  obtain ⟨a1, cs1, rfl, R1⟩ := arg_struct Try.underlying43 (opn_struct (d := Kd.seq (Kd.sl kInt) (Kd.sl Kd.byte)) Try.underlying43 (by kernel_rfl) (opnF_cons rfl (opn_sl Try.underlying31 (by kernel_rfl) (opn_int Try.underlying3 (by kernel_rfl))) (opnF_last rfl (opn_sl Try.underlying38 (by kernel_rfl) (opn_byte Try.underlying5 (by kernel_rfl)))))) (hval 1 43 v1 rfl rfl) h1
  obtain ⟨oof, ob⟩ := a1
  obtain ⟨_, _, rfl, ⟨Oa, oc, rfl, e1, e2, e3⟩, Ob, obc, rfl, e4, e5, e6⟩ := R1
  obtain ⟨at0, rfl, wat0⟩ := arg_int Try.underlying5 (hval 2 5 v2 rfl rfl) h2
  have walk : Calls Try.prog 4 #[eqsV al sz Bo of.length co Bv vals.length cv, .agg #[.slice Oa oof.length oc, .slice Ob ob.length obc], .int .u8 at0] W fun e w' => e = .returned (.bool true) ∧ Below W.heap.size W w' := by
    have bal := bounds_u8 wal
    have bsz := bounds_u8 wsz
    have hbi : Try.prog.bytesOf 3 = 8 := by kernel_rfl
    have hbd : ∀ o ∈ of, o.length ≤ 1000000000000000000 := fun o ho => by have := (BB0.2.2.1.2 o ho).1; rw [hbi] at this; unfold reachBytes at this; omega
    obtain ⟨b0, rfl⟩ := Int.eq_ofNat_of_zero_le (bounds_u8 wat0).1
    exact BatchOdd_calls al sz bal bsz Bo Bv Oa Ob of vals oof ob b0 (by have := (bounds_u8 wat0).2; omega) co cv oc obc W o1 o2 u1 u2 e1 e2 e4 e5 e3 e6 o3 u3 hbd
  clear hA0 hval0
  refine walk.mono fun e W' ⟨he, bel⟩ => ?_
  subst he
  exact ⟨_, rfl, _, _, _, [], _, [], hW', trodAll_mk1 (shut_bool Try.underlying4 _), (trodAll_cons_mk (Below.trod Try.laidOut (by kernel_rfl) (of_decide_eq_true (by kernel_rfl)) h0 bel lt0) (trodAll_cons_mk (Below.trod Try.laidOut (by kernel_rfl) (of_decide_eq_true (by kernel_rfl)) h1 bel lt1) (trodAll_cons_mk (Below.trod Try.laidOut (by kernel_rfl) (of_decide_eq_true (by kernel_rfl)) h2 bel lt2) trodAll_mk0))), rfl, bel.frame _, fun h => by cases h⟩

theorem over : Rows.batchOddRow.holds Try.pinned (OpenSpec.ofChange Rows.batchOddSpec) :=
  OpenClaim.holds_of_wide 4 Try.f4 rfl rfl rfl rfl rfl rfl rfl ⟨rfl, rfl, rfl, rfl, rfl⟩ rfl rfl rfl rfl rfl (by kernel_rfl) Try.func4 (by kernel_rfl)
    (of_decide_eq_true (by kernel_rfl)) (by unfold Func.isWrapper; first | (rw [if_pos (by decide +kernel)]; kernel_rfl) | (rw [if_neg (by decide +kernel)]; exact ⟨rfl, rfl⟩))
    (fun os started H enc _ => lifted os started H enc)
theorem proved : Rows.BatchOddSaid := over
#print axioms proved
end BatchOdd
end Go.Proofs.Ytdppjhfndolbjaa
