/- The statement WholeSeeds: for every Params, all seeds and any number of draws the law returns true and leaves its arguments as they were. No condition. -/
import Derived.Test.YtakbkopekcmcjaaRow
import Derived.Test.YtakbkopekcmcjaaWholeSeeds
set_option linter.unusedVariables false
namespace Go.Proofs.Ytakbkopekcmcjaa
open Go.ChangeShapes Go.WideShapes Go.ChangeAt Go.RowKit
open Go.ChangeMaps (open_string shut_string)

namespace WholeSeeds
set_option maxRecDepth 100000 in
theorem lifted (os : Os) (started : os.Started) (H : Type) (enc : TypeId × Value → H) :
    ReturnsInHanded {} Try.checked os 7 .any (Rows.wholeSeedsSpec.pre6 enc Try.prog Try.f7 Rows.wholeSeedsRow.domain false) (Rows.wholeSeedsSpec.post enc Try.prog Try.f7 false true false false) := by
  refine returnsInHanded_of_change (C := Try.checked) Try.own started (by kernel_rfl) Try.func7
    (ChangeSpec.witness6 (enc := enc) (C := Try.checked) false ⟨#[], #[.agg #[.int .i64 0, .int .i64 0, .int .i64 0, .int .i64 0, .int .i64 0], .slice none 0 0, .int .u8 0], []⟩ 8 (by kernel_rfl) (by kernel_rfl) (by kernel_rfl) (by kernel_rfl)) ?_
  intro W base args ds gs before hval0 hW hcnd _
  have hval : ∀ (j : Nat) t v, Try.f7.params[j]? = some t → args[j]? = some v → Value.okWide Try.prog W .any base t v := hval0
  have hW' := hW
  obtain ⟨p, q, hA0, hV, rfl, hfz, hnd⟩ := hW
  have hA : DataW.TrodAll enc Try.prog W 0 (fun _ => true) true Try.f7.params.toList args.toList ds p := hA0
  rw [Try.params7] at hA hval
  obtain ⟨v0, vs0, d0, ds0, p0, q0, hargs, rfl, rfl, h0, r0⟩ := trodAll_cons hA
  obtain ⟨v1, vs1, d1, ds1, p1, q1, rfl, rfl, rfl, h1, r1⟩ := trodAll_cons r0
  obtain ⟨v2, vs2, d2, ds2, p2, q2, rfl, rfl, rfl, h2, r2⟩ := trodAll_cons r1
  obtain ⟨rfl, rfl, rfl⟩ := trodAll_nil r2
  obtain rfl : args = #[v0, v1, v2] := by cases args; simp_all
  obtain ⟨rfl, rfl⟩ := trodVars_none hV
  have lt0 : ∀ x ∈ p0, x.block < W.heap.size := by obtain ⟨m, hm⟩ := h0; exact DataW.trod_lt m _ _ _ hm
  have lt1 : ∀ x ∈ p1, x.block < W.heap.size := by obtain ⟨m, hm⟩ := h1; exact DataW.trod_lt m _ _ _ hm
  have lt2 : ∀ x ∈ p2, x.block < W.heap.size := by obtain ⟨m, hm⟩ := h2; exact DataW.trod_lt m _ _ _ hm
  obtain ⟨a0, cs0, rfl, R0⟩ := arg_struct Try.underlying23 opnParams (hval 0 23 v0 rfl rfl) h0
  obtain ⟨N, B, Q, E, F⟩ := a0
  obtain ⟨_, _, rfl, ⟨_, rfl, rfl, wN⟩, _, _, rfl, ⟨_, rfl, rfl, wB⟩, _, _, rfl, ⟨_, rfl, rfl, wQ⟩, _, _, rfl, ⟨_, rfl, rfl, wE⟩, _, rfl, rfl, wF⟩ := R0
  obtain ⟨xs, A, c, rfl, hl, hm, hr⟩ := arg_slice Try.underlying44 (opn_sl Try.underlying44 (by kernel_rfl) (opn_u64 Try.underlying31 (by kernel_rfl))) (hval 1 44 v1 rfl rfl) h1
  obtain ⟨many, rfl, wmany⟩ := arg_int Try.underlying5 (hval 2 5 v2 rfl rfl) h2
  have walk : Calls Try.prog 7 #[pV N B Q E F, .slice A xs.length c, .int .u8 many] W fun e w' => e = .returned (.bool true) ∧ Below W.heap.size W w' := by
    have bm := bounds_u8 wmany
    obtain ⟨mn, rfl⟩ := Int.eq_ofNat_of_zero_le bm.1
    exact Seeds_calls N B Q E F A c xs mn W (by omega) hm hl hr
  clear hA0 hval0
  refine walk.mono fun e W' ⟨he, bel⟩ => ?_
  subst he
  exact ⟨_, rfl, _, _, _, [], _, [], hW', trodAll_mk1 (shut_bool Try.underlying4 _), (trodAll_cons_mk (Below.trod Try.laidOut (by kernel_rfl) (of_decide_eq_true (by kernel_rfl)) h0 bel lt0) (trodAll_cons_mk (Below.trod Try.laidOut (by kernel_rfl) (of_decide_eq_true (by kernel_rfl)) h1 bel lt1) (trodAll_cons_mk (Below.trod Try.laidOut (by kernel_rfl) (of_decide_eq_true (by kernel_rfl)) h2 bel lt2) trodAll_mk0))), rfl, bel.frame _, fun h => by cases h⟩

theorem over : Rows.wholeSeedsRow.holds Try.pinned (OpenSpec.ofChange Rows.wholeSeedsSpec) :=
  OpenClaim.holds_of_wide 7 Try.f7 rfl rfl rfl rfl rfl rfl rfl ⟨rfl, rfl, rfl, rfl, rfl⟩ rfl rfl rfl rfl rfl (by kernel_rfl) Try.func7 (by kernel_rfl)
    (of_decide_eq_true (by kernel_rfl)) (by unfold Func.isWrapper; first | (rw [if_pos (by decide +kernel)]; kernel_rfl) | (rw [if_neg (by decide +kernel)]; exact ⟨rfl, rfl⟩))
    (fun os started H enc _ => lifted os started H enc)
theorem proved : Rows.WholeSeedsSaid := over
#print axioms proved
end WholeSeeds
end Go.Proofs.Ytakbkopekcmcjaa
