/- The statement NetFlips: for any frame and any Op the law returns true and leaves its arguments as they were. No condition. -/
import Derived.Test.YtehkdionodnhjaaRow
import Derived.Test.YtehkdionodnhjaaNetFlips
set_option linter.unusedVariables false
namespace Go.Proofs.Ytehkdionodnhjaa
open Go.ChangeShapes Go.WideShapes Go.ChangeAt Go.RowKit
open Go.ChangeMaps (open_string shut_string)
theorem arg_op {H : Type} {enc : TypeId × Value → H} {W : World} {base : Nat} {spare : Nat → Bool} {held : Bool} {r : Reach} {b0 : Nat} {v : Value} {y : DataW H} {ps : List MemPlace} (hv : Value.okWide Try.prog W r b0 59 v) (h : DataW.Trod enc Try.prog W base spare held 59 v y ps) :
    ∃ (kind pt : Int) (m : UInt32) (B : Option Addr) (bs : List UInt8) (d : Nat), v = opV kind pt m B bs.length d ∧ (Lit.int .i64 pt).wf = true ∧ bs.length ≤ d ∧ d ≤ maxLen ∧ RdL Kd.byte (· < W.heap.size) W B bs := by
  obtain ⟨a, cs, rfl, R⟩ := arg_struct (d := Kd.seq (Kd.int .i64) (Kd.seq (Kd.int .i64) (Kd.seq Kd.u32 (Kd.sl Kd.byte)))) Try.underlying59 (opn_struct Try.underlying59 (by kernel_rfl) (opnF_cons rfl (opn_int Try.underlying3 (by kernel_rfl)) (opnF_cons rfl (opn_int Try.underlying3 (by kernel_rfl)) (opnF_cons rfl (opn_u32 Try.underlying56 (by kernel_rfl)) (opnF_last rfl (opn_sl Try.underlying57 (by kernel_rfl) (opn_byte Try.underlying5 (by kernel_rfl)))))))) hv h
  obtain ⟨kind, pt, m, bs⟩ := a
  obtain ⟨_, _, rfl, ⟨_, rfl, rfl, wk⟩, _, _, rfl, ⟨_, rfl, rfl, wp⟩, _, _, rfl, ⟨_, rfl, rfl⟩, B, d, rfl, h1, h2, h3⟩ := R
  exact ⟨kind, pt, m, B, bs, d, rfl, wp, h1, h2, h3⟩
namespace NetFlips
set_option maxRecDepth 100000 in
theorem lifted (os : Os) (started : os.Started) (H : Type) (enc : TypeId × Value → H) :
    ReturnsInHanded {} Try.checked os 7 .any (Rows.netFlipsSpec.pre6 enc Try.prog Try.f7 Rows.netFlipsRow.domain false) (Rows.netFlipsSpec.post enc Try.prog Try.f7 false true false false) := by
  refine returnsInHanded_of_change (C := Try.checked) Try.own started (by kernel_rfl) Try.func7
    (ChangeSpec.witness6 (enc := enc) (C := Try.checked) false ⟨#[], #[.agg #[.int .i64 0, .int .i64 0, .int .u32 0, .slice none 0 0], .slice none 0 0], []⟩ 8 (by kernel_rfl) (by kernel_rfl) (by kernel_rfl) (by kernel_rfl)) ?_
  intro W base args ds gs before hval0 hW hcnd _
  have hval : ∀ (j : Nat) t v, Try.f7.params[j]? = some t → args[j]? = some v → Value.okWide Try.prog W .any base t v := hval0
  have hW' := hW
  obtain ⟨p, q, hA0, hV, rfl, hfz, hnd⟩ := hW
  have hA : DataW.TrodAll enc Try.prog W 0 (fun _ => true) true Try.f7.params.toList args.toList ds p := hA0
  rw [Try.params7] at hA hval
  obtain ⟨v0, vs0, d0, ds0, p0, q0, hargs, rfl, rfl, h0, r0⟩ := trodAll_cons hA
  obtain ⟨v1, vs1, d1, ds1, p1, q1, rfl, rfl, rfl, h1, r1⟩ := trodAll_cons r0
  obtain ⟨rfl, rfl, rfl⟩ := trodAll_nil r1
  obtain rfl : args = #[v0, v1] := by cases args; simp_all
  obtain ⟨rfl, rfl⟩ := trodVars_none hV
  have lt0 : ∀ x ∈ p0, x.block < W.heap.size := by obtain ⟨m, hm⟩ := h0; exact DataW.trod_lt m _ _ _ hm
  have lt1 : ∀ x ∈ p1, x.block < W.heap.size := by obtain ⟨m, hm⟩ := h1; exact DataW.trod_lt m _ _ _ hm
  obtain ⟨kind, pt, m, Bo, bs, d, rfl, wpt, od, odm, orr⟩ := arg_op (hval 0 59 v0 rfl rfl) h0
  obtain ⟨fr, A, c, rfl, hl, hm, hr⟩ := arg_slice Try.underlying57 (opn_sl Try.underlying57 (by kernel_rfl) (opn_byte Try.underlying5 (by kernel_rfl))) (hval 1 57 v1 rfl rfl) h1
  have walk : Calls Try.prog 7 #[opV kind pt m Bo bs.length d, .slice A fr.length c] W fun e w' => e = .returned (.bool true) ∧ Below W.heap.size W w' := by
    exact Flips_calls kind pt m Bo bs.length d A fr c W wpt hl hm hr
  clear hA0 hval0
  refine walk.mono fun e W' ⟨he, bel⟩ => ?_
  subst he
  exact ⟨_, rfl, _, _, _, [], _, [], hW', trodAll_mk1 (shut_bool Try.underlying4 _), (trodAll_cons_mk (Below.trod Try.laidOut (by kernel_rfl) (of_decide_eq_true (by kernel_rfl)) h0 bel lt0) (trodAll_cons_mk (Below.trod Try.laidOut (by kernel_rfl) (of_decide_eq_true (by kernel_rfl)) h1 bel lt1) trodAll_mk0)), rfl, bel.frame _, fun h => by cases h⟩

theorem over : Rows.netFlipsRow.holds Try.pinned (OpenSpec.ofChange Rows.netFlipsSpec) :=
  OpenClaim.holds_of_wide 7 Try.f7 rfl rfl rfl rfl rfl rfl rfl ⟨rfl, rfl, rfl, rfl, rfl⟩ rfl rfl rfl rfl rfl (by kernel_rfl) Try.func7 (by kernel_rfl)
    (of_decide_eq_true (by kernel_rfl)) (by unfold Func.isWrapper; first | (rw [if_pos (by decide +kernel)]; kernel_rfl) | (rw [if_neg (by decide +kernel)]; exact ⟨rfl, rfl⟩))
    (fun os started H enc _ => lifted os started H enc)
theorem proved : Rows.NetFlipsSaid := over
#print axioms proved
end NetFlips
end Go.Proofs.Ytehkdionodnhjaa
