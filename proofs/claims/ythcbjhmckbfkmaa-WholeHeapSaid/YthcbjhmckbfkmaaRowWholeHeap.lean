/- The statement WholeHeap: for any blocks and any pairs of numbers the law returns true and leaves its arguments as they were. No condition. -/
import Derived.Test.YthcbjhmckbfkmaaRow
import Derived.Test.YthcbjhmckbfkmaaWholeHeap
set_option linter.unusedVariables false
namespace Go.Proofs.Ythcbjhmckbfkmaa
open Go.ChangeShapes Go.WideShapes Go.ChangeAt Go.RowKit
open Go.ChangeMaps (open_string shut_string)
section
variable {P : Program} {t e : TypeId}
theorem opn_pair (ht : P.underlying t = some (.array 2 e)) (he : P.underlying e = some (.int .u8)) (hc : P.cellsOf t = 2) (hce : P.cellsOf e = 1) : Opn P t (Kd.seq Kd.byte Kd.byte) :=
  ⟨hc, fun {H enc w base spare held fuel cs x} h => by
    obtain ⟨xs, m, _, _, hlen, hxl, hx⟩ := DataW.trod_array ht h
    have hl : cs.length = 2 := by rw [hlen, hc]
    match cs, hl, hx with
    | [u0, u1], _, hx =>
      have g : ∀ i, i < 2 → ∃ a : UInt8, Kd.byte.R (· < w.heap.size) w a (([u0, u1].drop i).take 1) := fun i hi => by
        have h1 := hx i hi
        rw [hce, Nat.mul_one] at h1
        have hs : xs[i]? = some (xs[i]'(by omega)) := List.getElem?_eq_getElem (by omega)
        rw [hs] at h1
        exact (opn_byte he hce).open_ h1
      obtain ⟨a, ha⟩ := g 0 (by omega)
      obtain ⟨b, hb⟩ := g 1 (by omega)
      exact ⟨(a, b), [u0], [u1], rfl, ha, hb⟩⟩
end
namespace WholeHeap
set_option maxRecDepth 100000 in
theorem lifted (os : Os) (started : os.Started) (H : Type) (enc : TypeId × Value → H) :
    ReturnsInHanded {} Try.checked os 11 .any (Rows.wholeHeapSpec.pre6 enc Try.prog Try.f11 Rows.wholeHeapRow.domain false) (Rows.wholeHeapSpec.post enc Try.prog Try.f11 false true false false) := by
  refine returnsInHanded_of_change (C := Try.checked) Try.own started (by kernel_rfl) Try.func11
    (ChangeSpec.witness6 (enc := enc) (C := Try.checked) false ⟨#[], #[.slice none 0 0, .slice none 0 0], []⟩ 8 (by kernel_rfl) (by kernel_rfl) (by kernel_rfl) (by kernel_rfl)) ?_
  intro W base args ds gs before hval0 hW hcnd _
  have hval : ∀ (j : Nat) t v, Try.f11.params[j]? = some t → args[j]? = some v → Value.okWide Try.prog W .any base t v := hval0
  have hW' := hW
  obtain ⟨p, q, hA0, hV, rfl, hfz, hnd⟩ := hW
  have hA : DataW.TrodAll enc Try.prog W 0 (fun _ => true) true Try.f11.params.toList args.toList ds p := hA0
  rw [Try.params11] at hA hval
  obtain ⟨v0, vs0, d0, ds0, p0, q0, hargs, rfl, rfl, h0, r0⟩ := trodAll_cons hA
  obtain ⟨v1, vs1, d1, ds1, p1, q1, rfl, rfl, rfl, h1, r1⟩ := trodAll_cons r0
  obtain ⟨rfl, rfl, rfl⟩ := trodAll_nil r1
  obtain rfl : args = #[v0, v1] := by cases args; simp_all
  obtain ⟨rfl, rfl⟩ := trodVars_none hV
  have lt0 : ∀ x ∈ p0, x.block < W.heap.size := by obtain ⟨m, hm⟩ := h0; exact DataW.trod_lt m _ _ _ hm
  have lt1 : ∀ x ∈ p1, x.block < W.heap.size := by obtain ⟨m, hm⟩ := h1; exact DataW.trod_lt m _ _ _ hm
  obtain ⟨bls, A, c, rfl, hal, ham, har⟩ := arg_slice Try.underlying23 (opn_sl Try.underlying23 (by kernel_rfl) (opn_sl Try.underlying22 (by kernel_rfl) (opn_byte Try.underlying5 (by kernel_rfl)))) (hval 0 23 v0 rfl rfl) h0
  obtain ⟨prs, B, d, rfl, hbl, hbm, hbr⟩ := arg_slice Try.underlying61 (opn_sl Try.underlying61 (by kernel_rfl) (opn_pair Try.underlying62 Try.underlying5 (by kernel_rfl) (by kernel_rfl))) (hval 1 61 v1 rfl rfl) h1
  have walk : Calls Try.prog 11 #[.slice A bls.length c, .slice B prs.length d] W fun e w' => e = .returned (.bool true) ∧ Below W.heap.size W w' := by
    exact Heap_calls A bls c B prs d W hal ham har hbl hbm hbr
  clear hA0 hval0
  refine walk.mono fun e W' ⟨he, bel⟩ => ?_
  subst he
  exact ⟨_, rfl, _, _, _, [], _, [], hW', trodAll_mk1 (shut_bool Try.underlying4 _), (trodAll_cons_mk (Below.trod Try.laidOut (by kernel_rfl) (of_decide_eq_true (by kernel_rfl)) h0 bel lt0) (trodAll_cons_mk (Below.trod Try.laidOut (by kernel_rfl) (of_decide_eq_true (by kernel_rfl)) h1 bel lt1) trodAll_mk0)), rfl, bel.frame _, fun h => by cases h⟩

theorem over : Rows.wholeHeapRow.holds Try.pinned (OpenSpec.ofChange Rows.wholeHeapSpec) :=
  OpenClaim.holds_of_wide 11 Try.f11 rfl rfl rfl rfl rfl rfl rfl ⟨rfl, rfl, rfl, rfl, rfl⟩ rfl rfl rfl rfl rfl (by kernel_rfl) Try.func11 (by kernel_rfl)
    (of_decide_eq_true (by kernel_rfl)) (by unfold Func.isWrapper; first | (rw [if_pos (by decide +kernel)]; kernel_rfl) | (rw [if_neg (by decide +kernel)]; exact ⟨rfl, rfl⟩))
    (fun os started H enc _ => lifted os started H enc)
theorem proved : Rows.WholeHeapSaid := over
#print axioms proved
end WholeHeap
end Go.Proofs.Ythcbjhmckbfkmaa
