/- The statement FrameHarms: for any packet and harm the law returns true and leaves its arguments as they were. No condition. -/
import Derived.Test.YtopfpadfjfmmiaaRow
import Derived.Test.YtopfpadfjfmmiaaFrameHarms
set_option linter.unusedVariables false
namespace Go.Proofs.Ytopfpadfjfmmiaa
open Go.ChangeShapes Go.WideShapes Go.ChangeAt Go.RowKit
open Go.ChangeMaps (open_string shut_string)
theorem arg_harm {H : Type} {enc : TypeId × Value → H} {W : World} {base : Nat} {spare : Nat → Bool} {held : Bool} {r : Reach} {b0 : Nat} {v : Value} {y : DataW H} {ps : List MemPlace} (hv : Value.okWide Try.prog W r b0 50 v) (h : DataW.Trod enc Try.prog W base spare held 50 v y ps) :
    ∃ (pt : Nat) (mk : UInt32) (cut : Nat) (M : Option Addr) (mo : List UInt8) (d : Nat), v = .agg #[.int .u16 (pt : Int), .int .u32 (mk.toNat : Int), .int .u8 (cut : Int), .slice M mo.length d] ∧ pt ≤ 65535 ∧ cut ≤ 255 ∧ mo.length ≤ d ∧ d ≤ maxLen ∧ RdL Kd.byte (· < W.heap.size) W M mo := by
  obtain ⟨a, cs, rfl, R⟩ := arg_struct (d := Kd.seq (Kd.int .u16) (Kd.seq Kd.u32 (Kd.seq (Kd.int .u8) (Kd.sl Kd.byte)))) Try.underlying50 (opn_struct Try.underlying50 (by kernel_rfl) (opnF_cons rfl (opn_int Try.underlying47 (by kernel_rfl)) (opnF_cons rfl (opn_u32 Try.underlying48 (by kernel_rfl)) (opnF_cons rfl (opn_int Try.underlying5 (by kernel_rfl)) (opnF_last rfl (opn_sl Try.underlying22 (by kernel_rfl) (opn_byte Try.underlying5 (by kernel_rfl)))))))) hv h
  obtain ⟨pt, mk, cut, mo⟩ := a
  obtain ⟨_, _, rfl, ⟨_, rfl, rfl, wpt⟩, _, _, rfl, ⟨_, rfl, rfl⟩, _, _, rfl, ⟨_, rfl, rfl, wcut⟩, A, c, rfl, h1, h2, h3⟩ := R
  have b1 : 0 ≤ pt ∧ pt ≤ 65535 := bounds_u16 wpt
  have b2 : 0 ≤ cut ∧ cut ≤ 255 := bounds_u8 wcut
  exact ⟨pt.toNat, mk, cut.toNat, A, mo, c, by rw [Int.toNat_of_nonneg b1.1, Int.toNat_of_nonneg b2.1]; rfl, by omega, by omega, h1, h2, h3⟩
namespace FrameHarms
set_option maxRecDepth 100000 in
theorem lifted (os : Os) (started : os.Started) (H : Type) (enc : TypeId × Value → H) :
    ReturnsInHanded {} Try.checked os 5 .any (Rows.frameHarmsSpec.pre6 enc Try.prog Try.f5 Rows.frameHarmsRow.domain false) (Rows.frameHarmsSpec.post enc Try.prog Try.f5 false true false false) := by
  refine returnsInHanded_of_change (C := Try.checked) Try.own started (by kernel_rfl) Try.func5
    (ChangeSpec.witness6 (enc := enc) (C := Try.checked) false ⟨#[], #[.agg #[.int .u64 0, .int .i64 0, .int .i64 0, .int .i64 0, .int .i64 0, .int .i64 0, .int .i64 0, .int .u64 0, .slice none 0 0], .agg #[.int .u16 0, .int .u32 0, .int .u8 0, .slice none 0 0]], []⟩ 8 (by kernel_rfl) (by kernel_rfl) (by kernel_rfl) (by kernel_rfl)) ?_
  intro W base args ds gs before hval0 hW hcnd _
  have hval : ∀ (j : Nat) t v, Try.f5.params[j]? = some t → args[j]? = some v → Value.okWide Try.prog W .any base t v := hval0
  have hW' := hW
  obtain ⟨p, q, hA0, hV, rfl, hfz, hnd⟩ := hW
  have hA : DataW.TrodAll enc Try.prog W 0 (fun _ => true) true Try.f5.params.toList args.toList ds p := hA0
  rw [Try.params5] at hA hval
  obtain ⟨v0, vs0, d0, ds0, p0, q0, hargs, rfl, rfl, h0, r0⟩ := trodAll_cons hA
  obtain ⟨v1, vs1, d1, ds1, p1, q1, rfl, rfl, rfl, h1, r1⟩ := trodAll_cons r0
  obtain ⟨rfl, rfl, rfl⟩ := trodAll_nil r1
  obtain rfl : args = #[v0, v1] := by cases args; simp_all
  obtain ⟨rfl, rfl⟩ := trodVars_none hV
  have lt0 : ∀ x ∈ p0, x.block < W.heap.size := by obtain ⟨m, hm⟩ := h0; exact DataW.trod_lt m _ _ _ hm
  have lt1 : ∀ x ∈ p1, x.block < W.heap.size := by obtain ⟨m, hm⟩ := h1; exact DataW.trod_lt m _ _ _ hm
  obtain ⟨se, id, N, B, Q, E, F, len, A, pl, c, rfl, hpl, hpm, hpr⟩ := arg_packet (hval 0 32 v0 rfl rfl) h0
  obtain ⟨pt, mk, cut, M, mo, d, rfl, hpt, hcut, hml, hmm, hmr⟩ := arg_harm (hval 1 50 v1 rfl rfl) h1
  have walk : Calls Try.prog 5 #[.agg #[.int .u64 (se.toNat : Int), .int .i64 N, .int .i64 B, .int .i64 Q, .int .i64 E, .int .i64 F, .int .i64 len, .int .u64 (id.toNat : Int), .slice A pl.length c], .agg #[.int .u16 (pt : Int), .int .u32 (mk.toNat : Int), .int .u8 (cut : Int), .slice M mo.length d]] W fun e w' => e = .returned (.bool true) ∧ Below W.heap.size W w' := by
    exact Harms_calls se id N B Q E F len A pl c pt mk cut M mo d W hpm hpl hpr hpt hcut hmm hml hmr
  clear hA0 hval0
  refine walk.mono fun e W' ⟨he, bel⟩ => ?_
  subst he
  exact ⟨_, rfl, _, _, _, [], _, [], hW', trodAll_mk1 (shut_bool Try.underlying4 _), (trodAll_cons_mk (Below.trod Try.laidOut (by kernel_rfl) (of_decide_eq_true (by kernel_rfl)) h0 bel lt0) (trodAll_cons_mk (Below.trod Try.laidOut (by kernel_rfl) (of_decide_eq_true (by kernel_rfl)) h1 bel lt1) trodAll_mk0)), rfl, bel.frame _, fun h => by cases h⟩

theorem over : Rows.frameHarmsRow.holds Try.pinned (OpenSpec.ofChange Rows.frameHarmsSpec) :=
  OpenClaim.holds_of_wide 5 Try.f5 rfl rfl rfl rfl rfl rfl rfl ⟨rfl, rfl, rfl, rfl, rfl⟩ rfl rfl rfl rfl rfl (by kernel_rfl) Try.func5 (by kernel_rfl)
    (of_decide_eq_true (by kernel_rfl)) (by unfold Func.isWrapper; first | (rw [if_pos (by decide +kernel)]; kernel_rfl) | (rw [if_neg (by decide +kernel)]; exact ⟨rfl, rfl⟩))
    (fun os started H enc _ => lifted os started H enc)
theorem proved : Rows.FrameHarmsSaid := over
#print axioms proved
end FrameHarms
end Go.Proofs.Ytopfpadfjfmmiaa
