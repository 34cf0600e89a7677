/- A packet that is handed in. -/
import Derived.Test.YtopfpadfjfmmiaaFrameSpeaks
import Derived.Test.YtopfpadfjfmmiaaRow
set_option linter.unusedVariables false
set_option linter.unusedSimpArgs false
namespace Go.Proofs.Ytopfpadfjfmmiaa
open Go.ChangeShapes Go.WideShapes Go.ChangeAt Go.RowKit

theorem opnHeader : Opn Try.prog 30 (Kd.seq Kd.u64 (Kd.seq (Kd.seq (Kd.int .i64) (Kd.seq (Kd.int .i64) (Kd.seq (Kd.int .i64) (Kd.seq (Kd.int .i64) (Kd.int .i64))))) (Kd.seq (Kd.int .i64) Kd.u64))) :=
  opn_struct Try.underlying30 (by kernel_rfl) (opnF_cons rfl (opn_u64 Try.underlying26 (by kernel_rfl)) (opnF_cons rfl opnParams (opnF_cons rfl (opn_int Try.underlying3 (by kernel_rfl)) (opnF_last rfl (opn_u64 Try.underlying26 (by kernel_rfl))))))
theorem opnPacket : Opn Try.prog 32 (Kd.seq (Kd.seq Kd.u64 (Kd.seq (Kd.seq (Kd.int .i64) (Kd.seq (Kd.int .i64) (Kd.seq (Kd.int .i64) (Kd.seq (Kd.int .i64) (Kd.int .i64))))) (Kd.seq (Kd.int .i64) Kd.u64))) (Kd.sl Kd.byte)) :=
  opn_struct Try.underlying32 (by kernel_rfl) (opnF_cons rfl opnHeader (opnF_last rfl (opn_sl Try.underlying22 (by kernel_rfl) (opn_byte Try.underlying5 (by kernel_rfl)))))
section
variable {H : Type} {enc : TypeId × Value → H} {W : World} {base : Nat} {spare : Nat → Bool} {held : Bool} {r : Reach} {b0 : Nat} {v : Value} {y : DataW H} {ps : List MemPlace}
theorem arg_packet (hv : Value.okWide Try.prog W r b0 32 v) (h : DataW.Trod enc Try.prog W base spare held 32 v y ps) :
    ∃ (se id : UInt64) (N B Q E F len : Int) (A : Option Addr) (pl : List UInt8) (c : Nat),
      v = .agg #[.int .u64 (se.toNat : Int), .int .i64 N, .int .i64 B, .int .i64 Q, .int .i64 E, .int .i64 F, .int .i64 len, .int .u64 (id.toNat : Int), .slice A pl.length c] ∧ pl.length ≤ c ∧ c ≤ maxLen ∧ RdL Kd.byte (· < W.heap.size) W A pl := by
  obtain ⟨a, cs, rfl, R⟩ := arg_struct Try.underlying32 opnPacket hv h
  obtain ⟨⟨se, ⟨N, B, Q, E, F⟩, len, id⟩, pl⟩ := a
  obtain ⟨_, _, rfl, ⟨_, _, rfl, ⟨_, rfl, rfl⟩, _, _, rfl, ⟨_, _, rfl, ⟨_, rfl, rfl, wN⟩, _, _, rfl, ⟨_, rfl, rfl, wB⟩, _, _, rfl, ⟨_, rfl, rfl, wQ⟩, _, _, rfl, ⟨_, rfl, rfl, wE⟩, _, rfl, rfl, wF⟩, _, _, rfl, ⟨_, rfl, rfl, wL⟩, _, rfl, rfl⟩, A, c, rfl, h1, h2, h3⟩ := R
  exact ⟨se, id, N, B, Q, E, F, len, A, pl, c, rfl, h1, h2, h3⟩
end
end Go.Proofs.Ytopfpadfjfmmiaa
