/- Are two packets one? They are, if they have the same numbers and bytes. -/
import Derived.Test.YtopfpadfjfmmiaaFrameRenc
import Derived.Laws.StructEq
set_option linter.unusedVariables false
set_option linter.unusedSimpArgs false
namespace Go.Proofs.Ytopfpadfjfmmiaa
open Go.RowKit

theorem psame_calls (s d N B Q E F len : Int) (A1 A2 : Option Addr) (pl : List UInt8) (n c1 c2 : Nat) (S : Nat → Prop) (w : World) (hn : pl.length = n) (h1 : RdL Kd.byte S w A1 pl) (h2 : RdL Kd.byte S w A2 pl) (hS : ∀ k, S k → k < w.heap.size) :
    Calls Try.prog 13 #[.agg #[.int .u64 s, .int .i64 N, .int .i64 B, .int .i64 Q, .int .i64 E, .int .i64 F, .int .i64 len, .int .u64 d, .slice A1 n c1], .agg #[.int .u64 s, .int .i64 N, .int .i64 B, .int .i64 Q, .int .i64 E, .int .i64 F, .int .i64 len, .int .u64 d, .slice A2 n c2]] w fun e w' => e = .returned (.bool true) ∧ Below w.heap.size w w' := by
  refine cps fun R hR => ?_
  have hb := hide (((balloc w (.cells #[.int .u64 s, .int .i64 N, .int .i64 B, .int .i64 Q, .int .i64 E, .int .i64 F, .int .i64 len, .int .u64 d, .slice A1 n c1] 32)).alloc (by simp) (.cells #[.int .u64 s, .int .i64 N, .int .i64 B, .int .i64 Q, .int .i64 E, .int .i64 F, .int .i64 len, .int .u64 d, .slice A2 n c2] 32)))
  have r1 := run_str (P := Try.prog) Try.underlying22 Try.underlying5 Try.underlying9 (h1.keep fun k hk => hb.out.block k (hS k hk)).srcB c1
  have r2 := run_str (P := Try.prog) Try.underlying22 Try.underlying5 Try.underlying9 (h2.keep fun k hk => hb.out.block k (hS k hk)).srcB c2
  rw [hn] at r1 r2
  generalize bstr pl = str at r1 r2
  clear h1 h2
  go_enter Try.func13, Try.ntmps13
  go_wp2_with fail
  exact hR.out _ _ ⟨rfl, hb.out⟩
end Go.Proofs.Ytopfpadfjfmmiaa
