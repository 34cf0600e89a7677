/- WireParts, walked. -/
import Derived.Test.YtopfpadfjfmmiaaFWirePut
import Derived.Deep.Cut
import Derived.Deep.CutRange
import Derived.Deep.RegionHeldLaw
import Derived.StillTailTactics
set_option linter.unusedVariables false
set_option linter.unusedSimpArgs false
namespace Go.Proofs.Ytopfpadfjfmmiaa
open Go.RowKit

theorem lit1b {S : Nat → Prop} {w : World} {A : Option Addr} {xs : List UInt8} {n c : Nat} (hn : xs.length = n) (hc : n ≤ c) (hm : c ≤ maxLen) (h : RdL Kd.byte S w A xs) (hS : ∀ k, S k → k < w.heap.size) (e : TypeId) :
    RdL (Kd.sl Kd.byte) (fun k => S k ∨ k = w.heap.size) (w.alloc (.cells #[.slice A n c] e)) (some ⟨w.heap.size, 0, none⟩) [xs] := by
  subst hn
  refine RdL.block1 rfl (heap_alloc_new w _) (.inr rfl) (fun i x hx => ?_)
  match i, hx with
  | 0, hx =>
    simp at hx; subst hx
    exact ⟨_, rfl, A, c, rfl, hc, hm, (h.keep fun k hk => (balloc w _).block k (hS k hk)).mono fun k hk => .inl hk⟩
  | n + 1, hx => simp at hx
end Go.Proofs.Ytopfpadfjfmmiaa
