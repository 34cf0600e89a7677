/- The row's steps that all laws share: arguments open, the row shuts. -/
import Derived.Test.YtfkofhdgokhodaaRows
import Derived.Test.YtfkofhdgokhodaaBase
import Derived.SizedLaws
set_option linter.unusedVariables false
set_option linter.unusedSimpArgs false
namespace Go.Proofs.Ytfkofhdgokhodaa
open Go.ChangeShapes Go.WideShapes Go.ChangeAt Go.RowKit
open Go.ChangeMaps (open_string shut_string)

theorem Try.own : ownKnob Try.prog.godebug = none := by kernel_rfl
theorem Try.laidOut : laidOutB Try.prog = true := by kernel_rfl

section
variable {H : Type} {enc : TypeId × Value → H} {P : Program} {W : World} {base : Nat} {spare : Nat → Bool} {held : Bool} {r : Reach} {b0 : Nat} {t : TypeId} {v : Value} {y : DataW H} {ps : List MemPlace} {α : Type} {d : Kd α}
theorem arg_struct {fs : Array Field} (ht : P.underlying t = some (.struct fs)) (o : Opn P t d) (hv : Value.okWide P W r b0 t v) (h : DataW.Trod enc P W base spare held t v y ps) :
    ∃ (a : α) (cs : List Value), v = .agg cs.toArray ∧ d.R (· < W.heap.size) W a cs := by
  obtain ⟨cs, rfl, _⟩ := okWide_struct ht hv
  obtain ⟨a, ha⟩ := o.of_Trod h
  exact ⟨a, cs.toList, by simp, ha⟩
theorem arg_slice {e : TypeId} {d : Kd α} (ht : P.underlying t = some (.slice e)) (o : Opn P t (Kd.sl d)) (hv : Value.okWide P W r b0 t v) (h : DataW.Trod enc P W base spare held t v y ps) :
    ∃ (xs : List α) (A : Option Addr) (c : Nat), v = .slice A xs.length c ∧ xs.length ≤ c ∧ c ≤ maxLen ∧ RdL d (· < W.heap.size) W A xs := by
  obtain ⟨a0, len0, cap0, rfl⟩ := okWide_slice ht hv
  obtain ⟨xs, A, c, he, h1, h2, h3⟩ := o.of_Trod h
  simp only [Value.cells] at he
  injection he with he
  exact ⟨xs, A, c, he, h1, h2, h3⟩
theorem arg_len {e : TypeId} {A : Option Addr} {n c j : Nat} {ts : List TypeId} {ds : List (DataW H)} (ht : P.underlying t = some (.slice e)) (h : DataW.Trod enc P W base spare held t (.slice A n c) y ps)
    (hz : (DataW.weightsEach P ts ds).all (· ≤ reachBytes) = true) (hts : ts[j]? = some t) (hds : ds[j]? = some y) : n * P.bytesOf e ≤ reachBytes := by
  obtain ⟨m, hm⟩ := h
  rcases Go.Deep.open_slice ht hm with ⟨h0, _⟩ | ⟨a, len, cap, m, k, D, Pl, hcs, _, _, _, _, hx, _⟩
  · simp only [Value.cells] at h0
    injection h0 with h0 _
    injection h0 with _ h0 _
    subst h0; simp
  · simp only [Value.cells] at hcs
    injection hcs with hcs _
    injection hcs with _ hcs _
    subst hcs
    injection hx with hx _
    subst hx
    have := sized_slice hz hts hds ht
    refine Nat.le_trans (Nat.mul_le_mul_right _ ?_) this
    simp
theorem arg_int {k : IntKind} (ht : P.underlying t = some (.int k)) (hv : Value.okWide P W r b0 t v) (h : DataW.Trod enc P W base spare held t v y ps) : ∃ n, v = .int k n ∧ (Lit.int k n).wf = true := by
  obtain ⟨n, rfl, _, _, w⟩ := open_int ht hv h
  exact ⟨n, rfl, w⟩
theorem arg_u64 (ht : P.underlying t = some (.int .u64)) (hv : Value.okWide P W r b0 t v) (h : DataW.Trod enc P W base spare held t v y ps) : ∃ x : UInt64, v = .int .u64 (x.toNat : Int) := by
  obtain ⟨n, rfl, _, _, w⟩ := open_int ht hv h
  have hb := bounds_u64 w
  have e : ((UInt64.ofNat n.toNat).toNat : Int) = n := by
    rw [UInt64.toNat_ofNat']
    omega
  exact ⟨UInt64.ofNat n.toNat, congrArg (Value.int .u64) e.symm⟩
theorem arg_u32 (ht : P.underlying t = some (.int .u32)) (hv : Value.okWide P W r b0 t v) (h : DataW.Trod enc P W base spare held t v y ps) : ∃ x : UInt32, v = .int .u32 (x.toNat : Int) := by
  obtain ⟨n, rfl, _, _, w⟩ := open_int ht hv h
  have hb := bounds_u32 w
  have e : ((UInt32.ofNat n.toNat).toNat : Int) = n := by
    rw [UInt32.toNat_ofNat']
    omega
  exact ⟨UInt32.ofNat n.toNat, congrArg (Value.int .u32) e.symm⟩
theorem arg_arr3 {e : TypeId} {k : IntKind} (ht : P.underlying t = some (.array 3 e)) (he : P.underlying e = some (.int k)) (hc : P.cellsOf t = 3) (hce : P.cellsOf e = 1) (hv : Value.okWide P W r b0 t v) (h : DataW.Trod enc P W base spare held t v y ps) :
    ∃ a b c, v = .agg #[.int k a, .int k b, .int k c] ∧ (Lit.int k a).wf = true ∧ (Lit.int k b).wf = true ∧ (Lit.int k c).wf = true := by
  obtain ⟨cs, rfl, hsz⟩ : ∃ cs, v = .agg cs ∧ cs.size = P.cellsOf t := by
    simp only [Value.okWide, ht] at hv
    obtain ⟨cs, h1, h2, _⟩ := hv
    exact ⟨cs, h1, h2⟩
  obtain ⟨fuel, hf⟩ := h
  obtain ⟨xs, m, _, _, hlen, hxl, hx⟩ := DataW.trod_array ht hf
  obtain ⟨l⟩ := cs
  have hl : l.length = 3 := by simpa [hc] using hsz
  match l, hl with
  | [u0, u1, u2], _ =>
    have g : ∀ i, i < 3 → ∃ n, ([u0, u1, u2].drop i).take 1 = [.int k n] ∧ (Lit.int k n).wf = true := fun i hi => by
      have := hx i hi
      rw [hce, Nat.mul_one] at this
      have hs : xs[i]? = some (xs[i]'(by omega)) := List.getElem?_eq_getElem (by omega)
      rw [hs] at this
      obtain ⟨n, h1, _, h2⟩ := DataW.trod_int he this
      exact ⟨n, by simpa [Value.cells] using h1, h2⟩
    obtain ⟨a, e0, w0⟩ := g 0 (by omega)
    obtain ⟨b, e1, w1⟩ := g 1 (by omega)
    obtain ⟨c, e2, w2⟩ := g 2 (by omega)
    simp at e0 e1 e2
    subst e0; subst e1; subst e2
    exact ⟨a, b, c, rfl, w0, w1, w2⟩
end
theorem opnParams : Opn Try.prog 23 (Kd.seq (Kd.int .i64) (Kd.seq (Kd.int .i64) (Kd.seq (Kd.int .i64) (Kd.seq (Kd.int .i64) (Kd.int .i64))))) :=
  opn_struct Try.underlying23 (by kernel_rfl) (opnF_cons rfl (opn_int Try.underlying3 (by kernel_rfl)) (opnF_cons rfl (opn_int Try.underlying3 (by kernel_rfl)) (opnF_cons rfl (opn_int Try.underlying3 (by kernel_rfl)) (opnF_cons rfl (opn_int Try.underlying3 (by kernel_rfl)) (opnF_last rfl (opn_int Try.underlying3 (by kernel_rfl)))))))
end Go.Proofs.Ytfkofhdgokhodaa
