/- WireReads, walked. -/
import Derived.Test.YtopfpadfjfmmiaaFWireLaws
set_option linter.unusedVariables false
set_option linter.unusedSimpArgs false
namespace Go.Proofs.Ytopfpadfjfmmiaa
open Go.RowKit

theorem Rea.blt {w : World} {g c : Nat} {A : Option Addr} {bs : List UInt8} {S : Nat → Prop} (h : Rea w g A c bs S) {b : Nat} (hb : b = g ∨ S b) : b < w.heap.size := hb.elim (fun e => e ▸ h.glt) (h.lt b)
theorem Rea.drew {w : World} {g c : Nat} {A : Option Addr} {bs : List UInt8} {S : Nat → Prop} (h : Rea w g A c bs S) (q : Nat) : Rea (w.drewN q) g A c bs S := ⟨h.head, h.le, h.max, h.rd.keep fun _ _ => rfl, h.ne, h.lt⟩
theorem RdL.mid {S : Nat → Prop} {w : World} {B : Option Addr} {bs : List UInt8} {c : Nat} (h : RdL Kd.byte S w B bs) (q m : Nat) (hq : q + m ≤ bs.length) (hc : bs.length ≤ c) : RdL Kd.byte S w (dropA B c q) ((bs.drop q).take m) := by
  have hd := (h.drop q c (by omega) hc).take m
  rwa [show q * Kd.byte.sz = q from Nat.mul_one q] at hd

end Go.Proofs.Ytopfpadfjfmmiaa
