/- BlockSums, walked. -/
import Derived.Test.YthcbjhmckbfkmaaBlockLaws
import Derived.Deep.RegionHeld
set_option linter.unusedVariables false
set_option linter.unusedSimpArgs false
namespace Go.Proofs.Ythcbjhmckbfkmaa
open Go.RowKit

theorem sums_calls (n : Int) (B : Option Addr) (l : List (List UInt8)) (d : Nat) (w : World) (hn : -9223372036854775808 ≤ n) (hn' : n ≤ 9223372036854775807) (hd : d ≤ maxLen) (hdl : l.length ≤ d) (hb : RdL (Kd.sl Kd.byte) (· < w.heap.size) w B l) :
    Calls Try.prog 5 #[.int .i64 n, .slice B l.length d] w fun e w' => e = .returned (.bool true) ∧ Below w.heap.size w w' := by
  refine cps fun R hR => ?_
  go_enter Try.func5, Try.ntmps5
  go_wp2_with fail
  refine (speaks_calls w).mono ?_
  rintro e w1 ⟨rfl, hb1⟩
  replace hb := (hb.below hb1).mono fun k h => Nat.lt_of_lt_of_le h hb1.size
  go_wp2_with fail
  have hbig := big_calls B l d _ w1 hd hdl hb
  cases hB : bigB l
  case true =>
    rw [hB] at hbig
    refine hbig.mono ?_
    rintro e w2 ⟨rfl, rfl⟩
    clear hbig hb
    go_wp2_with fail
    exact hR.out _ _ ⟨rfl, hb1⟩
  rw [hB] at hbig
  refine hbig.mono ?_
  rintro e w2 ⟨rfl, rfl⟩
  clear hbig
  by_cases hbn : 200 < n
  · clear hb
    go_wp2_with fail
    exact hR.out _ _ ⟨rfl, hb1⟩
  go_wp2_with fail
  cases hf : fitsB n l
  case false =>
    have hno : ¬ (0 ≤ n ∧ ∀ b ∈ l, (b.length : Int) = n) := fun h => by rw [(fitsB_iff n l).2 h] at hf; cases hf
    refine (sum_no n B l d _ w1 (by omega) hd hdl hno hb fun _ h => h).mono ?_
    rintro e w3 ⟨rfl, hb3⟩
    have hfc := fits_calls n B l d _ w3 hd hdl (hb.below hb3)
    rw [hf] at hfc
    have hb3' := hb1.trans (hb3.mono hb1.size)
    have Hfc := hide hfc
    clear hfc hno hf hb
    go_wp2_with fail
    refine Hfc.out.mono ?_
    rintro e w4 ⟨rfl, rfl⟩
    go_wp2_with fail
    exact hR.out _ _ ⟨rfl, hb3'⟩
  obtain ⟨h0, hall⟩ := (fitsB_iff n l).1 hf
  obtain ⟨m, rfl⟩ := Int.eq_ofNat_of_zero_le h0
  replace hall : ∀ b ∈ l, b.length = m := fun b hb => by have := hall b hb; omega
  refine (sum_yes m B l d _ w1 (by omega) hd hdl hall hb fun _ h => h).mono ?_
  rintro e w3 ⟨rfl, hw3, hs3, hb3⟩
  have hb3' := hb1.trans (hb3.mono hb1.size)
  replace hb := (hb.below hb3).mono fun k h => Nat.lt_trans h hs3
  have hfc := fits_calls m B l d _ w3 hd hdl hb
  rw [hf] at hfc
  have Hfc := hide hfc
  have Hall := hide hall
  have hlen := sumL_len m l (zs m) (by simp [zs]) hall
  have hsum : sumL (List.replicate m 0) l = sumL (zs m) l := rfl
  rw [hsum] at hw3
  clear hfc hf hall hsum
  generalize hr : sumL (zs m) l = r at hw3 hlen
  have Hr := hide hr
  have Hlen := hide hlen
  clear hr hlen
  go_wp2_with fail
  refine Hfc.out.mono ?_
  rintro e w4 ⟨rfl, rfl⟩
  generalize w1.heap.size = g at hw3 hs3
  go_wp2_with fail
  have hgz : g < w3.heap.size := hs3
  have Hk := hide (show ∀ x, Below w3.heap.size w3 x → (convert 22 9 (.slice (some ⟨g, 0, none⟩) m m)).run Try.prog x = .ok (.string (bstr r)) x ∧ Wr x (some ⟨g, 0, none⟩) g [] [] 5 r from fun x hx => by
    have h := hw3.keep (hx.block g hgz)
    have e := run_str (P := Try.prog) (w := x) Try.underlying22 Try.underlying5 Try.underlying9 h.src m
    rw [Hlen.out] at e
    exact ⟨e, h⟩)
  have Hz1 := hide (show ∀ x, Wr x (some ⟨g, 0, none⟩) g [] [] 5 r → Calls Try.prog 19 #[.slice (some ⟨g, 0, none⟩) m m] x fun e' w' => e' = .returned (.bool (zeroB r)) ∧ x = w' from fun x hx => by
    have h := zero_calls (some ⟨g, 0, none⟩) r m _ x (by unfold maxLen; omega) (by rw [Hlen.out]; exact Nat.le_refl _) hx.rd
    rwa [Hlen.out] at h)
  have Hz2 := hide (show ∀ x, Wr x (some ⟨g, 0, none⟩) g [] [] 5 r → Calls Try.prog 17 #[.slice (some ⟨g, 0, none⟩) m m] x fun e' w' => e' = .returned (.bool (zeroB r)) ∧ x = w' from fun x hx => by
    have h := refzero_calls (some ⟨g, 0, none⟩) r m _ x (by unfold maxLen; omega) (by rw [Hlen.out]; exact Nat.le_refl _) hx.rd
    rwa [Hlen.out] at h)
  have Hstr := hide (show ∀ x, Wr x (some ⟨w3.heap.size, 0, none⟩) w3.heap.size [] [] 5 (sumL (zs m) l) → (convert 22 9 (.slice (some ⟨w3.heap.size, 0, none⟩) m m)).run Try.prog x = .ok (.string (bstr r)) x from fun x hx => by
    rw [Hr.out] at hx
    have e := run_str (P := Try.prog) (w := x) Try.underlying22 Try.underlying5 Try.underlying9 hx.src m
    rwa [Hlen.out] at e)
  have Hs := hide (refsum_calls m B l d _ w3.drew (by omega) hd hdl Hall.out hb fun _ h => h)
  generalize zeroB r = z at Hz1 Hz2
  have Hd : Hid (Below w3.heap.size w3 w3.drew) := hide (Below.refl _ _).drew
  generalize bstr r = str at Hk Hstr
  go_region_held (fun x => (convert 22 9 (.slice (some ⟨g, 0, none⟩) m m)).run Try.prog x = .ok (.string str) x) (first
    | exact (Hk.out _ Hd.out).1
    | exact (Hk.out _ (by assumption)).1) (first
    | (go_at_call 16
       refine Hs.out.mono ?_
       rintro e w5 ⟨rfl, hw5, hs5, hb5⟩
       have Hb5 : Below w3.heap.size w3 w5 := ⟨hb5.os, hb5.tape, hb5.output, hb5.size, hb5.block⟩
       have hc5 := Hstr.out w5 hw5
       have Hwr := (Hk.out _ Hb5).2
       have hb5' := hb3'.trans (Hb5.mono hb3'.size)
       clear hb5 hw5)
    | (go_at_call 19
       refine (Hz1.out w5 Hwr).mono ?_
       rintro e w6 ⟨rfl, rfl⟩)
    | (go_at_call 17
       refine (Hz2.out w5 Hwr).mono ?_
       rintro e w6 ⟨rfl, rfl⟩))
  go_wp2_with fail
  exact hR.out _ _ ⟨rfl, hb5'⟩
end Go.Proofs.Ythcbjhmckbfkmaa
