/- CrcConstant, walked. -/
import Derived.Test.YtoiojkjmldlhcaaCrcLaws
set_option linter.unusedVariables false
set_option linter.unusedSimpArgs false
namespace Go.Proofs.Ytoiojkjmldlhcaa
open Go.RowKit

set_option maxHeartbeats 1000000 in
theorem CrcConstant_calls (A : Option Addr) (a : List UInt8) (c : Nat) (B : Option Addr) (b : List UInt8) (d : Nat) (w : World) (hcm : c ≤ maxLen) (hcl : a.length ≤ c) (har : RdL Kd.byte (· < w.heap.size) w A a)
    (hdm : d ≤ maxLen) (hdl : b.length ≤ d) (hbr : RdL Kd.byte (· < w.heap.size) w B b) :
    Calls Try.prog 11 #[.slice A a.length c, .slice B b.length d] w fun e w' => e = .returned (.bool true) ∧ Below w.heap.size w w' := by
  refine cps fun R hR => ?_
  have hcm' := hcm
  have hdm' := hdm
  unfold maxLen at hcm' hdm'
  have Ha := hide har
  have Hb := hide hbr
  clear har hbr
  generalize hn : a.length = n at *
  generalize hm : b.length = m at *
  have Hn := hide hn
  have Hm := hide hm
  clear hn hm
  go_enter Try.func11, Try.ntmps11
  go_wp2_with fail
  refine (crcspeaks_calls w).mono ?_
  rintro e w1 ⟨rfl, hb1⟩
  by_cases h5 : 500 < n
  · go_wp2_with fail
    exact hR.out _ _ ⟨rfl, hb1⟩
  by_cases h6 : 500 < m
  · go_wp2_with fail
    exact hR.out _ _ ⟨rfl, hb1⟩
  go_wp2_with fail
  refine (new_calls w1).mono ?_
  rintro e w2 ⟨rfl, ht2, hb2, hlt2⟩
  have s1 := hb1.size
  have hb02 := hb1.trans (hb2.mono s1)
  have s2 := hb02.size
  have h3 := hide (seal_ret ht2 Hn.out hcl hcm (by omega) (Ha.out.below hb02) (fun k hk => Nat.lt_of_lt_of_le hk s2))
  generalize w1.heap.size = g at *
  clear ht2 hb2 hlt2 hb1
  have hk := hide crcS_seal
  generalize (~~~ sealC) = K at hk
  have hq : ((K.toNat : Int) == (K.toNat : Int)) = true := by simp
  go_wp2_with fail
  refine h3.out.mono ?_
  rintro e w3 ⟨A3, c3, rfl, l3, m3, r3, b3, t3⟩
  have b03 := hb02.trans (b3.mono s2)
  have s3 := b03.size
  have h4 := hide (sum_one t3 (by rw [sealL_len, Hn.out]) l3 m3 r3 (fun k hk => hk) (o := .cells #[.slice A3 (n + 4) c3] 24) rfl)
  rw [hk.out] at h4
  have b04 := b03.alloc s3 (.cells #[.slice A3 (n + 4) c3] 24)
  have t4 := t3.keep ((balloc w3 (.cells #[.slice A3 (n + 4) c3] 24)).block g t3.lt)
  have s4 := b04.size
  have h5' := hide (seal_ret t4 Hm.out hdl hdm (by omega) (Hb.out.below b04) (fun k hk => Nat.lt_of_lt_of_le hk s4))
  have T4 := hide t4
  have B4 := hide b04
  have S4 := hide s4
  clear r3 b3 t3 t4 b04 s4 h3
  go_wp2_with fail
  refine h4.out.mono ?_
  rintro e w5 ⟨rfl, rfl⟩
  go_wp2_with fail
  refine h5'.out.mono ?_
  rintro e w5 ⟨A5, c5, rfl, l5, m5, r5, b5, t5⟩
  have b05 := hide (B4.out.trans (b5.mono S4.out))
  have s5 := b05.out.size
  have h6' := hide (sum_one t5 (by rw [sealL_len, Hm.out]) l5 m5 r5 (fun k hk => hk) (o := .cells #[.slice A5 (m + 4) c5] 24) rfl)
  rw [hk.out] at h6'
  have b06 := hide (b05.out.alloc s5 (.cells #[.slice A5 (m + 4) c5] 24))
  have t6 := hide (t5.keep ((balloc w5 (.cells #[.slice A5 (m + 4) c5] 24)).block g t5.lt))
  have h7 := hide (seal_ret t6.out Hn.out hcl hcm (by omega) (Ha.out.below b06.out) (fun k hk => Nat.lt_of_lt_of_le hk b06.out.size))
  clear r5 b5 t5 h4 h5'
  go_wp2_with fail
  refine h6'.out.mono ?_
  rintro e w7 ⟨rfl, rfl⟩
  go_wp2_with fail
  refine h7.out.mono ?_
  rintro e w7 ⟨A7, c7, rfl, l7, m7, r7, b7, t7⟩
  have b07 := hide (b06.out.trans (b7.mono b06.out.size))
  have s7 := b07.out.size
  have h8 := hide (sum_one t7 (by rw [sealL_len, Hn.out]) l7 m7 r7 (fun k hk => hk) (o := .cells #[.slice A7 (n + 4) c7] 24) rfl)
  rw [hk.out] at h8
  have b08 := hide (b07.out.alloc s7 (.cells #[.slice A7 (n + 4) c7] 24))
  have t8 := hide (t7.keep ((balloc w7 (.cells #[.slice A7 (n + 4) c7] 24)).block g t7.lt))
  have h9 := hide (seal_ret (b := []) (n := 0) (c := 0) (A := none) (S := fun _ => False) t8.out rfl (by simp) (by simp) (by omega) RdL.nil (fun k hk => hk.elim))
  rw [Nat.zero_add] at h9
  clear r7 b7 t7 h6' h7
  go_wp2_with fail
  refine h8.out.mono ?_
  rintro e w9 ⟨rfl, rfl⟩
  go_wp2_with fail
  refine h9.out.mono ?_
  rintro e w9 ⟨A9, c9, rfl, l9, m9, r9, b9, t9⟩
  have b09 := hide (b08.out.trans (b9.mono b08.out.size))
  have h10 := hide (sum_one t9 (by rw [sealL_len]; rfl) l9 m9 r9 (fun k hk => hk) (o := .cells #[.slice A9 4 c9] 24) rfl)
  rw [hk.out] at h10
  clear r9 b9 t9 h8 h9
  go_wp2_with fail
  refine h10.out.mono ?_
  rintro e w10 ⟨rfl, rfl⟩
  go_wp2_with fail
  exact hR.out _ _ ⟨rfl, b09.out.alloc b09.out.size _⟩
end Go.Proofs.Ytoiojkjmldlhcaa
