/- What is done to frames, by the document, walked. -/
import Derived.Test.YtehkdionodnhjaaNet6
set_option linter.unusedVariables false
set_option linter.unusedSimpArgs false
namespace Go.Proofs.Ytehkdionodnhjaa
open Go.RowKit

abbrev Kd.sb : Kd (List UInt8) := Kd.sl Kd.byte
theorem sb_mono {S S' : Nat → Prop} {w w' : World} {A : Option Addr} {xs : List (List UInt8)} (h : RdL Kd.sb S w A xs) (hk : ∀ k, S k → w'.heap[k]? = w.heap[k]?) (hs : ∀ k, S k → S' k) : RdL Kd.sb S' w' A xs := (h.keep hk).mono hs
theorem lit_sb {w : World} {S : Nat → Prop} {us : List Value} {xs : List (List UInt8)} (hl : us.length = xs.length) (hm : us.length ≤ maxLen) (hS : ∀ k, S k → k < w.heap.size) (h : ∀ (i : Nat) (u : Value) (x : List UInt8), us[i]? = some u → xs[i]? = some x → Kd.sb.R S w x [u]) :
    OR Kd.sb S (w.alloc (.cells us.toArray 57)) 57 (.slice (some ⟨w.heap.size, 0, none⟩) us.length us.length) us xs :=
  OR.lit hl hm fun i u x hu hx => Kd.sb.keep (fun k hk => (balloc w _).block k (hS k hk)) (h i u x hu hx)
theorem sb_val {S : Nat → Prop} {w : World} {A : Option Addr} {xs : List UInt8} {c : Nat} (h1 : xs.length ≤ c) (h2 : c ≤ maxLen) (h : RdL Kd.byte S w A xs) : Kd.sb.R S w xs [.slice A xs.length c] := ⟨A, c, rfl, h1, h2, h⟩
section
variable {w : World}
set_option maxHeartbeats 1000000 in
theorem refturned_calls (A : Option Addr) (hs : List (List UInt8)) (c : Nat) (S : Nat → Prop) (w : World) (hl : hs.length ≤ 100000) (hcl : hs.length ≤ c) (hcm : c ≤ maxLen) (hS : ∀ k, S k → k < w.heap.size) (h : RdL Kd.sb S w A hs) :
    Calls Try.prog 36 #[.slice A hs.length c] w fun e w' => ∃ A' c' us, e = .returned (.slice A' hs.length c') ∧ OR Kd.sb S w' 57 (.slice A' hs.length c') us hs.reverse ∧ (∀ k, (Value.slice A' hs.length c').ownBlock = some k → w.heap.size ≤ k) ∧ Below w.heap.size w w' := by
  refine cps fun R hR => ?_
  have H := hide h
  have HS := hide hS
  unfold maxLen at hcm
  have b0 := hide (balloc w (.cells #[] 57))
  have r0 : OR Kd.sb S (w.alloc (.cells #[] 57)) 57 (.slice (some ⟨w.heap.size, 0, none⟩) 0 0) [] [] := ⟨Row.lit [] (by simp), rfl, fun i u x hu _ => by simp at hu⟩
  have R0 := hide r0
  obtain ⟨N, hN⟩ : ∃ N, N = hs.length := ⟨_, rfl⟩
  rw [← hN] at hl hcl ⊢
  have HN := hide hN
  clear hN h hS r0
  go_enter Try.func36, Try.ntmps36
  go_wp2_with fail
  go_loopw [3, 4] (fun v i wr => ∃ (k : Nat) (B : Option Addr) (d : Nat) (us' : List Value), k ≤ N ∧ i = .int .i64 ((N : Int) - 1 - (k : Int)) ∧ v = .slice B k d ∧ OR Kd.sb S wr 57 v us' (hs.reverse.take k) ∧ (∀ q, v.ownBlock = some q → w.heap.size ≤ q) ∧ Below w.heap.size w wr) (fun _ i _ => (intOf i + 1).toNat)
  case atStart => exact ⟨0, _, 0, [], by omega, by congr 1; omega, rfl, R0.out, (fun q hq => by have := own_lit hq; omega), b0.out⟩
  case round =>
    obtain ⟨k, B, d, us', hk, rfl, rfl, hr, ho, hb⟩ := hrel
    by_cases hlt : k < N
    · have hix : N - 1 - k < hs.length := by have := HN.out; omega
      obtain ⟨b, off, u, rfl, hsb, hu, hcell⟩ := H.out.at1 rfl hix
      have hcr : wr.cell? ⟨b, off + (N - 1 - k), none⟩ = some u := (hb.cell (HS.out b hsb)).trans hcell
      have ht : hs.reverse.take (k + 1) = hs.reverse.take k ++ [hs[N - 1 - k]] := by
        have := rev_take hs k (by rw [← HN.out]; exact hlt)
        rw [this]
        have := HN.out
        subst this
        rfl
      obtain ⟨A1, c1, e1, h11, h12, h13⟩ := hu
      injection e1 with e1
      have hu1 := hide (sb_val h11 h12 h13)
      have b1 := hide (balloc wr (.cells #[u] 57))
      have r1 := hide (hr.row.keep (w' := wr.alloc (.cells #[u] 57)) fun q hq => b1.out.block q (hr.row.lt hq))
      have s1 := hide (Src.lit1 wr u 57)
      have hul : us'.length = k := by rw [hr.len, List.length_take, List.length_reverse]; have := HN.out; omega
      have hj : ((N : Int) - 1 - (k : Int)) = ((N - 1 - k : Nat) : Int) := by omega
      rw [hj]
      obtain ⟨j, hjj⟩ : ∃ j, j = N - 1 - k := ⟨_, rfl⟩
      have hjN : j < N := by omega
      have hjm : (j : Int) ≤ 1000000 := by omega
      rw [← hjj] at hcr ⊢
      have Hj := hide hjj
      have Ht := hide ht
      have Hr := hide hr
      have Ho := hide ho
      have Hb := hide hb
      have Hul := hide hul
      have Hlit := hide (by rw [e1]; rfl : u.oneCell' = true)
      subst e1
      clear hjj ht hr ho hb hul hj hcell h11 h12 h13
      go_wp2_with (at_builtin; with_reducible refine wp_app 19 rfl rfl (.tmp 13) (.tmp 18) 60 rfl Try.underlying60 infoSB ?_ (us := us') ?_ r1.out (A := some ⟨wr.heap.size, 0, none⟩) (c := 1) (news := [.slice A1 (hs[N - 1 - k]).length c1]) ?_ ?_ ?_ ?_ ?_ ?_)
      all_goals first | exact s1.out | (intro u hu; simp at hu; subst hu; exact Hlit.out) | exact Hlit.out | (rw [Hul.out]; omega) | (rw [Hul.out]; unfold maxLen; omega) | (rw [Hul.out, List.length_singleton]; omega) | (rw [Hul.out, List.length_singleton]; unfold maxLen; omega) | rfl | skip
      intro v' w9 hr9 g9 o9
      obtain ⟨A', c', rfl, -, -⟩ := hr9.shape
      have el : (us' ++ [Value.slice A1 (hs[N - 1 - k]).length c1]).length = k + 1 := by rw [List.length_append, Hul.out]; rfl
      rw [el] at hr9 o9 ⊢
      have Hr9 := hide hr9
      have G9 := hide g9
      have O9 := hide o9
      clear hr9 g9 o9 el
      go_wp2_with fail
      have hsz := Hb.out.size
      have hB9 : Below w.heap.size w w9 := (Ch.of_grown G9.out).below (Hb.out.alloc hsz (.cells #[.slice A1 (hs[N - 1 - k]).length c1] 57)) (by simp; omega) fun q hq => Ho.out q hq
      have hkq : ∀ q, S q → w9.heap[q]? = wr.heap[q]? := fun q hq => (hB9.block q (HS.out q hq)).trans (Hb.out.block q (HS.out q hq)).symm
      refine ⟨⟨k + 1, A', c', us' ++ [.slice A1 (hs[N - 1 - k]).length c1], by omega, by rw [Hj.out]; congr 1; omega, rfl, ?_, fun q hq => ?_, hB9⟩, by simp only [intOf]; omega⟩
      · rw [Ht.out]
        refine Hr.out.app hkq (fun q hq => hq) Hr9.out (by rfl) fun i u x hu hx => ?_
        cases i with
        | zero =>
          simp at hu hx
          subst hu; subst hx
          exact Kd.sb.keep (fun q hq => hB9.block q (HS.out q hq)) hu1.out
        | succ i => simp at hu
      · rcases O9.out with e | e
        · exact Ho.out q (by rw [← e]; exact hq)
        · rw [hq] at e; injection e with e; first | omega | (simp at e; omega)
    · obtain rfl : k = N := by omega
      rw [show (k : Int) - 1 - (k : Int) = -1 by omega]
      have Hr := hide hr
      have Ho := hide ho
      have Hb := hide hb
      clear hr ho hb
      go_wp2_with fail
      have hrt : hs.reverse.take k = hs.reverse := List.take_of_length_le (by rw [List.length_reverse, ← HN.out]; exact Nat.le_refl _)
      rw [hrt] at Hr
      have hk := HN.out
      subst hk
      exact hR.out _ _ ⟨B, d, us', rfl, Hr.out, Ho.out, Hb.out⟩
end
/-- What the document's answer leaves: rows that read. -/
def RPost (w : World) (S : Nat → Prop) (hs' xs : List (List UInt8)) (e : Ending) (w' : World) : Prop :=
  ∃ A1 c1 A2 c2, e = .returned (.tuple #[.slice A1 hs'.length c1, .slice A2 xs.length c2]) ∧ hs'.length ≤ c1 ∧ c1 ≤ maxLen ∧ xs.length ≤ c2 ∧ c2 ≤ maxLen ∧ RdL Kd.sb (fun z => S z ∨ newB w w' z) w' A1 hs' ∧ RdL Kd.sb (fun z => S z ∨ newB w w' z) w' A2 xs ∧ Below w.heap.size w w'
theorem below_drew1 (w : World) : Below w.heap.size w w.drew := ⟨rfl, rfl, rfl, Nat.le_refl _, fun _ _ => rfl⟩
theorem or_sb {w w' : World} {S S' : Nat → Prop} {A : Option Addr} {n c : Nat} {us : List Value} {xs : List (List UInt8)} (h : OR Kd.sb S' w' 57 (.slice A n c) us xs) (hs : ∀ k, S' k → S k ∨ newB w w' k) (ho : ∀ k, (Value.slice A n c).ownBlock = some k → w.heap.size ≤ k) : RdL Kd.sb (fun z => S z ∨ newB w w' z) w' A xs :=
  (h.rd rfl).mono fun k hk => hk.elim (hs k) fun hk => .inr ⟨ho k hk, h.row.lt hk⟩
set_option maxHeartbeats 1000000 in
theorem rdo0 (kind : Int) (hk : kind < 1 ∨ 7 < kind) (pt : Int) (m : UInt32) (A : Option Addr) (hs : List (List UInt8)) (c : Nat) (B : Option Addr) (bs : List UInt8) (d : Nat) (D : Option Addr) (fr : List UInt8) (cf : Nat) (S : Nat → Prop) (w : World) (hhl : hs.length ≤ 1000) (hc : hs.length ≤ c) (hcm : c ≤ maxLen) (hbd : bs.length ≤ d) (hdm : d ≤ maxLen) (hfl : fr.length ≤ 1000) (hfc : fr.length ≤ cf) (hfm : cf ≤ maxLen) (hp : (Lit.int .i64 pt).wf = true) (hS : ∀ k, S k → k < w.heap.size) (hA : RdL Kd.sb S w A hs) (hB : RdL Kd.byte S w B bs) (hD : RdL Kd.byte S w D fr) :
    Calls Try.prog 30 #[.slice A hs.length c, .int .i64 kind, .int .i64 pt, .int .u32 (m.toNat : Int), .slice B bs.length d, .slice D fr.length cf] w (RPost w S hs [fr]) := by
  refine cps fun R hR => ?_
  have t1 : (kind == 1) = false := by simp; omega
  have t2 : (kind == 2) = false := by simp; omega
  have t3 : (kind == 3) = false := by simp; omega
  have t4 : (kind == 4) = false := by simp; omega
  have t5 : (kind == 5) = false := by simp; omega
  have t6 : (kind == 6) = false := by simp; omega
  have t7 : (kind == 7) = false := by simp; omega
  have hb := hide (balloc w (.cells #[.slice D fr.length cf] 57))
  have hrow := hide (lit_sb (w := w) (S := S) (us := [.slice D fr.length cf]) (xs := [fr]) rfl (by unfold maxLen; simp) hS (by
    intro i u x hu hx
    match i, hu, hx with
    | 0, hu, hx =>
      simp at hu hx; subst hu; subst hx
      exact sb_val hfc hfm hD
    | i + 1, hu, _ => simp at hu))
  have HA := hide hA
  have Hc := hide (show hs.length ≤ c ∧ c ≤ maxLen from ⟨hc, hcm⟩)
  have HS := hide hS
  clear hA hB hD hS
  go_enter Try.func30, Try.ntmps30
  go_wp2_with fail
  exact hR.out _ _ ⟨A, c, _, _, rfl, Hc.out.1, Hc.out.2, Nat.le_refl _, by unfold maxLen; simp, sb_mono HA.out (fun k hk => hb.out.block k (HS.out k hk)) (fun k hk => .inl hk), or_sb hrow.out (fun k hk => .inl hk) (fun k hk => by have := own_lit hk; omega), hb.out⟩
set_option maxHeartbeats 1000000 in
theorem rdo1 (pt : Int) (m : UInt32) (A : Option Addr) (hs : List (List UInt8)) (c : Nat) (B : Option Addr) (bs : List UInt8) (d : Nat) (D : Option Addr) (fr : List UInt8) (cf : Nat) (S : Nat → Prop) (w : World) (hhl : hs.length ≤ 1000) (hc : hs.length ≤ c) (hcm : c ≤ maxLen) (hbd : bs.length ≤ d) (hdm : d ≤ maxLen) (hfl : fr.length ≤ 1000) (hfc : fr.length ≤ cf) (hfm : cf ≤ maxLen) (hp : (Lit.int .i64 pt).wf = true) (hS : ∀ k, S k → k < w.heap.size) (hA : RdL Kd.sb S w A hs) (hB : RdL Kd.byte S w B bs) (hD : RdL Kd.byte S w D fr) :
    Calls Try.prog 30 #[.slice A hs.length c, .int .i64 1, .int .i64 pt, .int .u32 (m.toNat : Int), .slice B bs.length d, .slice D fr.length cf] w (RPost w S hs []) := by
  refine cps fun R hR => ?_
  have hb := hide (balloc w (.cells #[] 57))
  have hrow := hide (lit_sb (w := w) (S := S) (us := []) (xs := []) rfl (by unfold maxLen; simp) hS (by
    intro i u x hu hx
    simp at hu))
  have HA := hide hA
  have Hc := hide (show hs.length ≤ c ∧ c ≤ maxLen from ⟨hc, hcm⟩)
  have HS := hide hS
  clear hA hB hD hS
  go_enter Try.func30, Try.ntmps30
  go_wp2_with fail
  exact hR.out _ _ ⟨A, c, _, _, rfl, Hc.out.1, Hc.out.2, Nat.le_refl _, by unfold maxLen; simp, sb_mono HA.out (fun k hk => hb.out.block k (HS.out k hk)) (fun k hk => .inl hk), or_sb hrow.out (fun k hk => .inl hk) (fun k hk => by have := own_lit hk; omega), hb.out⟩
set_option maxHeartbeats 1000000 in
theorem rdo2 (pt : Int) (m : UInt32) (A : Option Addr) (hs : List (List UInt8)) (c : Nat) (B : Option Addr) (bs : List UInt8) (d : Nat) (D : Option Addr) (fr : List UInt8) (cf : Nat) (S : Nat → Prop) (w : World) (hhl : hs.length ≤ 1000) (hc : hs.length ≤ c) (hcm : c ≤ maxLen) (hbd : bs.length ≤ d) (hdm : d ≤ maxLen) (hfl : fr.length ≤ 1000) (hfc : fr.length ≤ cf) (hfm : cf ≤ maxLen) (hp : (Lit.int .i64 pt).wf = true) (hS : ∀ k, S k → k < w.heap.size) (hA : RdL Kd.sb S w A hs) (hB : RdL Kd.byte S w B bs) (hD : RdL Kd.byte S w D fr) :
    Calls Try.prog 30 #[.slice A hs.length c, .int .i64 2, .int .i64 pt, .int .u32 (m.toNat : Int), .slice B bs.length d, .slice D fr.length cf] w (RPost w S hs [fr, fr]) := by
  refine cps fun R hR => ?_
  have hb := hide (balloc w (.cells #[.slice D fr.length cf, .slice D fr.length cf] 57))
  have hrow := hide (lit_sb (w := w) (S := S) (us := [.slice D fr.length cf, .slice D fr.length cf]) (xs := [fr, fr]) rfl (by unfold maxLen; simp) hS (by
    intro i u x hu hx
    match i, hu, hx with
    | 0, hu, hx =>
      simp at hu hx; subst hu; subst hx
      exact sb_val hfc hfm hD
    | 1, hu, hx =>
      simp at hu hx; subst hu; subst hx
      exact sb_val hfc hfm hD
    | i + 2, hu, _ => simp at hu))
  have HA := hide hA
  have Hc := hide (show hs.length ≤ c ∧ c ≤ maxLen from ⟨hc, hcm⟩)
  have HS := hide hS
  clear hA hB hD hS
  go_enter Try.func30, Try.ntmps30
  go_wp2_with fail
  exact hR.out _ _ ⟨A, c, _, _, rfl, Hc.out.1, Hc.out.2, Nat.le_refl _, by unfold maxLen; simp, sb_mono HA.out (fun k hk => hb.out.block k (HS.out k hk)) (fun k hk => .inl hk), or_sb hrow.out (fun k hk => .inl hk) (fun k hk => by have := own_lit hk; omega), hb.out⟩
set_option maxHeartbeats 1000000 in
theorem rdo7 (pt : Int) (m : UInt32) (A : Option Addr) (hs : List (List UInt8)) (c : Nat) (B : Option Addr) (bs : List UInt8) (d : Nat) (D : Option Addr) (fr : List UInt8) (cf : Nat) (S : Nat → Prop) (w : World) (hhl : hs.length ≤ 1000) (hc : hs.length ≤ c) (hcm : c ≤ maxLen) (hbd : bs.length ≤ d) (hdm : d ≤ maxLen) (hfl : fr.length ≤ 1000) (hfc : fr.length ≤ cf) (hfm : cf ≤ maxLen) (hp : (Lit.int .i64 pt).wf = true) (hS : ∀ k, S k → k < w.heap.size) (hA : RdL Kd.sb S w A hs) (hB : RdL Kd.byte S w B bs) (hD : RdL Kd.byte S w D fr) :
    Calls Try.prog 30 #[.slice A hs.length c, .int .i64 7, .int .i64 pt, .int .u32 (m.toNat : Int), .slice B bs.length d, .slice D fr.length cf] w (RPost w S hs [bs, fr]) := by
  refine cps fun R hR => ?_
  have hb := hide (balloc w (.cells #[.slice B bs.length d, .slice D fr.length cf] 57))
  have hrow := hide (lit_sb (w := w) (S := S) (us := [.slice B bs.length d, .slice D fr.length cf]) (xs := [bs, fr]) rfl (by unfold maxLen; simp) hS (by
    intro i u x hu hx
    match i, hu, hx with
    | 0, hu, hx =>
      simp at hu hx; subst hu; subst hx
      exact sb_val hbd hdm hB
    | 1, hu, hx =>
      simp at hu hx; subst hu; subst hx
      exact sb_val hfc hfm hD
    | i + 2, hu, _ => simp at hu))
  have HA := hide hA
  have Hc := hide (show hs.length ≤ c ∧ c ≤ maxLen from ⟨hc, hcm⟩)
  have HS := hide hS
  clear hA hB hD hS
  go_enter Try.func30, Try.ntmps30
  go_wp2_with fail
  exact hR.out _ _ ⟨A, c, _, _, rfl, Hc.out.1, Hc.out.2, Nat.le_refl _, by unfold maxLen; simp, sb_mono HA.out (fun k hk => hb.out.block k (HS.out k hk)) (fun k hk => .inl hk), or_sb hrow.out (fun k hk => .inl hk) (fun k hk => by have := own_lit hk; omega), hb.out⟩
set_option maxHeartbeats 1000000 in
theorem rdo5 (pt : Int) (m : UInt32) (A : Option Addr) (hs : List (List UInt8)) (c : Nat) (B : Option Addr) (bs : List UInt8) (d : Nat) (D : Option Addr) (fr : List UInt8) (cf : Nat) (S : Nat → Prop) (w : World) (hhl : hs.length ≤ 1000) (hc : hs.length ≤ c) (hcm : c ≤ maxLen) (hbd : bs.length ≤ d) (hdm : d ≤ maxLen) (hfl : fr.length ≤ 1000) (hfc : fr.length ≤ cf) (hfm : cf ≤ maxLen) (hp : (Lit.int .i64 pt).wf = true) (hS : ∀ k, S k → k < w.heap.size) (hA : RdL Kd.sb S w A hs) (hB : RdL Kd.byte S w B bs) (hD : RdL Kd.byte S w D fr) :
    Calls Try.prog 30 #[.slice A hs.length c, .int .i64 5, .int .i64 pt, .int .u32 (m.toNat : Int), .slice B bs.length d, .slice D fr.length cf] w (RPost w S hs [fr.take (plN pt fr.length)]) := by
  refine cps fun R hR => ?_
  have hpl := hide (refplace_calls pt fr.length w.drew (by omega) hp)
  have hle := plN_le pt fr.length
  obtain ⟨q, hq⟩ : ∃ q, q = plN pt fr.length := ⟨_, rfl⟩
  rw [← hq] at hpl hle hR
  clear hq
  have htl : (fr.take q).length = q := by rw [List.length_take]; omega
  have Htl := hide htl
  have HA := hide hA
  have HS := hide hS
  have HDt := hide (hD.take q)
  have Hcf := hide (show fr.length ≤ cf ∧ cf ≤ maxLen from ⟨hfc, hfm⟩)
  have Hc := hide (show hs.length ≤ c ∧ c ≤ maxLen from ⟨hc, hcm⟩)
  unfold maxLen at hfm
  obtain ⟨N, hN⟩ : ∃ N, N = fr.length := ⟨_, rfl⟩
  rw [← hN] at hpl hfl hfc hle ⊢
  have HN := hide hN
  have i0 : (0 : Int) ≤ (q : Int) := by omega
  have i1 : (q : Int) ≤ (N : Int) := by omega
  have i2 : (q : Int) ≤ (cf : Int) := by omega
  clear hN htl hA hB hD hS
  go_enter Try.func30, Try.ntmps30
  go_wp2_with fail
  go_region_law ((go_simp; refine hpl.out.mono ?_; rintro _ w1 ⟨rfl, rfl⟩))
  all_goals
    go_wp2_with fail
    have hb : Below w.heap.size w (w.alloc (.cells #[.slice D q cf] 57)).drew := (balloc w _).drew
    have hrow := lit_sb (w := w) (S := S) (us := [.slice D (fr.take q).length cf]) (xs := [fr.take q]) rfl (by unfold maxLen; simp) HS.out (by
      intro i u x hu hx
      match i, hu, hx with
      | 0, hu, hx =>
        simp only [List.getElem?_cons_zero, Option.some.injEq] at hu hx; subst hu; subst hx
        exact sb_val (by rw [Htl.out]; have := Hcf.out; have := HN.out; omega) Hcf.out.2 HDt.out
      | i + 1, hu, _ => simp at hu)
    rw [Htl.out] at hrow
    have hrow' := hrow.keep (w' := (w.alloc (.cells #[.slice D q cf] 57)).drew) fun _ _ => rfl
    refine bodyPost_ret (v := .tuple #[.slice A hs.length c, .slice (some ⟨w.heap.size, 0, none⟩) 1 1]) (by simp [results, Try.results30, go_sem]) rfl ?_
    exact hR.out _ _ ⟨A, c, _, _, rfl, Hc.out.1, Hc.out.2, Nat.le_refl _, by unfold maxLen; simp, sb_mono HA.out (fun k hk => hb.block k (HS.out k hk)) (fun k hk => .inl hk), or_sb hrow' (fun k hk => .inl hk) (fun k hk => by have e : k = w.heap.size := own_lit hk; omega), hb⟩
set_option maxHeartbeats 1000000 in
theorem rdo6 (pt : Int) (m : UInt32) (A : Option Addr) (hs : List (List UInt8)) (c : Nat) (B : Option Addr) (bs : List UInt8) (d : Nat) (D : Option Addr) (fr : List UInt8) (cf : Nat) (S : Nat → Prop) (w : World) (hhl : hs.length ≤ 1000) (hc : hs.length ≤ c) (hcm : c ≤ maxLen) (hbd : bs.length ≤ d) (hdm : d ≤ maxLen) (hfl : fr.length ≤ 1000) (hfc : fr.length ≤ cf) (hfm : cf ≤ maxLen) (hp : (Lit.int .i64 pt).wf = true) (hS : ∀ k, S k → k < w.heap.size) (hA : RdL Kd.sb S w A hs) (hB : RdL Kd.byte S w B bs) (hD : RdL Kd.byte S w D fr) :
    Calls Try.prog 30 #[.slice A hs.length c, .int .i64 6, .int .i64 pt, .int .u32 (m.toNat : Int), .slice B bs.length d, .slice D fr.length cf] w (RPost w S hs [flipL fr pt m]) := by
  refine cps fun R hR => ?_
  have hcl := hide (refflip_calls D fr cf pt m S w (by omega) hp hS hD)
  have hfl := hide (flipL_len fr pt m)
  have HA := hide hA
  have HS := hide hS
  have Hc := hide (show hs.length ≤ c ∧ c ≤ maxLen from ⟨hc, hcm⟩)
  clear hA hB hD hS
  go_enter Try.func30, Try.ntmps30
  go_wp2_with fail
  refine hcl.out.mono ?_
  rintro _ w2 ⟨A2, c2, rfl, hk2, hb2⟩
  have Hk2 := hide hk2
  have Hb2 := hide hb2
  clear hk2 hb2 hcl
  go_wp2_with fail
  have hk3 : Kd.ow.R (newB w w2) w2 (flipL fr pt m) [.slice A2 (flipL fr pt m).length c2] := by rw [hfl.out]; exact Hk2.out
  have hrow := lit_sb (w := w2) (S := newB w w2) (us := [.slice A2 (flipL fr pt m).length c2]) (xs := [flipL fr pt m]) rfl (by unfold maxLen; simp) (fun k hk => hk.2) (by
    intro i u x hu hx
    match i, hu, hx with
    | 0, hu, hx =>
      simp at hu hx; subst hu; subst hx
      exact Kd.ow_sl hk3
    | i + 1, hu, _ => simp at hu)
  rw [hfl.out] at hrow
  have hs2 := Hb2.out.size
  exact hR.out _ _ ⟨A, c, _, _, rfl, Hc.out.1, Hc.out.2, Nat.le_refl _, by unfold maxLen; simp, sb_mono HA.out (fun k hk => (Hb2.out.alloc hs2 _).block k (HS.out k hk)) (fun k hk => .inl hk), or_sb hrow (fun k hk => .inr ⟨hk.1, by have := hk.2; simp; omega⟩) (fun k hk => by have := own_lit hk; omega), Hb2.out.alloc hs2 _⟩
end Go.Proofs.Ytehkdionodnhjaa
