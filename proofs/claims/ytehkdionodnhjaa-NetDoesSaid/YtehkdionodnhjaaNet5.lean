/- A net that a law has made; speaks. -/
import Derived.Test.YtehkdionodnhjaaNet4
import Derived.Test.YtehkdionodnhjaaSame24
set_option linter.unusedVariables false
set_option linter.unusedSimpArgs false
namespace Go.Proofs.Ytehkdionodnhjaa
open Go.RowKit

section
variable {w w' : World} {S : Nat → Prop} {g : Nat} {hs : List (List UInt8)}
theorem do_calls (kind pt : Int) (m : UInt32) (B : Option Addr) (bs : List UInt8) (d : Nat) (A : Option Addr) (fr : List UInt8) (c : Nat) (SF : Nat → Prop) (w : World) (h : NS w S g hs) (hl : fr.length ≤ 1000) (hhl : hs.length ≤ 1000) (hbl : kind = 7 → bs.length ≤ 1000) (hp : (Lit.int .i64 pt).wf = true) (hd : bs.length ≤ d) (hdm : d ≤ maxLen) (hc : fr.length ≤ c) (hcm : c ≤ maxLen) (hSF : ∀ k, SF k → k < w.heap.size) (hf : RdL Kd.byte SF w A fr) (hB : RdL Kd.byte SF w B bs) :
    Calls Try.prog 29 #[.pointer (some ⟨g, 0, none⟩), opV kind pt m B bs.length d, .slice A fr.length c] w (DoPost w S g (doL hs kind pt m bs fr).1 (doL hs kind pt m bs fr).2) := by
  unfold doL
  by_cases h1 : kind = 1
  · subst h1; exact do1 pt m B bs d A fr c SF w h hl hhl hp hd hdm hc hcm hSF hf hB
  by_cases h2 : kind = 2
  · subst h2; exact do2 pt m B bs d A fr c SF w h hl hhl hp hd hdm hc hcm hSF hf hB
  by_cases h3 : kind = 3
  · subst h3; exact do3 pt m B bs d A fr c SF w h hl hhl hp hd hdm hc hcm hSF hf hB
  by_cases h4 : kind = 4
  · subst h4; exact do4 pt m B bs d A fr c SF w h hl hhl hp hd hdm hc hcm hSF hf hB
  by_cases h5 : kind = 5
  · subst h5; exact do5 pt m B bs d A fr c SF w h hl hhl hp hd hdm hc hcm hSF hf hB
  by_cases h6 : kind = 6
  · subst h6; exact do6 pt m B bs d A fr c SF w h hl hhl hp hd hdm hc hcm hSF hf hB
  by_cases h7 : kind = 7
  · subst h7; exact do7 pt m B bs d A fr c SF w h hl hhl (hbl rfl) hp hd hdm hc hcm hSF hf hB
  rw [if_neg h1, if_neg h2, if_neg h3, if_neg h4, if_neg h5, if_neg h6, if_neg h7]
  exact do0 kind (by omega) pt m B bs d A fr c SF w h hl hhl hp hd hdm hc hcm hSF hf hB
/-- A net in blocks S, all made behind w0. -/
structure NL (w0 w : World) (S : Nat → Prop) (g : Nat) (hs : List (List UInt8)) : Prop where
  ns : NS w S g hs
  ge : ∀ k, S k → w0.heap.size ≤ k
  bel : Below w0.heap.size w0 w
/-- What came: frames in blocks T, apart from the net. -/
structure Fr (w0 w : World) (S T : Nat → Prop) (r : Value) (us : List Value) (xs : List (List UInt8)) : Prop where
  row : OR Kd.ow T w 57 r us xs
  out : ∀ k, T k ∨ r.ownBlock = some k → ¬ S k ∧ w0.heap.size ≤ k
variable {w0 : World}
theorem NL.below (h : NL w0 w S g hs) (hb : Below w.heap.size w w') : NL w0 w' S g hs := ⟨h.ns.below hb, h.ge, h.bel.trans (hb.mono h.bel.size)⟩
theorem NL.keep (h : NL w0 w S g hs) {T : Nat → Prop} (c : Ch T w w') (hT : ∀ k, T k → w0.heap.size ≤ k) (hd : ∀ k, S k → T k → False) : NL w0 w' S g hs := ⟨h.ns.keep c hd, h.ge, c.below h.bel h.bel.size hT⟩
theorem nl_new (w0 w : World) (hb : Below w0.heap.size w0 w) : NL w0 (w.alloc (.cells #[.slice none 0 0] 62)) (fun k => k = w.heap.size) w.heap.size [] :=
  ⟨⟨fun _ => False, .slice none 0 0, [], heap_alloc_new w _, OR.nil, rfl, (fun k hk => hk.elim), (fun k hk => by cases hk), (fun k hk => by subst hk; simp)⟩, (fun k hk => by subst hk; exact hb.size), hb.alloc hb.size _⟩
def NLDo (w0 w : World) (S : Nat → Prop) (g : Nat) (hs' xs : List (List UInt8)) (e : Ending) (w' : World) : Prop :=
  ∃ A c us S' T, e = .returned (.slice A xs.length c) ∧ NL w0 w' S' g hs' ∧ Fr w0 w' S' T (.slice A xs.length c) us xs ∧ Ch S w w' ∧ (∀ k, S' k → S k ∨ w.heap.size ≤ k) ∧ (∀ k, T k ∨ (Value.slice A xs.length c).ownBlock = some k → (S k ∨ w.heap.size ≤ k) ∧ k < w'.heap.size)
theorem nl_do (kind pt : Int) (m : UInt32) (B : Option Addr) (bs : List UInt8) (d : Nat) (A : Option Addr) (fr : List UInt8) (c : Nat) (SF : Nat → Prop) (w : World) (h : NL w0 w S g hs) (hl : fr.length ≤ 1000) (hhl : hs.length ≤ 1000) (hbl : kind = 7 → bs.length ≤ 1000) (hp : (Lit.int .i64 pt).wf = true) (hd : bs.length ≤ d) (hdm : d ≤ maxLen) (hc : fr.length ≤ c) (hcm : c ≤ maxLen) (hSF : ∀ k, SF k → k < w.heap.size) (hf : RdL Kd.byte SF w A fr) (hB : RdL Kd.byte SF w B bs) :
    Calls Try.prog 29 #[.pointer (some ⟨g, 0, none⟩), opV kind pt m B bs.length d, .slice A fr.length c] w (NLDo w0 w S g (doL hs kind pt m bs fr).1 (doL hs kind pt m bs fr).2) :=
  (do_calls kind pt m B bs d A fr c SF w h.ns hl hhl hbl hp hd hdm hc hcm hSF hf hB).mono fun e w' ⟨A', c', us, S', T, h1, h2⟩ =>
    ⟨A', c', us, S', T, h1, ⟨h2.ns, fun k hk => (h2.new k hk).elim (h.ge k) fun hk => Nat.le_trans h.bel.size hk, h2.ch.below h.bel h.bel.size h.ge⟩,
      ⟨h2.row, fun k hk => ⟨(h2.out k hk).1, (h2.out k hk).2.1.elim (h.ge k) fun hk => Nat.le_trans h.bel.size hk⟩⟩, h2.ch, h2.new, fun k hk => (h2.out k hk).2⟩
end
theorem bytes_lit (w : World) (xs : List UInt8) : RdL Kd.byte (fun k => k = w.heap.size) (w.alloc (.cells (xs.map encB).toArray 5)) (some ⟨w.heap.size, 0, none⟩) xs :=
  RdL.block1 rfl (heap_alloc_new w _) rfl fun i x hx => ⟨encB x, by rw [List.getElem?_toArray, List.getElem?_map, hx]; rfl, _, rfl, rfl⟩
theorem Fr.keep {w0 w w' : World} {S S' T : Nat → Prop} {r : Value} {us : List Value} {xs : List (List UInt8)} (h : Fr w0 w S T r us xs) (hk : ∀ k, T k ∨ r.ownBlock = some k → w'.heap[k]? = w.heap[k]?) : OR Kd.ow T w' 57 r us xs := h.row.keep hk
theorem ow_rd {S : Nat → Prop} {w : World} {xs : List UInt8} {A : Option Addr} {n c : Nat} (h : Kd.ow.R S w xs [.slice A n c]) : n = xs.length ∧ xs.length ≤ c ∧ c ≤ maxLen ∧ RdL Kd.byte S w A xs := by
  obtain ⟨A', c', e, h1, h2, h3⟩ := Kd.ow_sl h
  simp only [List.cons.injEq, Value.slice.injEq, and_true] at e
  obtain ⟨rfl, rfl, rfl⟩ := e
  exact ⟨rfl, h1, h2, h3⟩
theorem ow_shape {S : Nat → Prop} {w : World} {xs : List UInt8} {u : Value} (h : Kd.ow.R S w xs [u]) : ∃ A c, u = .slice A xs.length c ∧ xs.length ≤ c ∧ c ≤ maxLen ∧ RdL Kd.byte S w A xs := by
  obtain ⟨A', c', e, h1, h2, h3⟩ := Kd.ow_sl h
  injection e with e
  exact ⟨A', c', e, h1, h2, h3⟩
set_option maxHeartbeats 1000000 in
theorem nspeaks (w : World) : Calls Try.prog 28 #[] w fun e w' => e = .returned (.bool true) ∧ Below w.heap.size w w' := by
  refine cps fun R hR => ?_
  obtain ⟨w1, hw1⟩ : ∃ w1, w1 = w.alloc (.cells #[.slice none 0 0] 62) := ⟨_, rfl⟩
  have h1 : NL w w1 (fun k => k = w.heap.size) w.heap.size [] := by rw [hw1]; exact nl_new w w (Below.refl _ _)
  obtain ⟨w2, hw2⟩ : ∃ w2, w2 = w1.alloc (.cells #[.int .u8 1] 5) := ⟨_, rfl⟩
  have hP : Calls Try.prog 29 #[.pointer (some ⟨w.heap.size, 0, none⟩), .agg #[.int .i64 3, .int .i64 0, .int .u32 0, .slice none 0 0], .slice (some ⟨w1.heap.size, 0, none⟩) 1 1] w2 (NLDo w w2 (fun k => k = w.heap.size) w.heap.size [[1]] []) := by
    rw [hw2]
    exact nl_do 3 0 0 none [] 0 (some ⟨w1.heap.size, 0, none⟩) [1] 1 (fun k => k = w1.heap.size) _ (h1.below (balloc w1 _)) (by decide) (by decide) (by decide) (by decide) (by decide) (by decide) (by decide) (by unfold maxLen; omega) (fun k hk => by subst hk; simp) (bytes_lit w1 [1]) RdL.nil
  have HW1 := hide hw1
  have HW2 := hide hw2
  have HP := hide hP
  clear hw1 hw2 hP h1
  go_enter Try.func28, Try.ntmps28
  go_upto_region 2 with fail
  rw [← HW1.out]
  clear HW1
  go_wp2_with fail
  rw [← HW2.out]
  refine HP.out.mono ?_
  clear HW2 HP
  rintro _ w3 ⟨A3, c3, us3, S3, T3, rfl, h3, -, -, -⟩
  obtain ⟨w4, hw4⟩ : ∃ w4, w4 = w3.alloc (.cells #[.int .u8 2] 5) := ⟨_, rfl⟩
  have hP : Calls Try.prog 29 #[.pointer (some ⟨w.heap.size, 0, none⟩), .agg #[.int .i64 4, .int .i64 0, .int .u32 0, .slice none 0 0], .slice (some ⟨w3.heap.size, 0, none⟩) 1 1] w4 (NLDo w w4 S3 w.heap.size [] [[2], [1]]) := by
    rw [hw4]
    exact nl_do 4 0 0 none [] 0 (some ⟨w3.heap.size, 0, none⟩) [2] 1 (fun k => k = w3.heap.size) _ (h3.below (balloc w3 _)) (by decide) (by decide) (by decide) (by decide) (by decide) (by decide) (by decide) (by unfold maxLen; omega) (fun k hk => by subst hk; simp) (bytes_lit w3 [2]) RdL.nil
  have HW4 := hide hw4
  have HP := hide hP
  clear hw4 hP h3
  go_wp2_with fail
  rw [← HW4.out]
  refine HP.out.mono ?_
  clear HW4 HP
  rintro _ w5 ⟨A5, c5, us5, S5, T5, rfl, h5, hf5, -, -⟩
  obtain ⟨b, u0, rfl, -, -, hc0, hu0⟩ := hf5.row.cell (i := 0) (by decide)
  obtain ⟨b', u1, e', -, -, hc1, hu1⟩ := hf5.row.cell (i := 1) (by decide)
  obtain rfl : b = b' := by injection e' with e'; injection e'
  obtain ⟨A6, c6, rfl, -, -, hr6⟩ := ow_shape hu0
  obtain ⟨A7, c7, rfl, -, -, hr7⟩ := ow_shape hu1
  have s6 : (convert 57 9 (.slice A6 1 c6)).run Try.prog w5 = .ok (.string (bstr [2])) w5 := run_str Try.underlying57 Try.underlying5 Try.underlying9 hr6.srcB c6
  have s7 : (convert 57 9 (.slice A7 1 c7)).run Try.prog w5 = .ok (.string (bstr [1])) w5 := run_str Try.underlying57 Try.underlying5 Try.underlying9 hr7.srcB c7
  have e6 : (bstr [2]).toList = [2] := by rw [ByteArray.toList_eq]
  have e7 : (bstr [1]).toList = [1] := by rw [ByteArray.toList_eq]
  have hc0' : w5.cell? ⟨b, 0, none⟩ = some (.slice A6 1 c6) := hc0
  have hc1' : w5.cell? ⟨b, 1, none⟩ = some (.slice A7 1 c7) := hc1
  have hb := hide h5.bel
  have hhd := hide (held_calls h5.ns)
  generalize bstr [2] = t6 at s6 e6
  generalize bstr [1] = t7 at s7 e7
  clear hc0 hc1 hu0 hu1 hr6 hr7 e' h5 hf5
  go_wp2_with fail
  refine hhd.out.mono ?_
  rintro _ w6 ⟨rfl, rfl⟩
  go_wp2_with fail
  exact hR.out _ _ ⟨rfl, hb.out⟩
end Go.Proofs.Ytehkdionodnhjaa
