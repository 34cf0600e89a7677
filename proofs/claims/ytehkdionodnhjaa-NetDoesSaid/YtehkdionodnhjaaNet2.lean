/- A net: what it holds; Held, Harmless, Flush, walked. -/
import Derived.Test.YtehkdionodnhjaaNet1
import Derived.Test.YtehkdionodnhjaaOwr
set_option linter.unusedVariables false
set_option linter.unusedSimpArgs false
namespace Go.Proofs.Ytehkdionodnhjaa
open Go.RowKit

/-- The net at block g holds the frames hs, in blocks S. -/
structure NA (w : World) (S S0 : Nat → Prop) (g : Nat) (v : Value) (us : List Value) (hs : List (List UInt8)) : Prop where
  head : w.heap[g]? = some (.cells #[v] 62 (0, 0))
  row : OR Kd.ow S0 w 57 v us hs
  sg : S g
  s0 : ∀ k, S0 k → S k ∧ k ≠ g ∧ v.ownBlock ≠ some k
  sv : ∀ k, v.ownBlock = some k → S k ∧ k ≠ g
  lt : ∀ k, S k → k < w.heap.size
def NS (w : World) (S : Nat → Prop) (g : Nat) (hs : List (List UInt8)) : Prop := ∃ S0 v us, NA w S S0 g v us hs
section
variable {w w' : World} {S S0 : Nat → Prop} {g : Nat} {v : Value} {us : List Value} {hs : List (List UInt8)}
theorem NA.cells (h : NA w S S0 g v us hs) : w.cell? ⟨g, 0, none⟩ = some v ∧ w.frozen? ⟨g, 0, none⟩ = false :=
  ⟨by rw [cell_of_row w g 0 _ _ (0, 0) h.head]; rfl, by simp [World.frozen?, h.head]⟩
theorem NA.keep (h : NA w S S0 g v us hs) {T : Nat → Prop} (c : Ch T w w') (hd : ∀ k, S k → T k → False) : NA w' S S0 g v us hs := by
  have hk : ∀ k, S k → w'.heap[k]? = w.heap[k]? := fun k hk => c.block k (h.lt k hk) fun ht => hd k hk ht
  exact ⟨(hk g h.sg).trans h.head, h.row.keep fun k hv => hk k (hv.elim (fun h0 => (h.s0 k h0).1) fun h1 => (h.sv k h1).1), h.sg, h.s0, h.sv, fun k hk' => Nat.lt_of_lt_of_le (h.lt k hk') c.size⟩
theorem NS.keep (h : NS w S g hs) {T : Nat → Prop} (c : Ch T w w') (hd : ∀ k, S k → T k → False) : NS w' S g hs := by
  obtain ⟨S0, v, us, h⟩ := h
  exact ⟨S0, v, us, h.keep c hd⟩
theorem NS.below (h : NS w S g hs) (hb : Below w.heap.size w w') : NS w' S g hs := h.keep (Ch.of_below (S := fun _ => False) hb) fun _ _ h => h
theorem NS.lt (h : NS w S g hs) : ∀ k, S k → k < w.heap.size := by
  obtain ⟨S0, v, us, h⟩ := h
  exact h.lt
theorem held_calls (h : NS w S g hs) : Calls Try.prog 32 #[.pointer (some ⟨g, 0, none⟩)] w fun e w' => e = .returned (.int .i64 (hs.length : Int)) ∧ w = w' := by
  refine cps fun R hR => ?_
  obtain ⟨S0, v, us, h⟩ := h
  obtain ⟨A, c, rfl, -, -⟩ := h.row.shape
  obtain ⟨c0, -⟩ := h.cells
  clear h
  go_enter Try.func32, Try.ntmps32
  go_wp2_with fail
  exact hR.out _ _ ⟨rfl, rfl⟩
end
/-- Does it come to nothing but frames as they were? -/
def harmB (kind : Int) : Bool := decide (kind < 5) || decide (7 < kind)
theorem harmless_calls (kind pt : Int) (m : UInt32) (A : Option Addr) (n c : Nat) (w : World) : Calls Try.prog 33 #[.agg #[.int .i64 kind, .int .i64 pt, .int .u32 (m.toNat : Int), .slice A n c]] w fun e w' => e = .returned (.bool (harmB kind)) ∧ Below w.heap.size w w' := by
  refine cps fun R hR => ?_
  have hb := hide (balloc w (.cells #[.int .i64 kind, .int .i64 pt, .int .u32 (m.toNat : Int), .slice A n c] 59))
  have he : Hid (harmB kind = (kind != 5 && (kind != 6 && kind != 7))) := hide (by
    rw [Bool.eq_iff_iff]; simp [harmB]; omega)
  by_cases h5 : kind = 5
  · subst h5
    have : harmB 5 = false := rfl
    rw [this] at hR
    go_enter Try.func33, Try.ntmps33
    go_wp2_with fail
    exact hR.out _ _ ⟨rfl, hb.out⟩
  by_cases h6 : kind = 6
  · subst h6
    have : harmB 6 = false := rfl
    rw [this] at hR
    go_enter Try.func33, Try.ntmps33
    go_wp2_with fail
    exact hR.out _ _ ⟨rfl, hb.out⟩
  by_cases h7 : kind = 7
  · subst h7
    have : harmB 7 = false := rfl
    rw [this] at hR
    go_enter Try.func33, Try.ntmps33
    go_wp2_with fail
    exact hR.out _ _ ⟨rfl, hb.out⟩
  have ht : harmB kind = true := by simp [harmB]; omega
  rw [ht] at hR
  have t5 : (kind != 5) = true := by simpa using h5
  have t6 : (kind != 6) = true := by simpa using h6
  have t7 : (kind != 7) = true := by simpa using h7
  clear ht h5 h6 h7 he
  go_enter Try.func33, Try.ntmps33
  go_wp2_with fail
  exact hR.out _ _ ⟨rfl, hb.out⟩
/-- What a call of the net leaves: r holds the frames xs, in blocks T; the net holds hs', in blocks S'. -/
structure Came (w w' : World) (S S' T : Nat → Prop) (g : Nat) (hs' : List (List UInt8)) (r : Value) (us : List Value) (xs : List (List UInt8)) : Prop where
  row : OR Kd.ow T w' 57 r us xs
  ns : NS w' S' g hs'
  ch : Ch S w w'
  new : ∀ k, S' k → S k ∨ w.heap.size ≤ k
  out : ∀ k, T k ∨ r.ownBlock = some k → ¬ S' k ∧ (S k ∨ w.heap.size ≤ k) ∧ k < w'.heap.size
section
variable {w w' : World} {S S0 : Nat → Prop} {g : Nat} {v : Value} {us : List Value} {hs : List (List UInt8)}
theorem rev_take {α : Type} (l : List α) (k : Nat) (hk : k < l.length) : l.reverse.take (k + 1) = l.reverse.take k ++ [l[l.length - 1 - k]'(by omega)] := by
  rw [List.take_succ_eq_append_getElem (by simpa using hk), List.getElem_reverse]
set_option maxHeartbeats 1000000 in
theorem flush_calls (h : NS w S g hs) (hl : hs.length ≤ 1000000) : Calls Try.prog 35 #[.pointer (some ⟨g, 0, none⟩)] w fun e w' =>
    ∃ r us T, e = .returned r ∧ Came w w' S (fun k => k = g) T g [] r us hs.reverse ∧ Ch (fun k => k = g) w w' ∧ (∀ k, r.ownBlock = some k → w.heap.size ≤ k) := by
  refine cps fun R hR => ?_
  obtain ⟨S0, v, us, h⟩ := h
  obtain ⟨A, c, rfl, hlc, hmc⟩ := h.row.shape
  obtain ⟨c0, f0⟩ := h.cells
  have H := hide h
  obtain ⟨N, hN⟩ : ∃ N, N = hs.length := ⟨_, rfl⟩
  rw [← hN] at hl hlc c0 H
  have HN := hide hN
  clear hN h
  go_enter Try.func35, Try.ntmps35
  go_wp2_with fail
  go_loopw [3, 4] (fun v i wr => ∃ (k : Nat) (B : Option Addr) (d : Nat) (us' : List Value), k ≤ N ∧ i = .int .i64 ((N : Int) - 1 - (k : Int)) ∧ v = .slice B k d ∧ OR Kd.ow S0 wr 57 v us' (hs.reverse.take k) ∧ (∀ q, v.ownBlock = some q → w.heap.size ≤ q) ∧ Below w.heap.size w wr) (fun _ i _ => (intOf i + 1).toNat)
  case atStart => exact ⟨0, none, 0, [], by omega, by congr 1; omega, rfl, OR.nil, (fun q hq => by cases hq), Below.refl _ _⟩
  case round =>
    obtain ⟨k, B, d, us', hk, rfl, rfl, hr, ho, hb⟩ := hrel
    by_cases hlt : k < N
    · have hix : N - 1 - k < hs.length := by have := HN.out; omega
      obtain ⟨b, u, rfl, hbo, hui, hcell, hu⟩ := H.out.row.cell hix
      have hbl := H.out.row.lt hbo
      have hgl := H.out.lt g H.out.sg
      have hcr : wr.cell? ⟨b, N - 1 - k, none⟩ = some u := (hb.cell hbl).trans hcell
      have c0r : wr.cell? ⟨g, 0, none⟩ = some (.slice (some ⟨b, 0, none⟩) N c) := (hb.cell hgl).trans c0
      have hur : Kd.ow.R S0 wr (hs[N - 1 - k]) [u] := Kd.ow.keep (fun q hq => hb.block q (H.out.lt q (H.out.s0 q hq).1)) hu
      have ht : hs.reverse.take (k + 1) = hs.reverse.take k ++ [hs[N - 1 - k]] := by
        have := rev_take hs k (by rw [← HN.out]; exact hlt)
        rw [this]
        have := HN.out
        subst this
        rfl
      obtain ⟨A1, c1, e1, -⟩ := hur
      injection e1 with e1
      have hu1 := hide hu
      have b1 := hide (balloc wr (.cells #[u] 57))
      have r1 := hide (hr.row.keep (w' := wr.alloc (.cells #[u] 57)) fun q hq => b1.out.block q (hr.row.lt hq))
      have s1 := hide (Src.lit1 wr u 57)
      have hul : us'.length = k := by rw [hr.len, List.length_take, List.length_reverse]; have := HN.out; omega
      have hj : ((N : Int) - 1 - (k : Int)) = ((N - 1 - k : Nat) : Int) := by omega
      rw [hj]
      obtain ⟨j, hjj⟩ : ∃ j, j = N - 1 - k := ⟨_, rfl⟩
      have hjN : j < N := by omega
      have hjm : (j : Int) ≤ 1000000 := by omega
      rw [← hjj] at hcr ⊢
      have Hj := hide hjj
      have Ht := hide ht
      have Hr := hide hr
      have Ho := hide ho
      have Hb := hide hb
      have Hul := hide hul
      have Hlit := hide (by rw [e1]; rfl : u.oneCell' = true)
      subst e1
      clear hjj ht hr ho hb hul hj hu hcell
      go_wp2_with (at_builtin; with_reducible refine wp_app 24 rfl rfl (.tmp 15) (.tmp 23) 60 rfl Try.underlying60 infoSB ?_ (us := us') ?_ r1.out (A := some ⟨wr.heap.size, 0, none⟩) (c := 1) (news := [.slice A1 (hs[N - 1 - k]).length c1]) ?_ ?_ ?_ ?_ ?_ ?_)
      case refine_4 => exact s1.out
      case refine_5 => exact Hlit.out
      case refine_6 => rw [Hul.out]; omega
      case refine_7 => rw [Hul.out]; unfold maxLen; omega
      case refine_8 =>
      intro v' w9 hr9 g9 o9
      obtain ⟨A', c', rfl, -, -⟩ := hr9.shape
      have el : (us' ++ [Value.slice A1 (hs[N - 1 - k]).length c1]).length = k + 1 := by rw [List.length_append, Hul.out]; rfl
      rw [el] at hr9 o9 ⊢
      have Hr9 := hide hr9
      have G9 := hide g9
      have O9 := hide o9
      clear hr9 g9 o9 el
      go_wp2_with fail
      have hsz := Hb.out.size
      have hB9 : Below w.heap.size w w9 := (Ch.of_grown G9.out).below (Hb.out.alloc hsz (.cells #[.slice A1 (hs[N - 1 - k]).length c1] 57)) (by simp; omega) fun q hq => Ho.out q hq
      have hS0w : ∀ q, S0 q → q < w.heap.size := fun q hq => H.out.lt q (H.out.s0 q hq).1
      have hkq : ∀ q, S0 q → w9.heap[q]? = wr.heap[q]? := fun q hq => (hB9.block q (hS0w q hq)).trans (Hb.out.block q (hS0w q hq)).symm
      refine ⟨⟨k + 1, A', c', us' ++ [.slice A1 (hs[N - 1 - k]).length c1], by omega, by rw [Hj.out]; congr 1; omega, rfl, ?_, fun q hq => ?_, hB9⟩, by simp only [intOf]; omega⟩
      · rw [Ht.out]
        refine Hr.out.app hkq (fun q hq => hq) Hr9.out (by rfl) fun i u x hu hx => ?_
        cases i with
        | zero =>
          simp at hu hx
          subst hu; subst hx
          exact Kd.ow.keep (fun q hq => hB9.block q (hS0w q hq)) hu1.out
        | succ i => simp at hu
      · rcases O9.out with e | e
        · exact Ho.out q (by rw [← e]; exact hq)
        · rw [hq] at e; injection e with e; omega
    · obtain rfl : k = N := by omega
      have hgl := H.out.lt g H.out.sg
      have c0r : wr.cell? ⟨g, 0, none⟩ = some (.slice A k c) := (hb.cell hgl).trans c0
      have f0r : wr.frozen? ⟨g, 0, none⟩ = false := by have := hb.block g hgl; simp [World.frozen?, this, H.out.head]
      rw [show (k : Int) - 1 - (k : Int) = -1 by omega]
      have Hr := hide hr
      have Ho := hide ho
      have Hb := hide hb
      clear hr ho hb
      go_wp2_with fail
      have hb0 := Hb.out
      have hS0w : ∀ q, S0 q → q < w.heap.size := fun q hq => H.out.lt q (H.out.s0 q hq).1
      have hks : ∀ q, q ≠ g → (wr.setCell ⟨g, 0, none⟩ (.slice none 0 0)).heap[q]? = wr.heap[q]? := fun q hq => Below.heap_setCell wr ⟨g, 0, none⟩ _ q hq
      have hsz := Hb.out.size
      have hss : (wr.setCell ⟨g, 0, none⟩ (.slice none 0 0)).heap.size = wr.heap.size := by simp [World.setCell]
      have hch : Ch (fun q => q = g) w (wr.setCell ⟨g, 0, none⟩ (.slice none 0 0)) := (Ch.of_below (S := fun q => q = g) Hb.out).trans (Ch.set wr ⟨g, 0, none⟩ _) fun q hq => .inl hq
      have hrt : hs.reverse.take k = hs.reverse := List.take_of_length_le (by rw [List.length_reverse, ← HN.out]; exact Nat.le_refl _)
      rw [hrt] at Hr
      have hog : ∀ q, (Value.slice B k d).ownBlock = some q → q ≠ g := fun q hq e => by have := Ho.out q hq; omega
      refine hR.out _ _ ⟨_, us', S0, rfl, ⟨Hr.out.keep fun q hq => hks q (hq.elim (fun h0 => (H.out.s0 q h0).2.1) (hog q)), ⟨fun _ => False, .slice none 0 0, [], ?_, OR.nil, rfl, (fun q hq => hq.elim), (fun q hq => by cases hq), fun q hq => ?_⟩, hch.mono fun q _ hq => hq ▸ H.out.sg, fun q hq => .inl (hq ▸ H.out.sg), fun q hq => ?_⟩, hch, Ho.out⟩
      · have hh := (hb0.block g hgl).trans H.out.head
        simp [World.setCell, Array.getElem?_modify, hh]
      · subst hq; rw [hss]; omega
      · rcases hq with h1 | h1
        · exact ⟨(H.out.s0 q h1).2.1, .inl (H.out.s0 q h1).1, by have := hS0w q h1; rw [hss]; omega⟩
        · exact ⟨hog q h1, .inr (Ho.out q h1), by rw [hss]; exact Hr.out.lt h1⟩
end
end Go.Proofs.Ytehkdionodnhjaa
