/- An arena in a set of blocks: what each call leaves. Onto. -/
import Derived.Test.YthcbjhmckbfkmaaArena5
import Derived.Test.YthcbjhmckbfkmaaAWb
set_option linter.unusedVariables false
set_option linter.unusedSimpArgs false
namespace Go.Proofs.Ythcbjhmckbfkmaa
open Go.RowKit

section
variable {w : World} {g n room : Nat} {bl : List (List UInt8)} {us : List Bool} {fr : List Nat} {live peak : Nat} {vb vu vf : Value} {qs : List Nat}
theorem Ar.ownlt (h : Ar w g n room bl us fr live peak vb vu vf qs) {k : Nat} (hk : Ar.own g vb vu vf qs k) : k < w.heap.size := by
  rcases hk with h1 | h1 | h1 | h1
  · rcases List.mem_cons.1 h1 with rfl | h1
    · exact h.glt
    · exact h.qlt h1
  · exact h.rb.lt h1
  · exact h.ru.lt h1
  · exact h.rf.lt h1
theorem Ar.keep (h : Ar w g n room bl us fr live peak vb vu vf qs) {w' : World} (hk : ∀ k, Ar.own g vb vu vf qs k → w'.heap[k]? = w.heap[k]?) : Ar w' g n room bl us fr live peak vb vu vf qs :=
  ⟨(hk g (.inl (List.mem_cons_self ..))).trans h.head, h.rb.keep fun k e => hk k (.inr (.inl e)), h.ru.keep fun k e => hk k (.inr (.inr (.inl e))), h.rf.keep fun k e => hk k (.inr (.inr (.inr e))), h.ql, h.ul,
    fun i q b h1 h2 => ⟨(h.bk i q b h1 h2).1, (hk q (.inl (List.mem_cons_of_mem _ (List.mem_of_getElem? h1)))).trans (h.bk i q b h1 h2).2⟩, h.nd, h.ob, h.ou, h.of, h.bu, h.bf, h.uf⟩
end
/-- An arena whose memory lies in S. -/
structure AS (S : Nat → Prop) (w : World) (g n room : Nat) (bl : List (List UInt8)) (us : List Bool) (fr : List Nat) (live peak : Nat) : Prop where
  ar : ∃ vb vu vf qs, Ar w g n room bl us fr live peak vb vu vf qs ∧ ∀ k, Ar.own g vb vu vf qs k → S k
  lt : ∀ k, S k → k < w.heap.size
section
variable {S : Nat → Prop} {w : World} {g n room : Nat} {bl : List (List UInt8)} {us : List Bool} {fr : List Nat} {live peak : Nat}
theorem AS.keep (h : AS S w g n room bl us fr live peak) {T : Nat → Prop} {w' : World} (hc : Ch T w w') (hd : ∀ k, S k → T k → False) : AS S w' g n room bl us fr live peak := by
  obtain ⟨vb, vu, vf, qs, h1, h2⟩ := h.ar
  exact ⟨⟨vb, vu, vf, qs, h1.keep fun k hk => hc.block k (h.lt k (h2 k hk)) fun ht => hd k (h2 k hk) ht, h2⟩, fun k hk => Nat.lt_of_lt_of_le (h.lt k hk) hc.size⟩
theorem AS.below (h : AS S w g n room bl us fr live peak) {w' : World} (hb : Below w.heap.size w w') : AS S w' g n room bl us fr live peak := h.keep (Ch.of_below (S := fun _ => False) hb) fun _ _ h => h
theorem AS.mono (h : AS S w g n room bl us fr live peak) {S' : Nat → Prop} (hs : ∀ k, S k → S' k) (hl : ∀ k, S' k → k < w.heap.size) : AS S' w g n room bl us fr live peak := by
  obtain ⟨vb, vu, vf, qs, h1, h2⟩ := h.ar
  exact ⟨⟨vb, vu, vf, qs, h1, fun k hk => hs k (h2 k hk)⟩, hl⟩
theorem AS.ul (h : AS S w g n room bl us fr live peak) : us.length = bl.length := by
  obtain ⟨vb, vu, vf, qs, h1, h2⟩ := h.ar
  exact h1.ul
theorem AS.len (h : AS S w g n room bl us fr live peak) : ∀ b ∈ bl, b.length = n := fun b hb => by
  obtain ⟨vb, vu, vf, qs, h1, h2⟩ := h.ar
  obtain ⟨i, hi, rfl⟩ := List.mem_iff_getElem.1 hb
  exact (h1.bk i (qs[i]'(by rw [h1.ql]; exact hi)) bl[i] (List.getElem?_eq_getElem _) (List.getElem?_eq_getElem hi)).1
theorem hasB_nat {us : List Bool} {i : Int} (h : hasB us i = true) : ∃ k : Nat, i = (k : Int) ∧ ∃ hk : k < us.length, us[k] = true := by
  unfold hasB at h
  rw [Bool.and_eq_true, decide_eq_true_eq] at h
  obtain ⟨k, rfl⟩ := Int.eq_ofNat_of_zero_le h.1
  have h2 := h.2
  rw [Int.toNat_natCast] at h2
  by_cases hk : k < us.length
  · exact ⟨k, rfl, hk, by simpa [List.getD, hk] using h2⟩
  · simp [List.getD, hk] at h2
theorem as_new (size most : Int) (w : World) : Calls Try.prog 22 #[.int .i64 size, .int .i64 most] w fun e w' =>
    e = .returned (.pointer (some ⟨w.heap.size, 0, none⟩)) ∧ AS (· = w.heap.size) w' w.heap.size size.toNat most.toNat [] [] [] 0 0 ∧ Below w.heap.size w w' :=
  (anew_calls size most w).mono fun e w' ⟨h1, h2, h3, h4⟩ => ⟨h1, ⟨⟨_, _, _, _, h2, fun k hk => by
    rcases hk with h | h | h | h
    · simpa using h
    · simp [Value.ownBlock] at h
    · simp [Value.ownBlock] at h
    · simp [Value.ownBlock] at h⟩, fun k hk => by omega⟩, h3⟩
/-- S, and blocks that are new. -/
def more (S : Nat → Prop) (w w' : World) (k : Nat) : Prop := S k ∨ (w.heap.size ≤ k ∧ k < w'.heap.size)
theorem as_old (h : AS S w g n room bl us fr live peak) {i : Nat} {fr' : List Nat} (hf : fr = fr' ++ [i]) (hl : i < bl.length) (hfl : fr'.length ≤ 1000000) (hlv : live ≤ 1000000) (hpk : peak ≤ 1000000) :
    Calls Try.prog 23 #[.pointer (some ⟨g, 0, none⟩)] w fun e w' => e = .returned (.tuple #[.int .i64 (i : Int), .bool true]) ∧
      AS (more S w w') w' g n room (bl.set i (zs n)) (us.set i true) fr' (live + 1) (max peak (live + 1)) ∧ Ch S w w' := by
  subst hf
  obtain ⟨vb, vu, vf, qs, h1, h2⟩ := h.ar
  refine (alloc_old i h1 hl hfl hlv hpk).mono fun e w' ⟨h3, vf', h4, h5, h6⟩ => ⟨h3, ⟨⟨_, _, _, _, h4, fun k hk => .inl (h2 k ?_)⟩, fun k hk => ?_⟩, h5.mono fun b _ hb => h2 b hb⟩
  · rcases hk with h | h | h | h
    · exact .inl h
    · exact .inr (.inl h)
    · exact .inr (.inr (.inl h))
    · exact .inr (.inr (.inr (h6 ▸ h)))
  · rcases hk with h' | h'
    · exact Nat.lt_of_lt_of_le (h.lt k h') h5.size
    · exact h'.2
theorem as_fresh (h : AS S w g n room bl us fr live peak) (hf : fr = []) (hr : bl.length < room) (hn : n ≤ 1000000) (hm : bl.length ≤ 1000000) (hlv : live ≤ 1000000) (hpk : peak ≤ 1000000) :
    Calls Try.prog 23 #[.pointer (some ⟨g, 0, none⟩)] w fun e w' => e = .returned (.tuple #[.int .i64 (bl.length : Int), .bool true]) ∧
      AS (more S w w') w' g n room (bl ++ [zs n]) (us ++ [true]) [] (live + 1) (max peak (live + 1)) ∧ Ch S w w' := by
  subst hf
  obtain ⟨vb, vu, vf, qs, h1, h2⟩ := h.ar
  refine (alloc_new h1 hr hn hm hlv hpk).mono fun e w' ⟨h3, vb', vu', q, h4, h5, h6, h7, h8⟩ => ⟨h3, ⟨⟨_, _, _, _, h4, fun k hk => ?_⟩, fun k hk => ?_⟩, h5.mono fun b _ hb => h2 b hb⟩
  · have hlt := h4.ownlt hk
    rcases hk with h | h | h | h
    · rcases List.mem_cons.1 h with rfl | h
      · exact .inl (h2 k (.inl (List.mem_cons_self ..)))
      · rcases List.mem_append.1 h with h | h
        · exact .inl (h2 k (.inl (List.mem_cons_of_mem _ h)))
        · simp at h; subst h; exact .inr ⟨h6, hlt⟩
    · rcases h7 k h with h | h
      · exact .inl (h2 k (.inr (.inl h)))
      · exact .inr ⟨h, hlt⟩
    · rcases h8 k h with h | h
      · exact .inl (h2 k (.inr (.inr (.inl h))))
      · exact .inr ⟨h, hlt⟩
    · exact .inl (h2 k (.inr (.inr (.inr h))))
  · rcases hk with h' | h'
    · exact Nat.lt_of_lt_of_le (h.lt k h') h5.size
    · exact h'.2
theorem as_full (h : AS S w g n room bl us fr live peak) (hf : fr = []) (hr : room ≤ bl.length) :
    Calls Try.prog 23 #[.pointer (some ⟨g, 0, none⟩)] w fun e w' => e = .returned (.tuple #[.int .i64 0, .bool false]) ∧ w = w' := by
  subst hf
  obtain ⟨vb, vu, vf, qs, h1, h2⟩ := h.ar
  exact alloc_no h1 hr
theorem as_live (h : AS S w g n room bl us fr live peak) : Calls Try.prog 25 #[.pointer (some ⟨g, 0, none⟩)] w fun e w' => e = .returned (.int .i64 (live : Int)) ∧ w = w' := by
  obtain ⟨vb, vu, vf, qs, h1, h2⟩ := h.ar
  exact live_calls h1
theorem as_peak (h : AS S w g n room bl us fr live peak) : Calls Try.prog 27 #[.pointer (some ⟨g, 0, none⟩)] w fun e w' => e = .returned (.int .i64 (peak : Int)) ∧ w = w' := by
  obtain ⟨vb, vu, vf, qs, h1, h2⟩ := h.ar
  exact peak_calls h1
theorem as_size (h : AS S w g n room bl us fr live peak) : Calls Try.prog 37 #[.pointer (some ⟨g, 0, none⟩)] w fun e w' => e = .returned (.int .i64 (n : Int)) ∧ w = w' := by
  obtain ⟨vb, vu, vf, qs, h1, h2⟩ := h.ar
  exact size_calls h1
theorem as_has (i : Int) (h : AS S w g n room bl us fr live peak) : Calls Try.prog 35 #[.pointer (some ⟨g, 0, none⟩), .int .i64 i] w fun e w' => e = .returned (.bool (hasB us i)) ∧ w = w' := by
  obtain ⟨vb, vu, vf, qs, h1, h2⟩ := h.ar
  exact has_calls i h1
/-- A block's bytes, none where it is not given out. -/
def got (bl : List (List UInt8)) (us : List Bool) (i : Int) : List UInt8 := if hasB us i then bl.getD i.toNat [] else []
theorem as_get (i : Int) (h : AS S w g n room bl us fr live peak) (hn : n ≤ 1000000) : Calls Try.prog 24 #[.pointer (some ⟨g, 0, none⟩), .int .i64 i] w fun e w' =>
    ∃ A c, e = .returned (.slice A (got bl us i).length c) ∧ Kd.ow.R (fun k => w.heap.size ≤ k ∧ k < w'.heap.size) w' (got bl us i) [.slice A (got bl us i).length c] ∧ Below w.heap.size w w' := by
  have hul := h.ul
  obtain ⟨vb, vu, vf, qs, h1, h2⟩ := h.ar
  cases hi : hasB us i
  · rw [show got bl us i = [] by simp [got, hi]]
    refine (get_no i h1 hi).mono ?_
    rintro e w' ⟨rfl, rfl⟩
    exact ⟨none, 0, rfl, Kd.ow_nil (by unfold maxLen; omega), Below.refl _ _⟩
  · obtain ⟨k, rfl, hk, hu⟩ := hasB_nat hi
    have hkb : k < bl.length := by omega
    rw [show got bl us (k : Int) = bl[k] by simp [got, hi, hkb]]
    refine (get_yes k h1 hkb hn hi).mono ?_
    rintro e w' ⟨v, rfl, A, c, rfl, h3, h4, h5, h6⟩
    rw [List.length_map] at h3 ⊢
    have hb := (balloc w (.cells #[] 5)).trans (h5.mono (by simp))
    refine ⟨A, c, rfl, ⟨A, c, rfl, h3, h4, fun hp => ?_⟩, hb⟩
    rcases h6 with ⟨h6, _⟩ | ⟨rfl, h7, rest, h8, h9⟩
    · have : bl[k] = [] := by simpa using h6
      rw [this] at hp; simp at hp
    · exact ⟨_, rest, _, rfl, ⟨by simp, h7⟩, h9⟩
theorem as_zero (i : Int) (h : AS S w g n room bl us fr live peak) (hn : n ≤ 1000000) : Calls Try.prog 36 #[.pointer (some ⟨g, 0, none⟩), .int .i64 i] w fun e w' =>
    e = .returned (.bool (hasB us i && zeroB (got bl us i))) ∧ w = w' := by
  have hul := h.ul
  obtain ⟨vb, vu, vf, qs, h1, h2⟩ := h.ar
  cases hi : hasB us i
  · exact azero_no i h1 hi
  · obtain ⟨k, rfl, hk, hu⟩ := hasB_nat hi
    have hkb : k < bl.length := by omega
    rw [show got bl us (k : Int) = bl[k] by simp [got, hi, hkb]]
    exact azero_yes k h1 hkb hn hi
theorem as_free_no (i : Int) (h : AS S w g n room bl us fr live peak) (hi : hasB us i = false) : Calls Try.prog 26 #[.pointer (some ⟨g, 0, none⟩), .int .i64 i] w fun e w' => e = .returned (.bool false) ∧ w = w' := by
  obtain ⟨vb, vu, vf, qs, h1, h2⟩ := h.ar
  exact afree_no i h1 hi
theorem as_free (i : Nat) (h : AS S w g n room bl us fr (live + 1) peak) (hi : hasB us (i : Int) = true) (hfl : fr.length ≤ 1000000) (hlv : live < 1000000) : Calls Try.prog 26 #[.pointer (some ⟨g, 0, none⟩), .int .i64 (i : Int)] w fun e w' =>
    e = .returned (.bool true) ∧ AS (more S w w') w' g n room bl (us.set i false) (fr ++ [i]) live peak ∧ Ch S w w' := by
  obtain ⟨vb, vu, vf, qs, h1, h2⟩ := h.ar
  obtain ⟨k, hk0, hk, hu⟩ := hasB_nat hi
  obtain rfl : i = k := by omega
  refine (afree_yes i h1 hk hu hfl hlv).mono fun e w' ⟨h3, vf', h4, h5, h6⟩ => ⟨h3, ⟨⟨_, _, _, _, h4, fun k hk => ?_⟩, fun k hk => ?_⟩, h5.mono fun b _ hb => h2 b hb⟩
  · have hlt := h4.ownlt hk
    rcases hk with h | h | h | h
    · exact .inl (h2 k (.inl h))
    · exact .inl (h2 k (.inr (.inl h)))
    · exact .inl (h2 k (.inr (.inr (.inl h))))
    · rcases h6 with h6 | ⟨k', h6, h7⟩
      · exact .inl (h2 k (.inr (.inr (.inr (h6 ▸ h)))))
      · rw [h6] at h; injection h with h; exact .inr ⟨by omega, hlt⟩
  · rcases hk with h' | h'
    · exact Nat.lt_of_lt_of_le (h.lt k h') h5.size
    · exact h'.2
theorem as_put_not (i : Int) (P : Value) (h : AS S w g n room bl us fr live peak) (hi : hasB us i = false) : Calls Try.prog 28 #[.pointer (some ⟨g, 0, none⟩), .int .i64 i, P] w fun e w' => e = .returned (.bool false) ∧ w = w' := by
  obtain ⟨vb, vu, vf, qs, h1, h2⟩ := h.ar
  exact aput_not i P h1 hi
theorem as_put (i : Nat) (B : Option Addr) (bss : List (List UInt8)) (d : Nat) (T : Nat → Prop) (h : AS S w g n room bl us fr live peak) (hi : hasB us (i : Int) = true) (hn : n ≤ 1000000) (hd : d ≤ maxLen) (hdl : bss.length ≤ d) (hb : RdL (Kd.sl Kd.byte) T w B bss) (hT : ∀ k, T k → k < w.heap.size ∧ ¬ S k) (hf : ∀ b ∈ bss, b.length = n) :
    Calls Try.prog 28 #[.pointer (some ⟨g, 0, none⟩), .int .i64 (i : Int), .slice B bss.length d] w fun e w' => e = .returned (.bool true) ∧ AS S w' g n room (bl.set i (sumL (got bl us i) bss)) us fr live peak ∧ Ch S w w' := by
  have hul := h.ul
  obtain ⟨vb, vu, vf, qs, h1, h2⟩ := h.ar
  obtain ⟨k, hk0, hk, hu⟩ := hasB_nat hi
  obtain rfl : i = k := by omega
  have hkb : i < bl.length := by omega
  rw [show got bl us (i : Int) = bl[i] by simp [got, hi, hkb]]
  refine (aput_yes i B bss d T h1 hkb hi hn hd hdl hb (fun k hk => ⟨(hT k hk).1, fun e => (hT k hk).2 (h2 k (.inl (List.mem_cons_of_mem _ (List.mem_of_getElem? e))))⟩) hf).mono fun e w' ⟨h3, h4, h5⟩ => ⟨h3, ⟨⟨_, _, _, _, h4, h2⟩, fun k hk => Nat.lt_of_lt_of_le (h.lt k hk) h5.size⟩, h5.mono fun b _ hb => h2 b (.inl (List.mem_cons_of_mem _ (List.mem_of_getElem? hb)))⟩
theorem as_put_no (i : Nat) (B : Option Addr) (bss : List (List UInt8)) (d : Nat) (T : Nat → Prop) (h : AS S w g n room bl us fr live peak) (hi : hasB us (i : Int) = true) (hn : n ≤ 1000000) (hd : d ≤ maxLen) (hdl : bss.length ≤ d) (hb : RdL (Kd.sl Kd.byte) T w B bss) (hf : ¬ ∀ b ∈ bss, b.length = n) :
    Calls Try.prog 28 #[.pointer (some ⟨g, 0, none⟩), .int .i64 (i : Int), .slice B bss.length d] w fun e w' => e = .returned (.bool false) ∧ w = w' := by
  have hul := h.ul
  obtain ⟨vb, vu, vf, qs, h1, h2⟩ := h.ar
  obtain ⟨k, hk0, hk, hu⟩ := hasB_nat hi
  obtain rfl : i = k := by omega
  exact aput_no i B bss d T h1 (by omega) hi hn hd hdl hb hf
/-- Onto: both are one, or the one behind isn't given out. -/
theorem as_onto_no (i k : Int) (h : AS S w g n room bl us fr live peak) (hi : i = k ∨ hasB us k = false) : Calls Try.prog 33 #[.pointer (some ⟨g, 0, none⟩), .int .i64 i, .int .i64 k] w fun e w' => e = .returned (.bool false) ∧ w = w' := by
  refine cps fun R hR => ?_
  have Hh := hide (as_has k h)
  by_cases he : i = k
  · subst he
    have hb : (i != i) = false := by simp
    clear h hi
    go_enter Try.func33, Try.ntmps33
    go_wp2_with fail
    exact hR.out _ _ ⟨rfl, rfl⟩
  · rw [hi.resolve_left he] at Hh
    have hb : (i != k) = true := by simpa using he
    clear h hi
    go_enter Try.func33, Try.ntmps33
    go_wp2_with fail
    refine Hh.out.mono ?_
    rintro e w1 ⟨rfl, rfl⟩
    go_wp2_with fail
    exact hR.out _ _ ⟨rfl, rfl⟩
/-- Onto, where the one behind is given out: as Put answers. -/
theorem as_onto_has (i : Int) (k : Nat) (h : AS S w g n room bl us fr live peak) (hn : n ≤ 1000000) (he : i ≠ (k : Int)) (hk : hasB us (k : Int) = true) {T : Ending → World → Prop}
    (hX : ∀ w1 : World, Below w.heap.size w w1 → w1.heap.size = w.heap.size + 1 → (∃ vb vu vf qs q, Ar w1 g n room bl us fr live peak vb vu vf qs ∧ (∀ k, Ar.own g vb vu vf qs k → S k) ∧ qs[k]? = some q ∧ RdL (Kd.sl Kd.byte) (fun k => k = q ∨ k = w.heap.size) w1 (some ⟨w.heap.size, 0, none⟩) [got bl us (k : Int)]) →
      Calls Try.prog 28 #[.pointer (some ⟨g, 0, none⟩), .int .i64 i, .slice (some ⟨w.heap.size, 0, none⟩) 1 1] w1 fun e w' => ∃ b : Bool, e = .returned (.bool b) ∧ T e w') :
    Calls Try.prog 33 #[.pointer (some ⟨g, 0, none⟩), .int .i64 i, .int .i64 (k : Int)] w T := by
  refine cps fun R hR => ?_
  have Hh := hide (as_has (k : Int) h)
  rw [hk] at Hh
  have hul := h.ul
  obtain ⟨vb, vu, vf, qs, h1, h2⟩ := h.ar
  obtain ⟨k', hk0, hku, hu⟩ := hasB_nat hk
  obtain rfl : k = k' := by omega
  have hkb : k < bl.length := by omega
  obtain ⟨q, qb, c, rfl, hcb, hcell, hq, hbl, hbh⟩ := h1.block hkb
  obtain ⟨-, -, c2, -, -, -, -⟩ := cells7 h1.head
  have hb : (i != (k : Int)) = true := by simpa using he
  have hg : got bl us (k : Int) = bl[k] := by simp [got, hk, hkb]
  have hal := balloc w (.cells #[.slice (some ⟨q, 0, none⟩) n n] 22)
  have HX := hide (hX (w.alloc (.cells #[.slice (some ⟨q, 0, none⟩) n n] 22)) hal (by simp) ⟨_, _, _, _, q, h1.keep fun k hk => hal.block k (h1.ownlt hk), h2, hq, by
    rw [hg]
    have hr : RdL Kd.byte (· = q) w (some ⟨q, 0, none⟩) bl[k] := RdL.block1 rfl hbh rfl fun j x hx => ⟨encB x, by rw [List.getElem?_toArray, List.getElem?_map, hx]; rfl, _, rfl, rfl⟩
    exact RdL.lit1 (c := n) (by omega) (by unfold maxLen; omega) hr (fun x hx => by subst hx; exact h1.qlt (List.mem_of_getElem? hq)) (by rw [hbl])⟩)
  clear h h1 h2 hX hq hbl hbh hg hal he hk
  generalize bl.length = m at *
  go_enter Try.func33, Try.ntmps33
  go_wp2_with fail
  refine Hh.out.mono ?_
  rintro e w1 ⟨rfl, rfl⟩
  go_wp2_with fail
  refine HX.out.mono ?_
  rintro e w1 ⟨b, rfl, hT⟩
  go_wp2_with fail
  exact hR.out _ _ hT
end
end Go.Proofs.Ythcbjhmckbfkmaa
