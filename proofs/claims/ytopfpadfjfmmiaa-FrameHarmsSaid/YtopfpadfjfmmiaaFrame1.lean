/- The header that a reader gives. -/
import Derived.Test.YtopfpadfjfmmiaaFrame0
import Derived.Laws.EntriesVeiled
set_option linter.unusedVariables false
set_option linter.unusedSimpArgs false
namespace Go.Proofs.Ytopfpadfjfmmiaa
open Go.RowKit

theorem next_calls (p g : Nat) (A : Option Addr) (c : Nat) (bs : List UInt8) (S : Nat → Prop) (m : Nat) (w : World) (hp : w.cell? ⟨p, 0, none⟩ = some (.pointer (some ⟨g, 0, none⟩))) (h : Rea w g A c bs S) (h1 : 1 ≤ m) (h8 : m ≤ 8) (hs : m ≤ bs.length) :
    Calls Try.prog 37 #[.int .i64 (m : Int), .pointer (some ⟨p, 0, none⟩)] w fun e w' => e = .returned (.int .u64 ((getN (bs.take m) : Nat) : Int)) ∧ Rea w' g (dropA A c m) (c - m) (bs.drop m) S ∧ Ch (· = g) w w' := by
  refine cps fun R hR => ?_
  have hc := hide (take_calls g A c bs S m w h h1 h8 hs)
  clear h h1 h8 hs
  go_enter Try.func37, Try.ntmps37
  go_wp2_with fail
  refine hc.out.mono ?_
  rintro e w1 ⟨rfl, hr, hch⟩
  have Hr := hide hr
  generalize ((getN (bs.take m) : Nat) : Int) = x at *
  clear hr
  go_wp2_with fail
  exact hR.out _ _ ⟨rfl, Hr.out, hch⟩

/-- A reader, and the two functions that read by it. -/
structure HdS (w : World) (g p q : Nat) (A : Option Addr) (c : Nat) (bs : List UInt8) (S : Nat → Prop) : Prop where
  rea : Rea w g A c bs S
  cp : w.cell? ⟨p, 0, none⟩ = some (.pointer (some ⟨g, 0, none⟩))
  cq : w.cell? ⟨q, 0, none⟩ = some (.func (.func 37) #[] #[.pointer (some ⟨p, 0, none⟩)])
  np : p ≠ g
  nq : q ≠ g
theorem HdS.ch {w w' : World} {g p q : Nat} {A A' : Option Addr} {c c' : Nat} {bs bs' : List UInt8} {S : Nat → Prop} (h : HdS w g p q A c bs S) (hc : Ch (· = g) w w') (hr : Rea w' g A' c' bs' S) : HdS w' g p q A' c' bs' S :=
  ⟨hr, hc.cell h.cp h.np, hc.cell h.cq h.nq, h.np, h.nq⟩
theorem HdS.later {w w' : World} {g p q : Nat} {A : Option Addr} {c : Nat} {bs : List UInt8} {S T : Nat → Prop} (h : HdS w g p q A c bs S) (hc : Ch T w w') (hs : ∀ b, T b → b ≠ g ∧ ¬ S b ∧ b ≠ p ∧ b ≠ q) : HdS w' g p q A c bs S :=
  ⟨h.rea.ch hc (fun b hb ht => by have := hs b ht; rcases hb with hb | hb; exact this.1 hb; exact this.2.1 hb), hc.cell h.cp (fun ht => (hs _ ht).2.2.1 rfl), hc.cell h.cq (fun ht => (hs _ ht).2.2.2 rfl), h.np, h.nq⟩
theorem nextS (p q g : Nat) (A : Option Addr) (c : Nat) (bs : List UInt8) (S : Nat → Prop) (m : Nat) (w : World) (h : HdS w g p q A c bs S) (h1 : 1 ≤ m) (h8 : m ≤ 8) (hs : m ≤ bs.length) :
    Calls Try.prog 37 #[.int .i64 (m : Int), .pointer (some ⟨p, 0, none⟩)] w fun e w' => e = .returned (.int .u64 ((getN (bs.take m) : Nat) : Int)) ∧ HdS w' g p q (dropA A c m) (c - m) (bs.drop m) S ∧ Ch (· = g) w w' :=
  (next_calls p g A c bs S m w h.cp h.rea h1 h8 hs).mono fun e w' ⟨h1, h2, h3⟩ => ⟨h1, h.ch h3 h2, h3⟩
theorem numberS (p q g : Nat) (A : Option Addr) (c : Nat) (bs : List UInt8) (S : Nat → Prop) (m : Nat) (w : World) (h : HdS w g p q A c bs S) (h1 : 1 ≤ m) (h8 : m ≤ 8) (hs : m ≤ bs.length) :
    Calls Try.prog 38 #[.int .i64 (m : Int), .pointer (some ⟨q, 0, none⟩)] w fun e w' => e = .returned (.int .i64 (wrap64 ((getN (bs.take m) : Nat) : Int))) ∧ HdS w' g p q (dropA A c m) (c - m) (bs.drop m) S ∧ Ch (· = g) w w' := by
  refine cps fun R hR => ?_
  have hc := hide (nextS p q g A c bs S m w h h1 h8 hs)
  have hq := h.cq
  clear h h1 h8 hs
  go_enter Try.func38, Try.ntmps38
  go_wp2_with fail
  refine hc.out.mono ?_
  rintro e w1 ⟨rfl, hr, hch⟩
  have Hr := hide hr
  generalize ((getN (bs.take m) : Nat) : Int) = x at *
  clear hr hq
  go_wp2_with fail
  exact hR.out _ _ ⟨rfl, Hr.out, hch⟩

def mid (b : List UInt8) (p n : Nat) : List UInt8 := (b.drop p).take n
theorem getN_small (l : List UInt8) : getN l < 256 ^ l.length ∨ 8 ≤ l.length := by
  by_cases h : 8 ≤ l.length
  · exact .inr h
  · refine .inl ?_
    have key : ∀ (l : List UInt8) (a k : Nat), a < 256 ^ k → k + l.length ≤ 8 → l.foldl (fun n x => (n * 256 + x.toNat) % 18446744073709551616) a < 256 ^ (k + l.length) := by
      intro l
      induction l with
      | nil => intro a k ha _; simpa using ha
      | cons x l ih =>
        intro a k ha hk
        rw [List.foldl_cons, List.length_cons, show k + (l.length + 1) = (k + 1) + l.length by omega]
        simp only [List.length_cons] at hk
        refine ih _ (k + 1) ?_ (by omega)
        have hx := x.toNat_lt
        have h8 : 256 ^ (k + 1) ≤ 18446744073709551616 := by
          have : (256 : Nat) ^ (k + 1) ≤ 256 ^ 8 := Nat.pow_le_pow_right (by omega) (by omega)
          exact this
        rw [Nat.pow_succ] at h8 ⊢
        rw [Nat.mod_eq_of_lt (by omega)]
        omega
    have := key l 0 0 (by omega) (by omega)
    simpa [getN] using this
theorem wrap_small {l : List UInt8} (h : l.length ≤ 4) : wrap64 ((getN l : Nat) : Int) = ((getN l : Nat) : Int) := by
  rcases getN_small l with h1 | h1
  · have : (256 : Nat) ^ l.length ≤ 256 ^ 4 := Nat.pow_le_pow_right (by omega) h
    exact IntWalk.wrap64_in _ ⟨by omega, by omega⟩
  · omega
/-- The header of bytes that begin with it. -/
def hdrAt (b : List UInt8) (o : Nat) : Nat × Int × Int × Int × Int × Int × Int × Nat :=
  (getN (mid b o 8), (getN (mid b (o + 8) 4) : Int), (getN (mid b (o + 12) 2) : Int), (getN (mid b (o + 14) 1) : Int), (getN (mid b (o + 15) 2) : Int), (getN (mid b (o + 17) 2) : Int), wrap64 ((getN (mid b (o + 19) 8) : Nat) : Int), getN (mid b (o + 27) 8))

theorem set_cs {w : World} {g : Nat} {t : TypeId} {cs : Array Value} (h : w.heap[g]? = some (.cells cs t (0, 0))) (i : Nat) (u : Value) : (w.setCell ⟨g, i, none⟩ u).heap[g]? = some (.cells (cs.setIfInBounds i u) t (0, 0)) := by
  simp [World.setCell, Array.getElem?_modify, h]
set_option maxHeartbeats 1000000 in
theorem header_calls (g : Nat) (A : Option Addr) (c : Nat) (bs : List UInt8) (S : Nat → Prop) (w : World) (h : Rea w g A c bs S) (hl : 35 ≤ bs.length) :
    Calls Try.prog 25 #[.pointer (some ⟨g, 0, none⟩)] w fun e w' =>
      e = .returned (.agg #[.int .u64 ((getN (mid bs 0 8) : Nat) : Int), .int .i64 ((getN (mid bs 8 4) : Nat) : Int), .int .i64 ((getN (mid bs 12 2) : Nat) : Int), .int .i64 ((getN (mid bs 14 1) : Nat) : Int), .int .i64 ((getN (mid bs 15 2) : Nat) : Int), .int .i64 ((getN (mid bs 17 2) : Nat) : Int), .int .i64 (wrap64 ((getN (mid bs 19 8) : Nat) : Int)), .int .u64 ((getN (mid bs 27 8) : Nat) : Int)]) ∧
      (∃ A', Rea w' g A' (c - 35) (bs.drop 35) S) ∧ Ch (· = g) w w' := by
  refine cps fun R hR => ?_
  have hglt := h.glt
  have HSl := hide h.lt
  have Hs : HdS (((w.alloc (.cells #[.pointer (some ⟨g, 0, none⟩)] 63)).alloc (.cells #[.int .u64 0, .int .i64 0, .int .i64 0, .int .i64 0, .int .i64 0, .int .i64 0, .int .i64 0, .int .u64 0] 30)).alloc (.cells #[.func (.func 37) #[] #[.pointer (some ⟨w.heap.size, 0, none⟩)]] 87)) g w.heap.size (w.heap.size + 1 + 1) A c bs S := by
    refine ⟨h.ch (T := fun _ => False) (((Ch.alloc _ _).trans (Ch.alloc _ _) fun _ h => .inl h).trans (Ch.alloc _ _) fun _ h => .inl h) (fun _ _ h => h), ?_, ?_, by omega, by omega⟩
    · simp [go_sem]
    · simp [go_sem]
  generalize hw1 : ((w.alloc (.cells #[.pointer (some ⟨g, 0, none⟩)] 63)).alloc (.cells #[.int .u64 0, .int .i64 0, .int .i64 0, .int .i64 0, .int .i64 0, .int .i64 0, .int .i64 0, .int .u64 0] 30)).alloc (.cells #[.func (.func 37) #[] #[.pointer (some ⟨w.heap.size, 0, none⟩)]] 87) = w1 at Hs
  have Hw1 := hide hw1
  have hs1 := hide (show w1.heap.size = w.heap.size + 3 by rw [← hw1]; simp)
  have hb1 := hide (show Below w.heap.size w w1 by rw [← hw1]; exact ((balloc w _).alloc (by simp) _).alloc (by simp; omega) _)
  have hz1 := hide (show w1.heap[w.heap.size + 1]? = some (.cells #[.int .u64 0, .int .i64 0, .int .i64 0, .int .i64 0, .int .i64 0, .int .i64 0, .int .i64 0, .int .u64 0] 30 (0, 0)) by
    rw [← hw1]
    refine (Below.heap_alloc _ _ _ (by simp)).trans ?_
    have := heap_alloc_new (w.alloc (.cells #[.pointer (some ⟨g, 0, none⟩)] 63)) (.cells #[.int .u64 0, .int .i64 0, .int .i64 0, .int .i64 0, .int .i64 0, .int .i64 0, .int .i64 0, .int .u64 0] 30)
    simpa using this)
  have HS := hide Hs
  clear hw1 Hs h
  go_enter Try.func25, Try.ntmps25
  go_wp2_with fail
  rw [Hw1.out]
  refine (nextS _ _ _ _ _ _ _ 8 _ HS.out (by omega) (by omega) (by omega)).mono ?_
  rintro e w2 ⟨rfl, hS2, hc2⟩
  generalize hx0 : ((getN (bs.take 8) : Nat) : Int) = x0
  have Hx0 := hide hx0
  have hch2 := hide hc2
  have hs2 := hide (show w.heap.size + 3 ≤ w2.heap.size by have := hs1.out; have := hc2.size; omega)
  have hz2 := hide ((hc2.block (w.heap.size + 1) (by have := hs1.out; omega) (by omega)).trans hz1.out)
  have HS2 := hide hS2
  clear hx0 HS hS2 hc2
  go_wp2_with fail
  have HS3 := hide (HS2.out.later (Ch.alloc (S := fun _ => False) w2 (.cells #[.int .u64 x0, .int .i64 0, .int .i64 0, .int .i64 0, .int .i64 0, .int .i64 0, .int .i64 0, .int .u64 0] 30)) (fun _ h => h.elim))
  have hh3 := hide (heap_alloc_new w2 (.cells #[.int .u64 x0, .int .i64 0, .int .i64 0, .int .i64 0, .int .i64 0, .int .i64 0, .int .i64 0, .int .u64 0] 30))
  have hch3 := hide (hch2.out.trans (Ch.alloc (S := fun _ => False) w2 (.cells #[.int .u64 x0, .int .i64 0, .int .i64 0, .int .i64 0, .int .i64 0, .int .i64 0, .int .i64 0, .int .u64 0] 30)) (fun _ h => h.elim))
  have hz3 := hide ((Below.heap_alloc w2 (.cells #[.int .u64 x0, .int .i64 0, .int .i64 0, .int .i64 0, .int .i64 0, .int .i64 0, .int .i64 0, .int .u64 0] 30) _ (show w.heap.size + 1 < w2.heap.size by have := hs2.out; omega)).trans hz2.out)
  have hl3 := hide (show w2.heap.size < (w2.alloc (.cells #[.int .u64 x0, .int .i64 0, .int .i64 0, .int .i64 0, .int .i64 0, .int .i64 0, .int .i64 0, .int .u64 0] 30)).heap.size by simp)
  clear HS2 hz2
  generalize hw3 : w2.alloc (.cells #[.int .u64 x0, .int .i64 0, .int .i64 0, .int .i64 0, .int .i64 0, .int .i64 0, .int .i64 0, .int .u64 0] 30) = w3 at *
  clear hw3
  generalize w2.heap.size = hb at *
  refine (numberS _ _ _ _ _ _ _ 4 _ HS3.out (by omega) (by omega) (by simp only [List.length_drop]; omega)).mono ?_
  rintro e w4 ⟨rfl, hS4, hc4⟩
  generalize hx1 : wrap64 _ = x1
  have Hx1 := hide hx1
  have HS4 := hide hS4
  have hh4 := hide ((hc4.block hb hl3.out (by have := hs2.out; omega)).trans hh3.out)
  have hz4 := hide ((hc4.block (w.heap.size + 1) (by have := hs2.out; have := hl3.out; omega) (by omega)).trans hz3.out)
  have hl4 := hide (Nat.lt_of_lt_of_le hl3.out hc4.size)
  have hch4 := hide (hch3.out.trans hc4 fun _ h => .inl h)
  clear hx1 hS4 hc4 HS3 hh3 hz3 hl3 hch3
  go_wp2_with fail
  refine (numberS _ _ _ _ _ _ _ 2 _ HS4.out (by omega) (by omega) (by simp only [List.length_drop]; omega)).mono ?_
  rintro e w5 ⟨rfl, hS5, hc5⟩
  generalize hx2 : wrap64 _ = x2
  have Hx2 := hide hx2
  have HS5 := hide hS5
  have hh5 := hide ((hc5.block hb hl4.out (by have := hs2.out; omega)).trans hh4.out)
  have hz5 := hide ((hc5.block (w.heap.size + 1) (by have := hs2.out; have := hl4.out; omega) (by omega)).trans hz4.out)
  have hl5 := hide (Nat.lt_of_lt_of_le hl4.out hc5.size)
  have hch5 := hide (hch4.out.trans hc5 fun _ h => .inl h)
  clear hx2 hS5 hc5 HS4 hh4 hz4 hl4 hch4
  go_wp2_with fail
  refine (numberS _ _ _ _ _ _ _ 1 _ HS5.out (by omega) (by omega) (by simp only [List.length_drop]; omega)).mono ?_
  rintro e w6 ⟨rfl, hS6, hc6⟩
  generalize hx3 : wrap64 _ = x3
  have Hx3 := hide hx3
  have HS6 := hide hS6
  have hh6 := hide ((hc6.block hb hl5.out (by have := hs2.out; omega)).trans hh5.out)
  have hz6 := hide ((hc6.block (w.heap.size + 1) (by have := hs2.out; have := hl5.out; omega) (by omega)).trans hz5.out)
  have hl6 := hide (Nat.lt_of_lt_of_le hl5.out hc6.size)
  have hch6 := hide (hch5.out.trans hc6 fun _ h => .inl h)
  clear hx3 hS6 hc6 HS5 hh5 hz5 hl5 hch5
  go_wp2_with fail
  refine (numberS _ _ _ _ _ _ _ 2 _ HS6.out (by omega) (by omega) (by simp only [List.length_drop]; omega)).mono ?_
  rintro e w7 ⟨rfl, hS7, hc7⟩
  generalize hx4 : wrap64 _ = x4
  have Hx4 := hide hx4
  have HS7 := hide hS7
  have hh7 := hide ((hc7.block hb hl6.out (by have := hs2.out; omega)).trans hh6.out)
  have hz7 := hide ((hc7.block (w.heap.size + 1) (by have := hs2.out; have := hl6.out; omega) (by omega)).trans hz6.out)
  have hl7 := hide (Nat.lt_of_lt_of_le hl6.out hc7.size)
  have hch7 := hide (hch6.out.trans hc7 fun _ h => .inl h)
  clear hx4 hS7 hc7 HS6 hh6 hz6 hl6 hch6
  go_wp2_with fail
  refine (numberS _ _ _ _ _ _ _ 2 _ HS7.out (by omega) (by omega) (by simp only [List.length_drop]; omega)).mono ?_
  rintro e w8 ⟨rfl, hS8, hc8⟩
  generalize hx5 : wrap64 _ = x5
  have Hx5 := hide hx5
  have HS8 := hide hS8
  have hh8 := hide ((hc8.block hb hl7.out (by have := hs2.out; omega)).trans hh7.out)
  have hz8 := hide ((hc8.block (w.heap.size + 1) (by have := hs2.out; have := hl7.out; omega) (by omega)).trans hz7.out)
  have hl8 := hide (Nat.lt_of_lt_of_le hl7.out hc8.size)
  have hch8 := hide (hch7.out.trans hc8 fun _ h => .inl h)
  clear hx5 hS8 hc8 HS7 hh7 hz7 hl7 hch7
  have q1 := (cell_of_row w8 hb 1 _ _ (0, 0) hh8.out)
  have q2 := (cell_of_row w8 hb 2 _ _ (0, 0) hh8.out)
  have q3 := (cell_of_row w8 hb 3 _ _ (0, 0) hh8.out)
  have q4 := (cell_of_row w8 hb 4 _ _ (0, 0) hh8.out)
  have q5 := (cell_of_row w8 hb 5 _ _ (0, 0) hh8.out)
  have qf : ∀ i, w8.frozen? ⟨hb, i, none⟩ = false := fun i => by simp [World.frozen?, hh8.out]
  go_wp2_with fail
  clear q1 q2 q3 q4 q5 qf
  obtain ⟨X, hX⟩ : ∃ X, X = (((((w8.setCell ⟨hb, 1, none⟩ (.int .i64 x1)).setCell ⟨hb, 2, none⟩ (.int .i64 x2)).setCell ⟨hb, 3, none⟩ (.int .i64 x3)).setCell ⟨hb, 4, none⟩ (.int .i64 x4)).setCell ⟨hb, 5, none⟩ (.int .i64 x5)) := ⟨_, rfl⟩
  rw [← hX]
  have hhX : X.heap[hb]? = some (.cells #[.int .u64 x0, .int .i64 x1, .int .i64 x2, .int .i64 x3, .int .i64 x4, .int .i64 x5, .int .i64 0, .int .u64 0] 30 (0, 0)) := by
    rw [hX, set_cs (set_cs (set_cs (set_cs (set_cs hh8.out 1 (.int .i64 x1)) 2 (.int .i64 x2)) 3 (.int .i64 x3)) 4 (.int .i64 x4)) 5 (.int .i64 x5)]
    rfl
  have hcX : Ch (fun b => b = hb) w8 X := by
    rw [hX]
    exact ((((Ch.set w8 ⟨hb, 1, none⟩ _).trans (Ch.set _ ⟨hb, 2, none⟩ _) fun _ h => .inl h).trans (Ch.set _ ⟨hb, 3, none⟩ _) fun _ h => .inl h).trans (Ch.set _ ⟨hb, 4, none⟩ _) fun _ h => .inl h).trans (Ch.set _ ⟨hb, 5, none⟩ _) fun _ h => .inl h
  have HSX := hide (HS8.out.later hcX (fun b e => by subst e; have h2 := hs2.out; exact ⟨by omega, fun hs => by have := HSl.out _ hs; omega, by omega, by omega⟩))
  have HSXd := hide (HSX.out.later (Ch.drew (S := fun _ => False) X) (fun _ h => h.elim))
  have hzX := hide ((hcX.block (w.heap.size + 1) (by have := hs2.out; have := hl8.out; omega) (by have := hs2.out; omega)).trans hz8.out)
  have HhX := hide hhX
  have HcX := hide (hch8.out.trans (S' := fun b => b = hb) hcX (fun b e => .inr (by have := hs2.out; have := hs1.out; omega)))
  have hlX := hide (show hb < X.heap.size by have := hcX.size; have := hl8.out; omega)
  have k0 := HSX.out.cq
  clear hX hhX hcX HS8 hh8 hz8 hch8
  go_region_held (fun y => y.cell? ⟨w.heap.size + 1 + 1, 0, none⟩ = some (.func (.func 37) #[] #[.pointer (some ⟨w.heap.size, 0, none⟩)])) (first | assumption | exact HSXd.out.cq | exact HS9.out.cq | exact (Ch.set _ _ _).cell HS10.out.cq (by have := hs2.out; simp; omega) | exact (Ch.set _ _ _).cell ((Ch.set _ _ _).cell HS10.out.cq (by have := hs2.out; simp; omega)) (by have := hs2.out; simp; omega)) (first
    | (go_at_call 38
       refine (numberS _ _ _ _ _ _ _ 8 _ HSXd.out (by omega) (by omega) (by simp only [List.length_drop]; omega)).mono ?_
       rintro e w9 ⟨rfl, hS9, hc9⟩
       have HS9 := hide hS9
       have hh9 := hide ((hc9.block hb hlX.out (by have := hs2.out; omega)).trans HhX.out)
       have hz9 := hide ((hc9.block (w.heap.size + 1) (by have := hs2.out; have := hlX.out; show _ < X.heap.size; omega) (by omega)).trans hzX.out)
       have hl9 := hide (Nat.lt_of_lt_of_le hlX.out hc9.size)
       have hch9 := hide ((HcX.out.trans (Ch.drew (S := fun _ => False) X) fun _ h => h.elim).trans hc9 fun _ h => .inl h)
       clear hS9 hc9)
    | (go_at_call 37
       refine (nextS _ _ _ _ _ _ _ 8 _ HS9.out (by omega) (by omega) (by simp only [List.length_drop]; omega)).mono ?_
       rintro e w10 ⟨rfl, hS10, hc10⟩
       have HS10 := hide hS10
       have hh10 := hide ((hc10.block hb hl9.out (by have := hs2.out; omega)).trans hh9.out)
       have hz10 := hide ((hc10.block (w.heap.size + 1) (by have := hs2.out; have := hl9.out; omega) (by omega)).trans hz9.out)
       have hl10 := hide (Nat.lt_of_lt_of_le hl9.out hc10.size)
       have hch10 := hide (hch9.out.trans hc10 fun _ h => .inl h)
       have q6 := (cell_of_row w10 hb 6 _ _ (0, 0) hh10.out)
       have q7 := (cell_of_row w10 hb 7 _ _ (0, 0) hh10.out)
       have qf6 : w10.frozen? ⟨hb, 6, none⟩ = false := by simp [World.frozen?, hh10.out]
       have qf7 : w10.frozen? ⟨hb, 7, none⟩ = false := by simp [World.frozen?, hh10.out]
       have k0 := HS10.out.cq
       clear hS10 hc10))
  clear q6 q7 qf6 qf7 k0 HSX HSXd HhX HcX hzX hlX hh9 hz9 hch9 HS9
  generalize hx6 : wrap64 ((getN (List.take 8 (List.drop 19 bs)) : Nat) : Int) = x6
  generalize hx7 : ((getN (List.take 8 (List.drop 27 bs)) : Nat) : Int) = x7
  have Hx6 := hide hx6
  have Hx7 := hide hx7
  clear hx6 hx7
  obtain ⟨Y, hY⟩ : ∃ Y, Y = (w10.setCell ⟨hb, 6, none⟩ (.int .i64 x6)).setCell ⟨hb, 7, none⟩ (.int .u64 x7) := ⟨_, rfl⟩
  rw [← hY]
  have hhY : Y.heap[hb]? = some (.cells #[.int .u64 x0, .int .i64 x1, .int .i64 x2, .int .i64 x3, .int .i64 x4, .int .i64 x5, .int .i64 x6, .int .u64 x7] 30 (0, 0)) := by
    rw [hY, set_cs (set_cs hh10.out 6 (.int .i64 x6)) 7 (.int .u64 x7)]
    rfl
  have hcY : Ch (fun b => b = hb) w10 Y := by
    rw [hY]
    exact (Ch.set w10 ⟨hb, 6, none⟩ _).trans (Ch.set _ ⟨hb, 7, none⟩ _) fun _ h => .inl h
  have HSY := hide (HS10.out.later hcY (fun b e => by subst e; have h2 := hs2.out; exact ⟨by omega, fun hs => by have := HSl.out _ hs; omega, by omega, by omega⟩))
  have hzY := (hcY.block (w.heap.size + 1) (by have := hs2.out; have := hl10.out; omega) (by have := hs2.out; omega)).trans hz10.out
  have HcY := hide (hch10.out.trans (S' := fun b => b = hb) hcY (fun b e => .inr (by have := hs2.out; have := hs1.out; omega)))
  have hlY := hide (show hb < Y.heap.size by have := hcY.size; have := hl10.out; omega)
  have HzY := hide hzY
  have p0 : Y.cell? ⟨hb, 0, none⟩ = some (.int .u64 x0) := cell_of_row Y hb 0 _ _ (0, 0) hhY
  have p1 : Y.cell? ⟨hb, 1, none⟩ = some (.int .i64 x1) := cell_of_row Y hb 1 _ _ (0, 0) hhY
  have p2 : Y.cell? ⟨hb, 2, none⟩ = some (.int .i64 x2) := cell_of_row Y hb 2 _ _ (0, 0) hhY
  have p3 : Y.cell? ⟨hb, 3, none⟩ = some (.int .i64 x3) := cell_of_row Y hb 3 _ _ (0, 0) hhY
  have p4 : Y.cell? ⟨hb, 4, none⟩ = some (.int .i64 x4) := cell_of_row Y hb 4 _ _ (0, 0) hhY
  have p5 : Y.cell? ⟨hb, 5, none⟩ = some (.int .i64 x5) := cell_of_row Y hb 5 _ _ (0, 0) hhY
  have p6 : Y.cell? ⟨hb, 6, none⟩ = some (.int .i64 x6) := cell_of_row Y hb 6 _ _ (0, 0) hhY
  have p7 : Y.cell? ⟨hb, 7, none⟩ = some (.int .u64 x7) := cell_of_row Y hb 7 _ _ (0, 0) hhY
  have r0 : Y.cell? ⟨w.heap.size + 1, 0, none⟩ = some (.int .u64 0) := cell_of_row Y _ 0 _ _ (0, 0) hzY
  have rf0 : Y.frozen? ⟨w.heap.size + 1, 0, none⟩ = false := by simp [World.frozen?, HzY.out]
  have r1 : Y.cell? ⟨w.heap.size + 1, 1, none⟩ = some (.int .i64 0) := cell_of_row Y _ 1 _ _ (0, 0) hzY
  have rf1 : Y.frozen? ⟨w.heap.size + 1, 1, none⟩ = false := by simp [World.frozen?, HzY.out]
  have r2 : Y.cell? ⟨w.heap.size + 1, 2, none⟩ = some (.int .i64 0) := cell_of_row Y _ 2 _ _ (0, 0) hzY
  have rf2 : Y.frozen? ⟨w.heap.size + 1, 2, none⟩ = false := by simp [World.frozen?, HzY.out]
  have r3 : Y.cell? ⟨w.heap.size + 1, 3, none⟩ = some (.int .i64 0) := cell_of_row Y _ 3 _ _ (0, 0) hzY
  have rf3 : Y.frozen? ⟨w.heap.size + 1, 3, none⟩ = false := by simp [World.frozen?, HzY.out]
  have r4 : Y.cell? ⟨w.heap.size + 1, 4, none⟩ = some (.int .i64 0) := cell_of_row Y _ 4 _ _ (0, 0) hzY
  have rf4 : Y.frozen? ⟨w.heap.size + 1, 4, none⟩ = false := by simp [World.frozen?, HzY.out]
  have r5 : Y.cell? ⟨w.heap.size + 1, 5, none⟩ = some (.int .i64 0) := cell_of_row Y _ 5 _ _ (0, 0) hzY
  have rf5 : Y.frozen? ⟨w.heap.size + 1, 5, none⟩ = false := by simp [World.frozen?, HzY.out]
  have r6 : Y.cell? ⟨w.heap.size + 1, 6, none⟩ = some (.int .i64 0) := cell_of_row Y _ 6 _ _ (0, 0) hzY
  have rf6 : Y.frozen? ⟨w.heap.size + 1, 6, none⟩ = false := by simp [World.frozen?, HzY.out]
  have r7 : Y.cell? ⟨w.heap.size + 1, 7, none⟩ = some (.int .u64 0) := cell_of_row Y _ 7 _ _ (0, 0) hzY
  have rf7 : Y.frozen? ⟨w.heap.size + 1, 7, none⟩ = false := by simp [World.frozen?, HzY.out]
  clear hY hhY hcY HS10 hh10 hz10 hch10 hzY
  go_wp2_with fail
  clear p0 r0 rf0 p1 r1 rf1 p2 r2 rf2 p3 r3 rf3 p4 r4 rf4 p5 r5 rf5 p6 r6 rf6 p7 r7 rf7
  obtain ⟨Z, hZ⟩ : ∃ Z, Z = ((((((((Y.setCell ⟨w.heap.size + 1, 0, none⟩ (.int .u64 x0)).setCell ⟨w.heap.size + 1, 1, none⟩ (.int .i64 x1)).setCell ⟨w.heap.size + 1, 2, none⟩ (.int .i64 x2)).setCell ⟨w.heap.size + 1, 3, none⟩ (.int .i64 x3)).setCell ⟨w.heap.size + 1, 4, none⟩ (.int .i64 x4)).setCell ⟨w.heap.size + 1, 5, none⟩ (.int .i64 x5)).setCell ⟨w.heap.size + 1, 6, none⟩ (.int .i64 x6)).setCell ⟨w.heap.size + 1, 7, none⟩ (.int .u64 x7)) := ⟨_, rfl⟩
  rw [← hZ]
  have hhZ : Z.heap[w.heap.size + 1]? = some (.cells #[.int .u64 x0, .int .i64 x1, .int .i64 x2, .int .i64 x3, .int .i64 x4, .int .i64 x5, .int .i64 x6, .int .u64 x7] 30 (0, 0)) := by
    rw [hZ, (set_cs (set_cs (set_cs (set_cs (set_cs (set_cs (set_cs (set_cs HzY.out 0 (.int .u64 x0)) 1 (.int .i64 x1)) 2 (.int .i64 x2)) 3 (.int .i64 x3)) 4 (.int .i64 x4)) 5 (.int .i64 x5)) 6 (.int .i64 x6)) 7 (.int .u64 x7))]
    rfl
  have hcZ : Ch (fun b => b = w.heap.size + 1) Y Z := by
    rw [hZ]
    exact (((((((((((((((Ch.set Y ⟨w.heap.size + 1, 0, none⟩ _)).trans (Ch.set _ ⟨w.heap.size + 1, 1, none⟩ _) fun _ h => .inl h)).trans (Ch.set _ ⟨w.heap.size + 1, 2, none⟩ _) fun _ h => .inl h)).trans (Ch.set _ ⟨w.heap.size + 1, 3, none⟩ _) fun _ h => .inl h)).trans (Ch.set _ ⟨w.heap.size + 1, 4, none⟩ _) fun _ h => .inl h)).trans (Ch.set _ ⟨w.heap.size + 1, 5, none⟩ _) fun _ h => .inl h)).trans (Ch.set _ ⟨w.heap.size + 1, 6, none⟩ _) fun _ h => .inl h)).trans (Ch.set _ ⟨w.heap.size + 1, 7, none⟩ _) fun _ h => .inl h)
  have hSZ := HSY.out.later hcZ (fun b e => by subst e; have h2 := hs2.out; exact ⟨by omega, fun hs => by have := HSl.out _ hs; omega, by omega, by omega⟩)
  have hT : Ch (fun b => b = g ∨ b = w.heap.size + 1) w1 Z := (HcY.out.mono fun b _ e => .inl e).trans hcZ (fun b e => .inl (.inr e))
  have hfin : Ch (· = g) w Z := (Ch.of_below (S := (· = g)) hb1.out).trans hT (fun b h => h.elim .inl (fun e => .inr (by omega)))
  have p0 : Z.cell? ⟨w.heap.size + 1, 0, none⟩ = some (.int .u64 x0) := cell_of_row Z _ 0 _ _ (0, 0) hhZ
  have p1 : Z.cell? ⟨w.heap.size + 1, 1, none⟩ = some (.int .i64 x1) := cell_of_row Z _ 1 _ _ (0, 0) hhZ
  have p2 : Z.cell? ⟨w.heap.size + 1, 2, none⟩ = some (.int .i64 x2) := cell_of_row Z _ 2 _ _ (0, 0) hhZ
  have p3 : Z.cell? ⟨w.heap.size + 1, 3, none⟩ = some (.int .i64 x3) := cell_of_row Z _ 3 _ _ (0, 0) hhZ
  have p4 : Z.cell? ⟨w.heap.size + 1, 4, none⟩ = some (.int .i64 x4) := cell_of_row Z _ 4 _ _ (0, 0) hhZ
  have p5 : Z.cell? ⟨w.heap.size + 1, 5, none⟩ = some (.int .i64 x5) := cell_of_row Z _ 5 _ _ (0, 0) hhZ
  have p6 : Z.cell? ⟨w.heap.size + 1, 6, none⟩ = some (.int .i64 x6) := cell_of_row Z _ 6 _ _ (0, 0) hhZ
  have p7 : Z.cell? ⟨w.heap.size + 1, 7, none⟩ = some (.int .u64 x7) := cell_of_row Z _ 7 _ _ (0, 0) hhZ
  refine bodyPost_ret (v := .agg #[.int .u64 x0, .int .i64 x1, .int .i64 x2, .int .i64 x3, .int .i64 x4, .int .i64 x5, .int .i64 x6, .int .u64 x7]) ?_ rfl ?_
  · simp [results, Try.results25, go_sem, p0, p1, p2, p3, p4, p5, p6, p7]
  have e0 : ((getN (mid bs 0 8) : Nat) : Int) = x0 := by rw [← Hx0.out]; simp [mid]
  have e1 : ((getN (mid bs 8 4) : Nat) : Int) = x1 := by rw [← Hx1.out, wrap_small (List.length_take_le _ _)]; rfl
  have e2 : ((getN (mid bs 12 2) : Nat) : Int) = x2 := by rw [← Hx2.out, wrap_small (Nat.le_trans (List.length_take_le _ _) (by omega))]; simp [mid]
  have e3 : ((getN (mid bs 14 1) : Nat) : Int) = x3 := by rw [← Hx3.out, wrap_small (Nat.le_trans (List.length_take_le _ _) (by omega))]; simp [mid]
  have e4 : ((getN (mid bs 15 2) : Nat) : Int) = x4 := by rw [← Hx4.out, wrap_small (Nat.le_trans (List.length_take_le _ _) (by omega))]; simp [mid]
  have e5 : ((getN (mid bs 17 2) : Nat) : Int) = x5 := by rw [← Hx5.out, wrap_small (Nat.le_trans (List.length_take_le _ _) (by omega))]; simp [mid]
  have e6 : wrap64 ((getN (mid bs 19 8) : Nat) : Int) = x6 := Hx6.out
  have e7 : ((getN (mid bs 27 8) : Nat) : Int) = x7 := Hx7.out
  have hrea := hSZ.rea
  simp only [List.drop_drop] at hrea
  rw [show c - 8 - 4 - 2 - 1 - 2 - 2 - 8 - 8 = c - 35 by omega] at hrea
  exact hR.out _ _ ⟨by rw [e0, e1, e2, e3, e4, e5, e6, e7], ⟨_, hrea⟩, hfin⟩
end Go.Proofs.Ytopfpadfjfmmiaa
