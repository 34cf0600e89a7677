/- One packet, there and back: the laws' first question. -/
import Derived.Test.YtopfpadfjfmmiaaFWb
import Derived.Test.YtopfpadfjfmmiaaFrameRenc
import Derived.Test.YtopfpadfjfmmiaaFrameSame
import Derived.Test.YtopfpadfjfmmiaaOwn
import Derived.Deep.RegionHeld
import Derived.Deep.RegionHeldLaw
set_option linter.unusedVariables false
set_option linter.unusedSimpArgs false
namespace Go.Proofs.Ytopfpadfjfmmiaa
open Go.RowKit

/-- New bytes written out. -/
theorem litB (w : World) (xs : List UInt8) (t : TypeId) : RdL Kd.byte (· = w.heap.size) (w.alloc (.cells (xs.map encB).toArray t)) (some ⟨w.heap.size, 0, none⟩) xs :=
  RdL.block1 rfl (heap_alloc_new w _) rfl fun i x hx => ⟨encB x, by rw [List.getElem?_toArray, List.getElem?_map, hx]; rfl, _, rfl, rfl⟩
theorem Row.rdO {w : World} {e : TypeId} {A : Option Addr} {n c : Nat} {xs : List UInt8} (h : Row w e (.slice A n c) (xs.map encB)) : RdL Kd.byte (fun k => (Value.slice A n c).ownBlock = some k) w A xs := fun hp => by
  obtain ⟨g, post, hw, ho, _⟩ := h.wr
  exact (hw.rdB.mono fun k hk => by subst hk; exact ho hp) hp
theorem Row.rdlt {w : World} {e : TypeId} {A : Option Addr} {n c : Nat} {xs : List UInt8} (h : Row w e (.slice A n c) (xs.map encB)) : RdL Kd.byte (· < w.heap.size) w A xs := h.rdO.mono fun k hk => h.lt hk
/-- Parse of what Encode said. -/
theorem fpar_enc (gc gt : Nat) (s N B Q E F len d : Nat) (pl : List UInt8) (A : Option Addr) (b : List UInt8) (c : Nat) (w : World) (hgc : w.heap[gc]? = some (.cells #[.pointer (some ⟨gt, 0, none⟩)] 62 (0, 0))) (ht : TabAt w gt 256)
    (hb : b = sealL (headL s N B Q E F len d ++ pl)) (hs : s < 18446744073709551616) (hd : d < 18446744073709551616) (hmay : mayH N B Q E F len = true) (hn : pl.length = B)
    (hm : c ≤ maxLen) (hc : b.length ≤ c) (h : RdL Kd.byte (· < w.heap.size) w A b) :
    Calls Try.prog 11 #[.pointer (some ⟨gc, 0, none⟩), .slice A b.length c] w fun e w' =>
      ∃ A' c', e = .returned (.tuple #[.agg #[.int .u64 (s : Int), .int .i64 (N : Int), .int .i64 (B : Int), .int .i64 (Q : Int), .int .i64 (E : Int), .int .i64 (F : Int), .int .i64 (len : Int), .int .u64 (d : Int), .slice A' B c'], .int .i64 0]) ∧ B ≤ c' ∧ c' ≤ maxLen ∧
        RdL Kd.byte (fun k => w.heap.size ≤ k ∧ k < w'.heap.size) w' A' pl ∧ Below w.heap.size w w' := by
  obtain ⟨e0, e3, e11, e15, e17, e18, e20, e22, e30, e38, el⟩ := enc_par hs hd hmay hn hb
  obtain ⟨hm0, -, -⟩ := mayH_bd hmay
  obtain ⟨-, -, hB1, hB2, -⟩ := may_bd hm0
  rcases fErr_cases b with ⟨h0, _⟩ | ⟨h0, _⟩ | ⟨h0, _⟩ | ⟨h0, _⟩ | ⟨h0, _⟩ | ⟨h0, _⟩ | ⟨h0, h1, h2, h3, h4, h5, h6⟩ <;> try (rw [e0] at h0; simp at h0)
  have := fpar0 gc gt A b c w hgc ht hm hc (by omega) h h1 h2 h3 h4 h5 h6
  rw [e3, e11, e15, e17, e18, e20, e22, e30, e38] at this
  exact this

def bS : List UInt8 := sealL (headL 5 3 2 1 1000 2 6 9 ++ [7, 8])
theorem bS_len : bS.length = 44 := (enc_par (s := 5) (N := 3) (B := 2) (Q := 1) (E := 1000) (F := 2) (len := 6) (d := 9) (pl := [7, 8]) (by decide) (by decide) (by decide) rfl rfl).2.2.2.2.2.2.2.2.2.2
theorem fencS (gc gt : Nat) (A : Option Addr) (w : World) (hgc : w.heap[gc]? = some (.cells #[.pointer (some ⟨gt, 0, none⟩)] 62 (0, 0))) (ht : TabAt w gt 256) (hp : RdL Kd.byte (· < w.heap.size) w A [7, 8]) :
    Calls Try.prog 14 #[.pointer (some ⟨gc, 0, none⟩), .agg #[.int .u64 5, .int .i64 3, .int .i64 2, .int .i64 1, .int .i64 1000, .int .i64 2, .int .i64 6, .int .u64 9, .slice A 2 2]] w fun e w' =>
      ∃ v, e = .returned (.tuple #[v, .int .i64 0]) ∧ Fresh w w' v bS :=
  fenc_yes gc gt 5 9 3 2 1 1000 2 6 A [7, 8] 2 _ w hgc ht (by decide) rfl (by decide) (by decide) hp (fun _ h => h)
theorem fparS (gc gt : Nat) (A : Option Addr) (c : Nat) (w : World) (hgc : w.heap[gc]? = some (.cells #[.pointer (some ⟨gt, 0, none⟩)] 62 (0, 0))) (ht : TabAt w gt 256) (hm : c ≤ maxLen) (hc : 44 ≤ c) (h : RdL Kd.byte (· < w.heap.size) w A bS) :
    Calls Try.prog 11 #[.pointer (some ⟨gc, 0, none⟩), .slice A 44 c] w fun e w' =>
      ∃ A' c', e = .returned (.tuple #[.agg #[.int .u64 5, .int .i64 3, .int .i64 2, .int .i64 1, .int .i64 1000, .int .i64 2, .int .i64 6, .int .u64 9, .slice A' 2 c'], .int .i64 0]) ∧ 2 ≤ c' ∧ c' ≤ maxLen ∧
        RdL Kd.byte (fun k => w.heap.size ≤ k ∧ k < w'.heap.size) w' A' [7, 8] ∧ Below w.heap.size w w' := by
  have := fpar_enc gc gt 5 3 2 1 1000 2 6 9 [7, 8] A bS c w hgc ht rfl (by decide) (by decide) (by decide) rfl hm (by rw [bS_len]; exact hc) h
  rw [bS_len] at this
  exact this
theorem cells9 {w : World} {g : Nat} {t : TypeId} {v0 v1 v2 v3 v4 v5 v6 v7 v8 : Value} (h : w.heap[g]? = some (.cells #[v0, v1, v2, v3, v4, v5, v6, v7, v8] t (0, 0))) :
    w.cell? ⟨g, 0, none⟩ = some v0 ∧ w.cell? ⟨g, 1, none⟩ = some v1 ∧ w.cell? ⟨g, 2, none⟩ = some v2 ∧ w.cell? ⟨g, 3, none⟩ = some v3 ∧ w.cell? ⟨g, 4, none⟩ = some v4 ∧ w.cell? ⟨g, 5, none⟩ = some v5 ∧ w.cell? ⟨g, 6, none⟩ = some v6 ∧ w.cell? ⟨g, 7, none⟩ = some v7 ∧ w.cell? ⟨g, 8, none⟩ = some v8 := by
  refine ⟨?_, ?_, ?_, ?_, ?_, ?_, ?_, ?_, ?_⟩ <;> rw [cell_of_row w g _ _ t (0, 0) h] <;> rfl
/-- A packet that is laid down. -/
theorem pbox' (w : World) (v0 v1 v2 v3 v4 v5 v6 v7 v8 : Value) (t : TypeId) : ∃ W, W = w.alloc (.cells #[v0, v1, v2, v3, v4, v5, v6, v7, v8] t) ∧ Below w.heap.size w W ∧ W.heap.size = w.heap.size + 1 ∧
    W.heap[w.heap.size]? = some (.cells #[v0, v1, v2, v3, v4, v5, v6, v7, v8] t (0, 0)) :=
  ⟨_, rfl, balloc w _, by simp, heap_alloc_new w _⟩
set_option maxHeartbeats 1000000 in
theorem fspeaks_calls (w : World) : Calls Try.prog 9 #[] w fun e w' => e = .returned (.bool true) ∧ Below w.heap.size w w' := by
  refine cps fun R hR => ?_
  go_enter Try.func9, Try.ntmps9
  go_wp2_with fail
  refine (fnew_calls w).mono ?_
  rintro e w1 ⟨g, gt, rfl, hg, htab, hb1, hg0, ht0, hg1, ht1⟩
  have Hg := hide hg
  have Ht := hide htab
  clear hg htab
  go_wp2_with fail
  have hbl := balloc w1 (.cells #[.int .u8 7, .int .u8 8] 5)
  have hl := litB w1 [7, 8] 5
  obtain ⟨W, hW, hbW, hWs, hWh⟩ := pbox' (w1.alloc (.cells #[.int .u8 7, .int .u8 8] 5)) (.int .u64 5) (.int .i64 3) (.int .i64 2) (.int .i64 1) (.int .i64 1000) (.int .i64 2) (.int .i64 6) (.int .u64 9) (.slice (some ⟨w1.heap.size, 0, none⟩) 2 2) 32
  rw [← hW]
  have es : (w1.alloc (.cells #[.int .u8 7, .int .u8 8] 5)).heap.size = w1.heap.size + 1 := by simp
  rw [es] at hWs hWh
  have hl2 : RdL Kd.byte (· = w1.heap.size) W (some ⟨w1.heap.size, 0, none⟩) [7, 8] := hl.keep fun k hk => hbW.block k (by subst hk; rw [es]; exact Nat.lt_succ_self _)
  have hb2 : Below w1.heap.size w1 W := hbl.trans (hbW.mono (by omega))
  clear hW hl hbl
  refine (fencS g gt _ W ((hb2.block _ hg1).trans Hg.out) (Ht.out.keep (hb2.block _ ht1)) (hl2.mono fun k hk => by subst hk; omega)).mono ?_
  rintro e w2 ⟨v, rfl, hrow, hb3, -⟩
  obtain ⟨A, c, rfl, h1, h2⟩ := hrow.shape
  have hb4 := hb2.trans (hb3.mono hb2.size)
  have Ho := hide hrow.rdlt
  rw [List.length_map, bS_len] at h1 ⊢
  clear hrow
  go_wp2_with fail
  refine (fparS g gt A c w2 ((hb4.block _ hg1).trans Hg.out) (Ht.out.keep (hb4.block _ ht1)) h2 h1 Ho.out).mono ?_
  rintro e w3 ⟨A', c', rfl, h3, h4, hr2, hb5⟩
  have hb6 := hb4.trans (hb5.mono hb4.size)
  obtain ⟨W3, hW3, hbW3, hWs3, hWh3⟩ := pbox' w3 (.int .u64 5) (.int .i64 3) (.int .i64 2) (.int .i64 1) (.int .i64 1000) (.int .i64 2) (.int .i64 6) (.int .u64 9) (.slice A' 2 c') 32
  have hb7 := hb6.trans (hbW3.mono hb6.size)
  have hwp : W3.heap[w1.heap.size + 1]? = W.heap[w1.heap.size + 1]? := (hbW3.block _ (by have := hb5.size; have := hb3.size; omega)).trans ((hb5.block _ (by have := hb3.size; omega)).trans (hb3.block _ (by omega)))
  obtain ⟨c0, c1, c2, c3, c4, c5, c6, c7, c8⟩ := cells9 (hwp.trans hWh)
  obtain ⟨d0, d1, d2, d3, d4, d5, d6, d7, d8⟩ := cells9 hWh3
  have hw0 := hb1.trans (hb7.mono hb1.size)
  have hp1 : RdL Kd.byte (· < W3.heap.size) W3 (some ⟨w1.heap.size, 0, none⟩) [7, 8] := (hl2.keep fun k hk => (hbW3.block k (by have := hb5.size; have := hb3.size; omega)).trans ((hb5.block _ (by have := hb3.size; omega)).trans (hb3.block _ (by omega)))).mono fun k hk => by have := hb5.size; have := hb3.size; omega
  have hp2 : RdL Kd.byte (· < W3.heap.size) W3 A' [7, 8] := (hr2.keep fun k hk => hbW3.block k hk.2).mono fun k hk => by omega
  have Hs := hide (psame_calls 5 9 3 2 1 1000 2 6 (some ⟨w1.heap.size, 0, none⟩) A' [7, 8] 2 2 c' _ W3 rfl hp1 hp2 (fun _ h => h))
  have HW3 := hide hW3
  clear hW3 hWh3 hWh hb3 hb5 hbW3 hwp hp1 hp2 hr2 hl2
  go_upto_region 7 with fail
  rw [← HW3.out]
  go_wp2_with fail
  refine Hs.out.mono ?_
  rintro e w4 ⟨rfl, hb8⟩
  go_wp2_with fail
  exact hR.out _ _ ⟨rfl, hw0.trans (hb8.mono hw0.size)⟩
end Go.Proofs.Ytopfpadfjfmmiaa
