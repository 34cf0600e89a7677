/- Counting: the keys of a map, and the blocks in use. -/
import Derived.Test.YtfkofhdgokhodaaInn1
import Derived.Test.YtfkofhdgokhodaaMapF
set_option linter.unusedVariables false
set_option linter.unusedSimpArgs false
namespace Go.Proofs.Ytfkofhdgokhodaa
open Go.RowKit

theorem nodup_sub_len {α : Type} [DecidableEq α] : ∀ {l m : List α}, l.Nodup → (∀ x ∈ l, x ∈ m) → l.length ≤ m.length
  | [], m, _, _ => Nat.zero_le _
  | a :: l, m, h, hs => by
    obtain ⟨h1, h2⟩ := List.nodup_cons.1 h
    have hm : a ∈ m := hs a List.mem_cons_self
    have := nodup_sub_len (l := l) (m := m.erase a) h2 fun x hx => by
      have hne : x ≠ a := fun e => h1 (e ▸ hx)
      rw [List.mem_erase_of_ne hne]
      exact hs x (List.mem_cons_of_mem _ hx)
    rw [List.length_erase_of_mem hm] at this
    have hp : 0 < m.length := List.length_pos_of_mem hm
    rw [List.length_cons]; omega
def upto (a : Nat) : List Int := (List.range a).map Int.ofNat
theorem upto_len (a : Nat) : (upto a).length = a := by simp [upto]
theorem upto_nodup (a : Nat) : (upto a).Nodup := by
  unfold upto
  rw [List.nodup_iff_pairwise_ne, List.pairwise_map]
  exact List.nodup_range.imp fun h e => h (Int.ofNat.inj e)
theorem mem_upto {a : Nat} {x : Int} : x ∈ upto a ↔ 0 ≤ x ∧ x < (a : Int) := by
  unfold upto
  constructor
  · intro h
    obtain ⟨i, hi, rfl⟩ := List.mem_map.1 h
    have := List.mem_range.1 hi
    constructor
    · exact Int.natCast_nonneg i
    · show (i : Int) < (a : Int); omega
  · rintro ⟨h1, h2⟩
    exact List.mem_map.2 ⟨x.toNat, List.mem_range.2 (by omega), by show ((x.toNat : Nat) : Int) = x; omega⟩
theorem keys_len_le {K : List Int} {a : Nat} (h : K.Nodup) (hb : ∀ x ∈ K, 0 ≤ x ∧ x < (a : Int)) : K.length ≤ a := by
  have := nodup_sub_len h fun x hx => mem_upto.2 (hb x hx)
  rwa [upto_len] at this
theorem keys_len_all {K : List Int} {a : Nat} (h : K.Nodup) (hb : ∀ x ∈ K, 0 ≤ x ∧ x < (a : Int)) (ha : ∀ j, j < a → (j : Int) ∈ K) : K.length = a := by
  refine Nat.le_antisymm (keys_len_le h hb) ?_
  have := nodup_sub_len (m := K) (upto_nodup a) fun x hx => by
    obtain ⟨h1, h2⟩ := mem_upto.1 hx
    have := ha x.toNat (by omega)
    rwa [show ((x.toNat : Nat) : Int) = x by omega] at this
  rwa [upto_len] at this
/-- How many blocks of b bytes an object of n bytes fills, or begins. -/
def blkN (n b : Nat) : Nat := (n + b - 1) / b
theorem blkN_lt {n b t : Nat} (hb : 1 ≤ b) : t * b < n ↔ t < blkN n b := by
  unfold blkN
  rw [Nat.lt_div_iff_mul_lt (by omega)]
  have : n + b - 1 - (b - 1) = n := by omega
  rw [this, Nat.mul_comm]
theorem blkN_le {n b k : Nat} (hb : 1 ≤ b) (h : n ≤ k * b) : blkN n b ≤ k := by
  rcases Nat.lt_or_ge k (blkN n b) with h1 | h1
  · have := (blkN_lt (n := n) hb).2 h1; omega
  · exact h1
theorem aux_20 {q n : Nat} {E : Int} (hn : n ≤ 20) (hn1 : 1 ≤ n) (hq1 : 1 ≤ q) (hq : q ≤ 3) (hE : 1 ≤ E) (hE2 : E ≤ 1000) : ∃ a : Nat, auxI (q : Int) E (n : Int) = (a : Int) ∧ 1 ≤ a ∧ a ≤ 33 := by
  have h1 : 55 * (q : Int) * E ≤ 165 * 1000 := Int.mul_le_mul (by omega) hE2 (by omega) (by omega)
  have h3 : 55 * (q : Int) * E * (n : Int) ≤ 165000 * 20 := Int.mul_le_mul (by omega) (by omega) (by omega) (by omega)
  have hb := aux_bd (Q := (q : Int)) (E := E) (N := (n : Int)) (by omega) (by omega) (by omega) (by omega) hE hE2
  have hc : auxI (q : Int) E (n : Int) ≤ 33 := by unfold auxI; split <;> omega
  exact ⟨(auxI (q : Int) E (n : Int)).toNat, by omega, by omega, by omega⟩
theorem chkL_bd {A d ses id : Nat} {x : Int} (h : x ∈ chkL A d ses id) : 0 ≤ x ∧ x < (A : Int) := someL_bd (Nat.min_le_right _ _) _ h
theorem chkL_len (A d ses id : Nat) : (chkL A d ses id).length = min d A := someL_len _ _ _
theorem of_choice {F E : Nat} (m : May F E) (u : Nat → Nat) : ∃ D : Nat → Nat, ∀ id, IsOf F E (u id) (D id) := Classical.axiomOfChoice fun id => of_exists m (u id)
theorem u64_nat {i : Nat} (h : i < 18446744073709551616) : ((UInt64.ofNat i).toNat : Int) = (i : Int) := by
  rw [UInt64.toNat_ofNat_of_lt' (by simpa using h)]
/-- A check block, by its number. -/
theorem iblk_at {F E : Nat} (m : May F E) (B g tb ses id a d : Nat) (w : World) (hs : ses < 18446744073709551616) (hi : id < 18446744073709551616) (h : InnAt w B g tb (UInt64.ofNat ses) a (belL F E (F - 1))) (ha : a ≤ 1000000) (hd : IsOf F E (chkU ses id) d) :
    Calls Try.prog 17 #[.pointer (some ⟨g, 0, none⟩), .int .u64 (id : Int)] w fun e w' => ∃ A c, e = .returned (.slice A (min d a) c) ∧ Row w' 3 (.slice A (min d a) c) ((chkL a d ses id).map encI) ∧ (∀ z, (Value.slice A (min d a) c).ownBlock = some z → w.heap.size ≤ z) ∧ Below w.heap.size w w' := by
  have := iblocks_calls m B g tb (UInt64.ofNat ses) (UInt64.ofNat id) a d w h ha hd
  rw [u64_nat hi] at this
  refine this.mono ?_
  rintro e w' ⟨v, rfl, hv, hz, hb⟩
  obtain ⟨A, c, rfl, -, -⟩ := hv.shape
  rw [show someL a (min d a) (seedF [UInt64.ofNat ses, 2, UInt64.ofNat id] + stepC) = chkL a d ses id from rfl] at hv hz ⊢
  rw [List.length_map, chkL_len] at hv hz ⊢
  exact ⟨A, c, rfl, hv, hz, hb⟩
end Go.Proofs.Ytfkofhdgokhodaa
