/- What is wrong with frames that are changed: the plain law. -/
import Derived.Test.YtopfpadfjfmmiaaFrameAny
set_option linter.unusedVariables false
set_option linter.unusedSimpArgs false
namespace Go.Proofs.Ytopfpadfjfmmiaa
open Go.RowKit

theorem mid_congr {b y : List UInt8} {p n : Nat} (h : ∀ i, p ≤ i → i < p + n → y[i]? = b[i]?) : mid y p n = mid b p n := by
  apply List.ext_getElem?
  intro i
  unfold mid
  rw [List.getElem?_take, List.getElem?_take]
  split
  · rw [List.getElem?_drop, List.getElem?_drop]; exact h _ (by omega) (by omega)
  · rfl
theorem mayF_congr {b y : List UInt8} (h : ∀ i, 11 ≤ i → i < 30 → y[i]? = b[i]?) : mayF y = mayF b := by
  unfold mayF
  rw [mid_congr (fun i h1 h2 => h i (by omega) (by omega)), mid_congr (fun i h1 h2 => h i (by omega) (by omega)), mid_congr (fun i h1 h2 => h i (by omega) (by omega)), mid_congr (fun i h1 h2 => h i (by omega) (by omega)), mid_congr (fun i h1 h2 => h i (by omega) (by omega)), mid_congr (fun i h1 h2 => h i (by omega) (by omega))]
theorem getD_congr {b y : List UInt8} {i : Nat} (h : y[i]? = b[i]?) : y.getD i 0 = b.getD i 0 := by
  simp [List.getD, h]
theorem mid02 {b : List UInt8} (h : 2 ≤ b.length) : mid b 0 2 = [b.getD 0 0, b.getD 1 0] := by
  match b, h with
  | x :: y :: r, _ => rfl
theorem getN2 (x y : UInt8) : getN [x, y] = x.toNat * 256 + y.toNat := by
  have h1 := x.toNat_lt
  have h2 := y.toNat_lt
  simp [getN]
  omega
theorem mayH_q0 {N B E F len : Int} : mayH N B 0 E F len = false := by
  cases h : mayH N B 0 E F len
  · rfl
  · have := may_bd (mayH_bd h).1; omega
theorem order_math {se id : UInt64} {N B Q E F len : Int} {pl b : List UInt8} (h0 : encK N B Q E F len pl = 0) (hb : encBs se id N B Q E F len pl = b) :
    b.length = 42 + pl.length ∧ (∀ v : UInt8, v ≠ 1 → fErr (b.set 2 v) = 6) ∧ (∀ v x : UInt8, x = b.getD 0 0 → fErr ((b.set 2 v).set 0 (x + 1)) = 5) ∧
    fErr (sealL (b.take (b.length - 4)) ++ [0]) = 7 ∧ fErr (sealL ((b.take (b.length - 4)).set 17 0) ++ [0]) = 1 := by
  have hl := encBs_len h0 hb
  obtain ⟨n, q, e, f, l, rfl, rfl, rfl, rfl, rfl, rfl, hmay, hb'⟩ := encBs_yes h0 hb
  obtain ⟨hf0, -, -, f15, -, -, -, -, -, -, -⟩ := enc_par se.toNat_lt id.toNat_lt hmay rfl hb'
  have hbl := (may_bd (mayH_bd hmay).1)
  obtain ⟨hz, hx⟩ | ⟨hz, hx⟩ | ⟨hz, hx⟩ | ⟨hz, hx⟩ | ⟨hz, hx⟩ | ⟨hz, hx⟩ | ⟨-, hx, hy, hz, hu, -⟩ := fErr_cases b
  · omega
  · omega
  · omega
  · omega
  · omega
  · omega
  have hm2 := mid02 (b := b) (by omega)
  have h65 : b.getD 0 0 = 65 := by
    rw [hm2, getN2] at hy
    have h1 := (b.getD 0 0).toNat_lt
    have h2 := (b.getD 1 0).toNat_lt
    apply UInt8.toNat_inj.1
    show (b.getD 0 0).toNat = 65
    omega
  have tk : ∀ i, i < 38 + pl.length → (b.take (b.length - 4))[i]? = b[i]? := fun i hi => by rw [List.getElem?_take_of_lt (by omega)]
  have tl : (b.take (b.length - 4)).length = 38 + pl.length := by rw [List.length_take]; omega
  have sk : ∀ (z : List UInt8) i, i < z.length → (sealL z ++ [0])[i]? = z[i]? := fun z i hi => by
    rw [List.getElem?_append_left (by rw [sealL_len]; omega), sealL, List.getElem?_append_left hi]
  refine ⟨hl, fun v hv => ?_, fun v x hx => ?_, ?_, ?_⟩
  · have e0 : mid (b.set 2 v) 0 2 = mid b 0 2 := mid_congr fun i h1 h2 => by rw [List.getElem?_set_ne (by omega)]
    have e2 : (b.set 2 v).getD 2 0 = v := by simp [List.getD, show 2 < b.length by omega]
    unfold fErr
    rw [List.length_set, if_neg (by omega), e0, if_neg (by omega), e2, if_pos hv]
  · subst hx
    have e0 : mid ((b.set 2 v).set 0 (b.getD 0 0 + 1)) 0 2 = [66, b.getD 1 0] := by
      rw [mid02 (by simp; omega)]
      congr 1
      · rw [h65]; simp [List.getD, show 0 < b.length by omega]
      · congr 1
        exact getD_congr (by rw [List.getElem?_set_ne (by omega), List.getElem?_set_ne (by omega)])
    unfold fErr
    rw [List.length_set, List.length_set, if_neg (by omega), e0, getN2, if_pos]
    have := (b.getD 1 0).toNat_lt
    show (66 : UInt8).toNat * 256 + _ ≠ _
    have : (66 : UInt8).toNat = 66 := rfl
    omega
  · have ek : ∀ i, i < 38 → (sealL (b.take (b.length - 4)) ++ [0])[i]? = b[i]? := fun i hi => by rw [sk _ i (by omega), tk i (by omega)]
    have e0 := mid_congr (p := 0) (n := 2) fun i h1 h2 => ek i (by omega)
    have e2 := getD_congr (ek 2 (by omega))
    have em := mayF_congr fun i h1 h2 => ek i (by omega)
    have e15 := mid_congr (p := 15) (n := 2) fun i h1 h2 => ek i (by omega)
    unfold fErr
    rw [List.length_append, sealL_len, tl, List.length_singleton, if_neg (by omega), e0, if_neg (by omega), e2, hz, if_neg (by simp), em, hu, if_neg (by simp), e15, f15, if_pos (by omega)]
  · have ek : ∀ i, i < 38 → i ≠ 17 → (sealL ((b.take (b.length - 4)).set 17 0) ++ [0])[i]? = b[i]? := fun i hi h17 => by
      rw [sk _ i (by rw [List.length_set]; omega), List.getElem?_set_ne (by omega), tk i (by omega)]
    have e0 := mid_congr (p := 0) (n := 2) fun i h1 h2 => ek i (by omega) (by omega)
    have e2 := getD_congr (ek 2 (by omega) (by omega))
    have e17 : mid (sealL ((b.take (b.length - 4)).set 17 0) ++ [0]) 17 1 = [0] := by
      have : (sealL ((b.take (b.length - 4)).set 17 0) ++ [0])[17]? = some 0 := by
        rw [sk _ 17 (by rw [List.length_set]; omega), List.getElem?_set_self (by omega)]
      apply List.ext_getElem?
      intro i
      unfold mid
      rw [List.getElem?_take]
      match i with
      | 0 => simpa using this
      | i + 1 => simp
    unfold fErr
    rw [List.length_append, sealL_len, List.length_set, tl, List.length_singleton, if_neg (by omega), e0, if_neg (by omega), e2, hz, if_neg (by simp), if_pos]
    unfold mayF
    rw [e17]
    exact mayH_q0
end Go.Proofs.Ytopfpadfjfmmiaa
