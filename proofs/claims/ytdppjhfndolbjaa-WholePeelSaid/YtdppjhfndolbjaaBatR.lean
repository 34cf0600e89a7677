/- The reference's small functions of layers 9 and 16: Has, Insert, Left, Fits. -/
import Derived.Test.YtdppjhfndolbjaaBatI
import Derived.Test.YtdppjhfndolbjaaCat
set_option linter.unusedVariables false
set_option linter.unusedSimpArgs false
namespace Go.Proofs.Ytdppjhfndolbjaa
open Go.RowKit

/-! ### The plain words -/
def hasI (l : List Int) (n : Int) : Bool := decide (n ∈ l)
def insP (n : Int) (p : List Int × Bool) (x : Int) : List Int × Bool := if p.2 = false ∧ n < x then (p.1 ++ [n] ++ [x], true) else (p.1 ++ [x], p.2)
def insK (l : List Int) (n : Int) (k : Nat) : List Int × Bool := (l.take k).foldl (insP n) ([], false)
def insR : List Int → Int → List Int
  | [], n => [n]
  | x :: r, n => if n < x then n :: x :: r else x :: insR r n
theorem insP_true (n : Int) : ∀ (l acc : List Int), l.foldl (insP n) (acc, true) = (acc ++ l, true)
  | [], acc => by simp
  | x :: r, acc => by
    rw [List.foldl_cons]
    show r.foldl (insP n) (acc ++ [x], true) = _
    rw [insP_true n r]; simp
theorem insP_all (n : Int) : ∀ (l acc : List Int), (if (l.foldl (insP n) (acc, false)).2 then (l.foldl (insP n) (acc, false)).1 else (l.foldl (insP n) (acc, false)).1 ++ [n]) = acc ++ insR l n
  | [], acc => by simp [insR]
  | x :: r, acc => by
    rw [List.foldl_cons]
    by_cases h : n < x
    · rw [show insP n (acc, false) x = (acc ++ [n] ++ [x], true) by simp [insP, h], insP_true]
      simp [insR, h]
    · rw [show insP n (acc, false) x = (acc ++ [x], false) by simp [insP, h], insP_all n r]
      simp [insR, h]
theorem insK_succ {l : List Int} {n : Int} {k : Nat} (hk : k < l.length) : insK l n (k + 1) = insP n (insK l n k) l[k] := by
  rw [insK, List.take_succ_eq_append_getElem hk, List.foldl_append]; rfl
theorem insK_all (l : List Int) (n : Int) : (if (insK l n l.length).2 then (insK l n l.length).1 else (insK l n l.length).1 ++ [n]) = insR l n := by
  have := insP_all n l []
  rw [insK, List.take_length]
  simpa using this
theorem insP_len (n : Int) (p : List Int × Bool) (x : Int) : (insP n p x).1.length ≤ p.1.length + 2 := by
  unfold insP; split <;> simp
theorem insK_len (l : List Int) (n : Int) (k : Nat) : (insK l n k).1.length ≤ 2 * k := by
  induction k with
  | zero => simp [insK]
  | succ k ih =>
    by_cases hk : k < l.length
    · rw [insK_succ hk]
      have := insP_len n (insK l n k) l[k]
      omega
    · have e : l.take (k + 1) = l.take k := by rw [List.take_of_length_le (by omega), List.take_of_length_le (by omega)]
      rw [insK, e]
      have : (insK l n k).1.length ≤ 2 * k := ih
      rw [insK] at this
      omega
theorem insR_mem {n y : Int} : ∀ {l : List Int}, y ∈ insR l n ↔ y = n ∨ y ∈ l
  | [] => by simp [insR]
  | x :: r => by
    unfold insR
    split
    · simp
    · rw [List.mem_cons, insR_mem, List.mem_cons]
      constructor
      · rintro (h | h | h)
        · exact .inr (.inl h)
        · exact .inl h
        · exact .inr (.inr h)
      · rintro (h | h | h)
        · exact .inr (.inl h)
        · exact .inl h
        · exact .inr (.inr h)
theorem insR_sorted {n : Int} : ∀ {l : List Int}, l.Pairwise (· < ·) → n ∉ l → (insR l n).Pairwise (· < ·)
  | [], _, _ => by simp [insR]
  | x :: r, h, hn => by
    obtain ⟨h1, h2⟩ := List.pairwise_cons.1 h
    unfold insR
    split
    · rename_i hlt
      exact List.pairwise_cons.2 ⟨fun y hy => by
        rcases List.mem_cons.1 hy with rfl | hy
        · exact hlt
        · exact Int.lt_trans hlt (h1 y hy), h⟩
    · rename_i hlt
      refine List.pairwise_cons.2 ⟨fun y hy => ?_, insR_sorted h2 fun hm => hn (List.mem_cons_of_mem _ hm)⟩
      rcases insR_mem.1 hy with rfl | hy
      · have : y ≠ x := fun e => hn (e ▸ List.mem_cons_self ..)
        omega
      · exact h1 y hy
theorem sorted_ext : ∀ {a b : List Int}, a.Pairwise (· < ·) → b.Pairwise (· < ·) → (∀ x, x ∈ a ↔ x ∈ b) → a = b
  | [], [], _, _, _ => rfl
  | [], y :: b, _, _, h => by have := (h y).2 (List.mem_cons_self ..); cases this
  | x :: a, [], _, _, h => by have := (h x).1 (List.mem_cons_self ..); cases this
  | x :: a, y :: b, ha, hb, h => by
    obtain ⟨a1, a2⟩ := List.pairwise_cons.1 ha
    obtain ⟨b1, b2⟩ := List.pairwise_cons.1 hb
    have e : x = y := by
      rcases List.mem_cons.1 ((h x).1 (List.mem_cons_self ..)) with e | e
      · exact e
      · rcases List.mem_cons.1 ((h y).2 (List.mem_cons_self ..)) with e' | e'
        · exact e'.symm
        · have := b1 x e; have := a1 y e'; omega
    subst e
    congr 1
    refine sorted_ext a2 b2 fun z => ?_
    constructor
    · intro hz
      rcases List.mem_cons.1 ((h z).1 (List.mem_cons_of_mem _ hz)) with e | e
      · have := a1 z hz; omega
      · exact e
    · intro hz
      rcases List.mem_cons.1 ((h z).2 (List.mem_cons_of_mem _ hz)) with e | e
      · have := b1 z hz; omega
      · exact e
theorem knT_sorted (vs : Vals) (m : Nat) : (knT vs m).Pairwise (· < ·) := by
  unfold knT
  refine List.pairwise_map.2 ?_
  exact (List.Pairwise.filter _ List.pairwise_lt_range).imp fun h => by omega
theorem knT_iff {vs : Vals} {m : Nat} {i : Int} : i ∈ knT vs m ↔ (∃ k : Nat, i = (k : Int) ∧ k < m) ∧ knB vs i = true := by
  constructor
  · intro h
    obtain ⟨k, hk, rfl⟩ := List.mem_map.1 h
    obtain ⟨h1, h2⟩ := List.mem_filter.1 hk
    exact ⟨⟨k, rfl, List.mem_range.1 h1⟩, by rw [knB_nat]; exact h2⟩
  · rintro ⟨⟨k, rfl, hk⟩, h2⟩
    rw [knB_nat] at h2
    exact List.mem_map.2 ⟨k, List.mem_filter.2 ⟨List.mem_range.2 hk, h2⟩, rfl⟩
/-- Among those that are known is what is known. -/
theorem has_kn {vs : Vals} {m : Nat} (hm : vs.length = m) (i : Int) : hasI (knT vs m) i = knB vs i := by
  rw [hasI]
  cases h : knB vs i with
  | true =>
    obtain ⟨k, b, rfl, hb⟩ := knB_iff.1 h
    exact decide_eq_true (knT_iff.2 ⟨⟨k, rfl, by have := (List.getElem?_eq_some_iff.1 hb).1; omega⟩, h⟩)
  | false => exact decide_eq_false fun hm => by rw [(knT_iff.1 hm).2] at h; cases h
theorem ins_kn {vs : Vals} {m k : Nat} {b : List UInt8} (hm : vs.length = m) (hk : k < m) (hn : knB vs (k : Int) = false) : insR (knT vs m) (k : Int) = knT (vs.set k (some b)) m := by
  have hkl : k < vs.length := by omega
  refine sorted_ext (insR_sorted (knT_sorted _ _) fun h => by rw [(knT_iff.1 h).2] at hn; cases hn) (knT_sorted _ _) fun x => ?_
  rw [insR_mem, knT_iff, knT_iff, (kn_set hkl b x).1, Bool.or_eq_true, decide_eq_true_eq]
  constructor
  · rintro (rfl | ⟨h1, h2⟩)
    · exact ⟨⟨k, rfl, hk⟩, .inl rfl⟩
    · exact ⟨h1, .inr h2⟩
  · rintro ⟨h1, h2 | h2⟩
    · exact .inl h2
    · exact .inr ⟨h1, h2⟩
theorem hasI_no {l : List Int} {n : Int} (h : ∀ j (hj : j < l.length), l[j] ≠ n) : hasI l n = false := decide_eq_false fun hm => by
  obtain ⟨j, hj, e⟩ := List.getElem_of_mem hm
  exact h j hj e
theorem OI.lit0 (w : World) : OI w (w.alloc (.cells #[] 3)) (.slice (some ⟨w.heap.size, 0, none⟩) 0 0) [] :=
  ⟨Row.lit (w := w) (e := 3) [] (by simp), fun z hz => by have hz' : some w.heap.size = some z := hz; injection hz' with hz'; omega, balloc w _⟩
set_option maxHeartbeats 2000000 in
theorem rhas_calls (A : Option Addr) (l : List Int) (c : Nat) (n : Int) (S : Nat → Prop) (w : World) (hm : c ≤ maxLen) (hc : l.length ≤ c) (h : RdL kInt S w A l) :
    Calls Try.prog 14 #[.slice A l.length c, .int .i64 n] w fun e w' => e = .returned (.bool (hasI l n)) ∧ w = w' := by
  refine cps fun R hR => ?_
  unfold maxLen at hm
  have H := hide h
  obtain ⟨L, hL⟩ : ∃ L, L = l.length := ⟨_, rfl⟩
  rw [← hL] at hc ⊢
  have HL := hide hL
  clear h hL
  go_enter Try.func14, Try.ntmps14
  go_wp2_with fail
  go_loop [5] (fun i => ∃ k : Nat, k ≤ L ∧ i = .int .i64 (k : Int) ∧ ∀ j (hj : j < l.length), j < k → l[j] ≠ n) (fun i => L - (intOf i).toNat)
  case atStart => exact ⟨0, Nat.zero_le _, rfl, fun j hj h => absurd h (by omega)⟩
  case round =>
    obtain ⟨k, hk, rfl, hall⟩ := hrel
    have Hall := hide hall
    clear hall
    by_cases hlt : k < L
    · have hkl : k < l.length := by rw [← HL.out]; exact hlt
      obtain ⟨b, off, u, rfl, -, hu, hcx⟩ := H.out.at1 rfl hkl
      obtain rfl := (Kd.int_cell hu).1
      obtain ⟨x, hx⟩ : ∃ x, x = l[k] := ⟨_, rfl⟩
      rw [← hx] at hcx
      have Hx := hide hx
      have i1 : (0 : Int) ≤ (k : Int) := by omega
      have i2 : (k : Int) < (L : Int) := by omega
      clear hu hx
      by_cases h1 : x = n
      · have e1 : (x == n) = true := by simp [h1]
        have hyes := hide (show hasI l n = true from decide_eq_true (by rw [← h1, Hx.out]; exact List.getElem_mem hkl))
        clear h1
        go_wp2_with fail
        exact hR.out _ _ ⟨by rw [hyes.out], rfl⟩
      · have e1 : (x == n) = false := by simp [h1]
        have H1 := hide h1
        clear h1
        go_wp2_with fail
        go_round
        case rel => exact ⟨k + 1, by omega, by go_num, fun j hj hjk => by
          rcases Nat.lt_or_ge j k with h | h
          · exact Hall.out j hj h
          · obtain rfl : j = k := by omega
            rw [← Hx.out]; exact H1.out⟩
        case measure => simp [intOf]; omega
    · obtain rfl : k = L := by omega
      have hno := hide (hasI_no (l := l) (n := n) fun j hj => Hall.out j hj (by have := HL.out; omega))
      go_wp2_with fail
      exact hR.out _ _ ⟨by rw [hno.out], rfl⟩
set_option maxHeartbeats 2000000 in
theorem rleft_calls {K A : Option Addr} {kn of : List Int} {ck c : Nat} {S : Nat → Prop} {w : World} (hkc : kn.length ≤ ck) (hkm : ck ≤ maxLen) (hc : of.length ≤ c) (hm : c ≤ maxLen) (hl : of.length ≤ 100000) (hk : RdL kInt S w K kn) (h : RdL kInt S w A of) (hS : ∀ k, S k → k < w.heap.size) :
    Calls Try.prog 27 #[.slice K kn.length ck, .slice A of.length c] w fun e w' => ∃ v, e = .returned v ∧ OI w w' v (of.filter fun i => !hasI kn i) := by
  refine cps fun R hR => ?_
  have Hkm := hide hkm
  unfold maxLen at hm
  have HK := hide hk
  have H := hide h
  have HS := hide hS
  obtain ⟨L, hL⟩ : ∃ L, L = of.length := ⟨_, rfl⟩
  rw [← hL] at hc hl ⊢
  have HL := hide hL
  obtain ⟨lk, hlk⟩ : ∃ lk, lk = kn.length := ⟨_, rfl⟩
  rw [← hlk] at hkc ⊢
  have Hlk := hide hlk
  have H0 := hide (OI.lit0 w)
  clear h hL hk hS hlk hkm
  go_enter Try.func27, Try.ntmps27
  go_wp2_with fail
  go_loopw [5, 6] (fun v i wr => ∃ k : Nat, k ≤ L ∧ i = .int .i64 (k : Int) ∧ OI w wr v ((of.take k).filter fun i => !hasI kn i)) (fun _ i _ => L - (intOf i).toNat)
  case atStart => exact ⟨0, Nat.zero_le _, rfl, H0.out⟩
  case round =>
    obtain ⟨k, hkl, rfl, ho⟩ := hrel
    obtain ⟨Ao, co, rfl, hco, hcm⟩ := ho.shape
    by_cases hlt : k < L
    · have hko : k < of.length := by rw [← HL.out]; exact hlt
      obtain ⟨b, off, u, rfl, -, hu, hcx⟩ := (H.out.keep (w' := wr) fun z hz => ho.bel.block z (HS.out z hz)).at1 rfl hko
      obtain rfl := (Kd.int_cell hu).1
      have htk : (of.take (k + 1)).filter (fun i => !hasI kn i) = (of.take k).filter (fun i => !hasI kn i) ++ (if hasI kn of[k] = true then [] else [of[k]]) := by
        rw [List.take_succ_eq_append_getElem hko, List.filter_append]
        congr 1
        cases h : hasI kn of[k] <;> simp [h]
      have hll : ((of.take k).filter (fun i => !hasI kn i)).length ≤ k := by
        have h1 : ((of.take k).filter (fun i => !hasI kn i)).length ≤ (of.take k).length := List.length_filter_le _ _
        rw [List.length_take] at h1; omega
      obtain ⟨x, hx⟩ : ∃ x, x = of[k] := ⟨_, rfl⟩
      rw [← hx] at hcx htk
      have Htk := hide htk
      have hkx := rhas_calls K kn ck x S wr Hkm.out (by rw [← Hlk.out]; exact hkc) (HK.out.keep (w' := wr) fun z hz => ho.bel.block z (HS.out z hz))
      rw [← Hlk.out] at hkx
      obtain ⟨ys, hys⟩ : ∃ ys, ys = (of.take k).filter (fun i => !hasI kn i) := ⟨_, rfl⟩
      rw [← hys] at ho hco hll Htk ⊢
      obtain ⟨kb, hkb⟩ : ∃ kb, kb = hasI kn x := ⟨_, rfl⟩
      rw [← hkb] at Htk hkx
      have Hkx := hide hkx
      have Ho := hide ho
      have Hll := hide hll
      have i1 : (0 : Int) ≤ (k : Int) := by omega
      have i2 : (k : Int) < (L : Int) := by omega
      clear ho hu htk hx hys hkb hll hkx
      go_wp2_with fail
      refine Hkx.out.mono ?_
      rintro _ w2 ⟨rfl, rfl⟩
      cases kb
      · have hr7 := hide (Ho.out.row.keep (w' := wr.alloc (.cells #[.int .i64 x] 3)) fun z hz => (balloc wr _).block z (Ho.out.row.lt hz))
        have s7 := hide (Src.lit1 wr (.int .i64 x) 3)
        have hym := hide (show (ys.map encI).length = ys.length from List.length_map _)
        go_wp2_with (at_builtin; with_reducible refine wp_app 27 rfl rfl (.tmp 21) (.tmp 26) 31 rfl Try.underlying31 infoI ?_ (us := ys.map encI) ?_ hr7.out (A := some ⟨wr.heap.size, 0, none⟩) (c := 1) (news := [.int .i64 x]) ?_ s7.out ?_ ?_ ?_ ?_)
        case refine_1 => rfl
        case refine_2 => rfl
        case refine_3 => rfl
        case refine_4 => intro u hu; simp at hu; subst hu; rfl
        case refine_5 => have := Hll.out; rw [hym.out, List.length_singleton]; omega
        case refine_6 => have := Hll.out; rw [hym.out, List.length_singleton]; unfold maxLen; omega
        case refine_7 =>
          intro v5 w5 hr5 g5 o5
          have Hnew := hide (Ho.out.push hr5 g5 o5)
          clear hr5 g5 o5
          go_wp2_with fail
          go_roundw
          case rel => exact ⟨k + 1, by omega, by go_num, by rw [Htk.out]; exact Hnew.out⟩
          case measure => simp [intOf]; omega
      · go_wp2_with fail
        go_roundw
        case rel => exact ⟨k + 1, by omega, by go_num, by rw [Htk.out, if_pos (by first | rfl | trivial), List.append_nil]; exact Ho.out⟩
        case measure => simp [intOf]; omega
    · obtain rfl : k = L := by omega
      have hfull : of.take k = of := List.take_of_length_le (by rw [← HL.out]; exact Nat.le_refl _)
      rw [hfull] at ho hco ⊢
      have Ho := hide ho
      clear ho hfull
      go_wp2_with fail
      exact hR.out _ _ ⟨_, rfl, Ho.out⟩
set_option maxHeartbeats 4000000 in
theorem rins_calls {A : Option Addr} {l : List Int} {c : Nat} {n : Int} {S : Nat → Prop} {w : World} (hc : l.length ≤ c) (hm : c ≤ maxLen) (hl : l.length ≤ 100000) (h : RdL kInt S w A l) (hS : ∀ k, S k → k < w.heap.size) :
    Calls Try.prog 30 #[.slice A l.length c, .int .i64 n] w fun e w' => ∃ v, e = .returned v ∧ OI w w' v (insR l n) := by
  refine cps fun R hR => ?_
  unfold maxLen at hm
  have H := hide h
  have HS := hide hS
  obtain ⟨L, hL⟩ : ∃ L, L = l.length := ⟨_, rfl⟩
  rw [← hL] at hc hl ⊢
  have HL := hide hL
  have H0 := hide (OI.lit0 w)
  clear h hL hS
  go_enter Try.func30, Try.ntmps30
  go_wp2_with fail
  go_loopw [5, 6, 7] (fun v p i wr => ∃ k : Nat, k ≤ L ∧ i = .int .i64 (k : Int) ∧ p = .bool (insK l n k).2 ∧ OI w wr v (insK l n k).1) (fun _ _ i _ => L - (intOf i).toNat)
  case atStart => exact ⟨0, Nat.zero_le _, rfl, rfl, H0.out⟩
  case round =>
    obtain ⟨k, hkl, rfl, rfl, ho⟩ := hrel
    obtain ⟨Ao, co, rfl, hco, hcm⟩ := ho.shape
    by_cases hlt : k < L
    · have hko : k < l.length := by rw [← HL.out]; exact hlt
      obtain ⟨b, off, u, rfl, -, hu, hcw⟩ := H.out.at1 rfl hko
      obtain rfl := (Kd.int_cell hu).1
      have hsu := insK_succ (n := n) hko
      have hll := insK_len l n k
      obtain ⟨x, hx⟩ : ∃ x, x = l[k] := ⟨_, rfl⟩
      rw [← hx] at hcw hsu
      have hcx := keep8 hcw ho.bel
      have Hcw := hide hcw
      obtain ⟨⟨ys, pt⟩, hys⟩ : ∃ ys, ys = insK l n k := ⟨_, rfl⟩
      rw [← hys] at ho hco hsu hll ⊢
      simp only at ho hco hll ⊢
      have Hsu := hide hsu
      have Ho := hide ho
      have Hll := hide hll
      have i1 : (0 : Int) ≤ (k : Int) := by omega
      have i2 : (k : Int) < (L : Int) := by omega
      clear ho hu hsu hx hys hll hcw
      cases pt
      · obtain ⟨tn, htn⟩ : ∃ tn : Bool, tn = decide (n < x) := ⟨_, rfl⟩
        have Htn := hide htn
        have t1 : decide (n < x) = tn := htn.symm
        clear htn
        go_upto_if 24 with fail
        go_cut [5, 6] from 24 to 28 (fun v p wx => ∃ (ys' : List Int) (pt' : Bool), p = .bool pt' ∧ OI w wx v ys' ∧ insK l n (k + 1) = (ys' ++ [x], pt') ∧ ys'.length ≤ 2 * k + 1)
        case first =>
          clear t1
          cases tn
          · have hst := hide (show insK l n (k + 1) = (ys ++ [x], false) by
              have h1 : ¬ n < x := by simpa using Htn.out.symm
              rw [Hsu.out]; simp [insP, h1])
            go_wp2_with fail
            go_meet
            case rel => exact ⟨ys, false, rfl, Ho.out, hst.out, by have := Hll.out; omega⟩
          · have hst := hide (show insK l n (k + 1) = (ys ++ [n] ++ [x], true) by
              have h1 : n < x := by simpa using Htn.out.symm
              rw [Hsu.out]; simp [insP, h1])
            have hr7 := hide (Ho.out.row.keep (w' := wr.alloc (.cells #[.int .i64 n] 3)) fun z hz => (balloc wr _).block z (Ho.out.row.lt hz))
            have s7 := hide (Src.lit1 wr (.int .i64 n) 3)
            have hym := hide (show (ys.map encI).length = ys.length from List.length_map _)
            have hone := hide (show ∀ u ∈ [Value.int .i64 n], u.oneCell' = true from fun u hu => by simp at hu; subst hu; rfl)
            have hby := hide (show ((ys.map encI).length + [Value.int .i64 n].length) * 8 ≤ 140737488355328 ∧ (ys.map encI).length + [Value.int .i64 n].length ≤ maxLen from ⟨by have := Hll.out; rw [hym.out, List.length_singleton]; omega, by have := Hll.out; rw [hym.out, List.length_singleton]; unfold maxLen; omega⟩)
            go_wp2_with (at_builtin; with_reducible refine wp_app 28 rfl rfl (.tmp 25) (.tmp 27) 31 rfl Try.underlying31 infoI ?_ (us := ys.map encI) ?_ hr7.out (A := some ⟨wr.heap.size, 0, none⟩) (c := 1) (news := [.int .i64 n]) ?_ s7.out hone.out hby.out.1 hby.out.2 ?_)
            all_goals first | rfl | skip
            intro v5 w5 hr5 g5 o5
            have Ho5 := hide (Ho.out.push hr5 g5 o5)
            clear hr5 g5 o5 hr7 s7 hym hone hby hcx
            go_wp2_with fail
            go_meet
            case rel => exact ⟨ys ++ [n], true, rfl, Ho5.out, hst.out, by have := Hll.out; simp; omega⟩
        case rest =>
          obtain ⟨ys', pt', rfl, hO, hI, hL'⟩ := hcut
          obtain ⟨A5, c5, rfl, h51, h52⟩ := hO.shape
          have hcy := keep8 Hcw.out hO.bel
          have HO := hide hO
          have HI := hide hI
          have HL' := hide hL'
          clear hO hI hcx
          have hr7 := hide (HO.out.row.keep (w' := wc.alloc (.cells #[.int .i64 x] 3)) fun z hz => (balloc wc _).block z (HO.out.row.lt hz))
          have s7 := hide (Src.lit1 wc (.int .i64 x) 3)
          have hym := hide (show (ys'.map encI).length = ys'.length from List.length_map _)
          have hone := hide (show ∀ u ∈ [Value.int .i64 x], u.oneCell' = true from fun u hu => by simp at hu; subst hu; rfl)
          have hby := hide (show ((ys'.map encI).length + [Value.int .i64 x].length) * 8 ≤ 140737488355328 ∧ (ys'.map encI).length + [Value.int .i64 x].length ≤ maxLen from ⟨by have := HL'.out; rw [hym.out, List.length_singleton]; omega, by have := HL'.out; rw [hym.out, List.length_singleton]; unfold maxLen; omega⟩)
          clear hL'
          go_wp2_with (at_builtin; with_reducible refine wp_app 35 rfl rfl (.tmp 29) (.tmp 34) 31 rfl Try.underlying31 infoI ?_ (us := ys'.map encI) ?_ hr7.out (A := some ⟨wc.heap.size, 0, none⟩) (c := 1) (news := [.int .i64 x]) ?_ s7.out hone.out hby.out.1 hby.out.2 ?_)
          all_goals first | rfl | skip
          intro v5 w5 hr5 g5 o5
          have Ho5 := hide (HO.out.push hr5 g5 o5)
          clear hr5 g5 o5 hr7 s7 hym hone hby hcy
          go_wp2_with fail
          go_roundw
          case rel => exact ⟨k + 1, by omega, by go_num, by rw [HI.out], by rw [HI.out]; exact Ho5.out⟩
          case measure => simp [intOf]; omega
      · have hI := hide (show insK l n (k + 1) = (ys ++ [x], true) by rw [Hsu.out]; simp [insP])
        have HL' := hide (show ys.length ≤ 2 * k + 1 by have := Hll.out; omega)
        have hr7 := hide (Ho.out.row.keep (w' := wr.alloc (.cells #[.int .i64 x] 3)) fun z hz => (balloc wr _).block z (Ho.out.row.lt hz))
        have s7 := hide (Src.lit1 wr (.int .i64 x) 3)
        have hym := hide (show (ys.map encI).length = ys.length from List.length_map _)
        have hone := hide (show ∀ u ∈ [Value.int .i64 x], u.oneCell' = true from fun u hu => by simp at hu; subst hu; rfl)
        have hby := hide (show ((ys.map encI).length + [Value.int .i64 x].length) * 8 ≤ 140737488355328 ∧ (ys.map encI).length + [Value.int .i64 x].length ≤ maxLen from ⟨by have := HL'.out; rw [hym.out, List.length_singleton]; omega, by have := HL'.out; rw [hym.out, List.length_singleton]; unfold maxLen; omega⟩)
        go_wp2_with (at_builtin; with_reducible refine wp_app 35 rfl rfl (.tmp 29) (.tmp 34) 31 rfl Try.underlying31 infoI ?_ (us := ys.map encI) ?_ hr7.out (A := some ⟨wr.heap.size, 0, none⟩) (c := 1) (news := [.int .i64 x]) ?_ s7.out hone.out hby.out.1 hby.out.2 ?_)
        all_goals first | rfl | skip
        intro v5 w5 hr5 g5 o5
        have Ho5 := hide (Ho.out.push hr5 g5 o5)
        clear hr5 g5 o5 hr7 s7 hym hone hby
        go_wp2_with fail
        go_roundw
        case rel => exact ⟨k + 1, by omega, by go_num, by rw [hI.out], by rw [hI.out]; exact Ho5.out⟩
        case measure => simp [intOf]; omega
    · obtain rfl : k = L := by omega
      have hall := insK_all l n
      have hll := insK_len l n k
      rw [← HL.out] at hall
      obtain ⟨⟨ys, pt⟩, hys⟩ : ∃ ys, ys = insK l n k := ⟨_, rfl⟩
      rw [← hys] at ho hco hll hall ⊢
      simp only at ho hco hll hall ⊢
      have Hall := hide hall
      have Ho := hide ho
      have Hll := hide hll
      clear ho hll hall hys
      cases pt
      · have hr7 := hide (Ho.out.row.keep (w' := wr.alloc (.cells #[.int .i64 n] 3)) fun z hz => (balloc wr _).block z (Ho.out.row.lt hz))
        have s7 := hide (Src.lit1 wr (.int .i64 n) 3)
        have hym := hide (show (ys.map encI).length = ys.length from List.length_map _)
        have hone := hide (show ∀ u ∈ [Value.int .i64 n], u.oneCell' = true from fun u hu => by simp at hu; subst hu; rfl)
        have hby := hide (show ((ys.map encI).length + [Value.int .i64 n].length) * 8 ≤ 140737488355328 ∧ (ys.map encI).length + [Value.int .i64 n].length ≤ maxLen from ⟨by have := Hll.out; rw [hym.out, List.length_singleton]; omega, by have := Hll.out; rw [hym.out, List.length_singleton]; unfold maxLen; omega⟩)
        go_wp2_with (at_builtin; with_reducible refine wp_app 41 rfl rfl (.tmp 38) (.tmp 40) 31 rfl Try.underlying31 infoI ?_ (us := ys.map encI) ?_ hr7.out (A := some ⟨wr.heap.size, 0, none⟩) (c := 1) (news := [.int .i64 n]) ?_ s7.out hone.out hby.out.1 hby.out.2 ?_)
        all_goals first | rfl | skip
        intro v5 w5 hr5 g5 o5
        have Ho5 := hide (Ho.out.push hr5 g5 o5)
        have Hal := hide (show ys ++ [n] = insR l n from by simpa using Hall.out)
        clear hr5 g5 o5 hr7 s7 hym hone hby
        go_wp2_with fail
        exact hR.out _ _ ⟨_, rfl, by rw [← Hal.out]; exact Ho5.out⟩
      · have Hal := hide (show ys = insR l n from by simpa using Hall.out)
        go_wp2_with fail
        exact hR.out _ _ ⟨_, rfl, by rw [← Hal.out]; exact Ho.out⟩
end Go.Proofs.Ytdppjhfndolbjaa
