/- The outer code's graph in memory: two own rows of own rows. -/
import Derived.Test.YtfkofhdgokhodaaOut0
import Derived.Test.YtfkofhdgokhodaaIS
import Derived.Test.YtfkofhdgokhodaaPQ0
set_option linter.unusedVariables false
set_option linter.unusedSimpArgs false
namespace Go.Proofs.Ytfkofhdgokhodaa
open Go.RowKit

/-- The graph of block g; c tells what each block is for. -/
structure OG (b0 : Nat) (c : Nat → Nat) (w : World) (g : Nat) (vo vh : Value) (uo uh : List Value) (of has : List (List Int)) : Prop where
  cell : w.heap[g]? = some (.cells #[vo, vh] 81 (0, 0))
  gc : c g = 0 ∧ b0 ≤ g
  ro : Row w 29 vo uo
  co : ∀ z, vo.ownBlock = some z → c z = 1 ∧ b0 ≤ z
  rh : Row w 29 vh uh
  ch : ∀ z, vh.ownBlock = some z → c z = 2 ∧ b0 ≤ z
  lo : uo.length = of.length
  lh : uh.length = has.length
  eo : ∀ (i : Nat) (u : Value) (l : List Int), uo[i]? = some u → of[i]? = some l → Row w 3 u (l.map encI) ∧ ∀ z, u.ownBlock = some z → c z = 3 ∧ b0 ≤ z
  eh : ∀ (i : Nat) (u : Value) (l : List Int), uh[i]? = some u → has[i]? = some l → Row w 3 u (l.map encI) ∧ ∀ z, u.ownBlock = some z → c z = 4 + i ∧ b0 ≤ z
section
variable {b0 g : Nat} {c c' : Nat → Nat} {w w' w3 : World} {vo vh : Value} {uo uh : List Value} {of has : List (List Int)} {e : TypeId} {u v : Value} {us : List Value} {k : Nat} {l : List Int}
theorem part_keep (h : Row w e u us) (hc : ∀ z, u.ownBlock = some z → c z = k ∧ b0 ≤ z) (hk : ∀ z, z < w.heap.size → b0 ≤ z → c z = k → w'.heap[z]? = w.heap[z]?) (hcc : ∀ z, z < w.heap.size → c' z = c z) : Row w' e u us ∧ ∀ z, u.ownBlock = some z → c' z = k ∧ b0 ≤ z :=
  ⟨h.keep fun z hz => hk z (h.lt hz) (hc z hz).2 (hc z hz).1, fun z hz => ⟨(hcc z (h.lt hz)).trans (hc z hz).1, (hc z hz).2⟩⟩
theorem OG.lt (h : OG b0 c w g vo vh uo uh of has) : g < w.heap.size := (Array.getElem?_eq_some_iff.1 h.cell).1
/-- All blocks stay; the colours of what is there stay. -/
theorem OG.keep (h : OG b0 c w g vo vh uo uh of has) (hk : ∀ z, z < w.heap.size → b0 ≤ z → w'.heap[z]? = w.heap[z]?) (hcc : ∀ z, z < w.heap.size → c' z = c z) : OG b0 c' w' g vo vh uo uh of has := by
  have p1 := part_keep h.ro h.co (fun z a b _ => hk z a b) hcc
  have p2 := part_keep h.rh h.ch (fun z a b _ => hk z a b) hcc
  exact ⟨(hk g h.lt h.gc.2).trans h.cell, ⟨(hcc g h.lt).trans h.gc.1, h.gc.2⟩, p1.1, p1.2, p2.1, p2.2, h.lo, h.lh,
    fun i u l hu hl => part_keep (h.eo i u l hu hl).1 (h.eo i u l hu hl).2 (fun z a b _ => hk z a b) hcc,
    fun i u l hu hl => part_keep (h.eh i u l hu hl).1 (h.eh i u l hu hl).2 (fun z a b _ => hk z a b) hcc⟩
theorem OG.cells (h : OG b0 c w g vo vh uo uh of has) : w.cell? ⟨g, 0, none⟩ = some vo ∧ w.cell? ⟨g, 1, none⟩ = some vh ∧ ∀ i, w.frozen? ⟨g, i, none⟩ = false :=
  ⟨cell_of_row w g 0 _ _ _ h.cell, cell_of_row w g 1 _ _ _ h.cell, fun i => by simp [World.frozen?, h.cell]⟩
/-- A list more. -/
theorem OG.more {vo' : Value} {o : Obj} (h : OG b0 c w g vo vh uo uh of has) (hb : b0 ≤ w.heap.size) (hv : Row w 3 v (l.map encI)) (hvc : ∀ z, v.ownBlock = some z → c z = 3 ∧ b0 ≤ z)
    (hr : Row w3 29 vo' (uo ++ [v])) (hg : (w.alloc o).grownBy w3 vo.ownBlock) (ho : vo'.ownBlock = vo.ownBlock ∨ vo'.ownBlock = some (w.alloc o).heap.size) :
    OG b0 (fun z => if z < w.heap.size then c z else 1) (w3.setCell ⟨g, 0, none⟩ vo') g vo' vh (uo ++ [v]) uh (of ++ [l]) has := by
  have hz : (w.alloc o).heap.size = w.heap.size + 1 := by simp
  have hk : ∀ z, z < w.heap.size → vo.ownBlock ≠ some z → w3.heap[z]? = w.heap[z]? := fun z h1 h2 => (hg.block z (by omega) fun e => h2 e.symm).trans ((balloc w o).block z h1)
  have hsz : w.heap.size ≤ w3.heap.size := by have := hg.size; omega
  have hcc : ∀ z, z < w.heap.size → (fun z => if z < w.heap.size then c z else 1) z = c z := fun z h1 => if_pos h1
  have hset : ∀ z, z ≠ g → (w3.setCell ⟨g, 0, none⟩ vo').heap[z]? = w3.heap[z]? := fun z h1 => Below.heap_setCell w3 ⟨g, 0, none⟩ _ z h1
  have hgv : vo.ownBlock ≠ some g := fun e => by have := (h.co g e).1; have := h.gc.1; omega
  have hall : ∀ z, z < w.heap.size → b0 ≤ z → c z ≠ 0 → c z ≠ 1 → (w3.setCell ⟨g, 0, none⟩ vo').heap[z]? = w.heap[z]? := fun z h1 h2 h3 h4 =>
    (hset z fun e => h3 (by rw [e]; exact h.gc.1)).trans (hk z h1 fun e => h4 (h.co z e).1)
  have hoz : ∀ z, vo'.ownBlock = some z → (fun z => if z < w.heap.size then c z else 1) z = 1 ∧ b0 ≤ z := fun z hz' => by
    rcases ho with e | e
    · rw [e] at hz'
      exact ⟨(hcc z (h.ro.lt hz')).trans (h.co z hz').1, (h.co z hz').2⟩
    · rw [e] at hz'; injection hz' with hz'
      exact ⟨if_neg (by omega), by omega⟩
  have p2 := part_keep (w' := w3.setCell ⟨g, 0, none⟩ vo') (c' := fun z => if z < w.heap.size then c z else 1) h.rh h.ch (fun z a b e => hall z a b (by omega) (by omega)) hcc
  refine ⟨?_, ⟨(hcc g h.lt).trans h.gc.1, h.gc.2⟩, hr.keep fun z hz' => hset z fun e => ?_, hoz, p2.1, p2.2, by simp [h.lo], h.lh, fun i u l' hu hl => ?_, fun i u l' hu hl => part_keep (h.eh i u l' hu hl).1 (h.eh i u l' hu hl).2 (fun z a b e => hall z a b (by omega) (by omega)) hcc⟩
  · have := (hk g h.lt hgv).trans h.cell
    simp [World.setCell, Array.getElem?_modify, this]
  · have h1 := (hoz z hz').1
    rw [e, hcc g h.lt, h.gc.1] at h1
    exact absurd h1 (by decide)
  · by_cases hi : i < uo.length
    · rw [List.getElem?_append_left hi] at hu
      rw [List.getElem?_append_left (by rw [← h.lo]; exact hi)] at hl
      exact part_keep (h.eo i u l' hu hl).1 (h.eo i u l' hu hl).2 (fun z a b e => hall z a b (by omega) (by omega)) hcc
    · have hi' : i = uo.length := by
        have := (List.getElem?_eq_some_iff.1 hu).1
        simp at this; omega
      rw [hi', List.getElem?_append_right (Nat.le_refl _), Nat.sub_self] at hu
      rw [hi', h.lo, List.getElem?_append_right (Nat.le_refl _), Nat.sub_self] at hl
      injection hu with hu; injection hl with hl
      subst hu; subst hl
      exact part_keep hv hvc (fun z a b e => hall z a b (by omega) (by omega)) hcc
/-- A number more in one list. -/
theorem OG.put {v' : Value} {o : Obj} {j : Nat} {x : Int} (h : OG b0 c w g vo vh uo uh of has) (hb : b0 ≤ w.heap.size) (hj : uh[j]? = some u) (hl : has[j]? = some l)
    (hr : Row w3 3 v' (l.map encI ++ [.int .i64 x])) (hg : (w.alloc o).grownBy w3 u.ownBlock) (ho : v'.ownBlock = u.ownBlock ∨ v'.ownBlock = some (w.alloc o).heap.size) :
    ∃ q ch, vh = .slice (some ⟨q, 0, none⟩) uh.length ch ∧ w.cell? ⟨q, j, none⟩ = some u ∧ q < w.heap.size ∧ w3.cell? ⟨q, j, none⟩ = some u ∧ w3.frozen? ⟨q, j, none⟩ = false ∧
      OG b0 (fun z => if z < w.heap.size then c z else 4 + j) (w3.setCell ⟨q, j, none⟩ v') g vo vh uo (uh.set j v') of (has.set j (l ++ [x])) := by
  have hju : j < uh.length := (List.getElem?_eq_some_iff.1 hj).1
  have huj : uh[j] = u := (List.getElem?_eq_some_iff.1 hj).2
  have hz : (w.alloc o).heap.size = w.heap.size + 1 := by simp
  have hu4 := (h.eh j u l hj hl).2
  have hk : ∀ z, z < w.heap.size → u.ownBlock ≠ some z → w3.heap[z]? = w.heap[z]? := fun z h1 h2 => (hg.block z (by omega) fun e => h2 e.symm).trans ((balloc w o).block z h1)
  have hcc : ∀ z, z < w.heap.size → (fun z => if z < w.heap.size then c z else 4 + j) z = c z := fun z h1 => if_pos h1
  have rh3 : Row w3 29 vh uh := h.rh.keep fun z hz' => hk z (h.rh.lt hz') fun e => by have := (h.ch z hz').1; have := (hu4 z e).1; omega
  obtain ⟨q0, c0, e0, cc0, -, ql0, -⟩ := h.rh.set hju v'
  obtain ⟨q, c2, e2, cc2, f2, ql2, rs2⟩ := rh3.set hju v'
  obtain rfl : q0 = q := by rw [e0] at e2; injection e2 with e2; injection e2 with e2; injection e2
  have hqb : vh.ownBlock = some q0 := by rw [e0]; rfl
  have hq := h.ch q0 hqb
  have hset : ∀ z, z ≠ q0 → (w3.setCell ⟨q0, j, none⟩ v').heap[z]? = w3.heap[z]? := fun z h1 => Below.heap_setCell w3 ⟨q0, j, none⟩ _ z h1
  have hall : ∀ z, z < w.heap.size → b0 ≤ z → c z ≠ 2 → c z ≠ 4 + j → (w3.setCell ⟨q0, j, none⟩ v').heap[z]? = w.heap[z]? := fun z h1 h2 h3 h4 =>
    (hset z fun e => h3 (by rw [e]; exact hq.1)).trans (hk z h1 fun e => h4 (hu4 z e).1)
  have hoz : ∀ z, v'.ownBlock = some z → (fun z => if z < w.heap.size then c z else 4 + j) z = 4 + j ∧ b0 ≤ z := fun z hz' => by
    rcases ho with e | e
    · rw [e] at hz'
      exact ⟨(hcc z ((h.eh j u l hj hl).1.lt hz')).trans (hu4 z hz').1, (hu4 z hz').2⟩
    · rw [e] at hz'; injection hz' with hz'
      exact ⟨if_neg (by omega), by omega⟩
  have p1 := part_keep (w' := w3.setCell ⟨q0, j, none⟩ v') (c' := fun z => if z < w.heap.size then c z else 4 + j) h.ro h.co (fun z a b e => hall z a b (by omega) (by omega)) hcc
  refine ⟨q0, c0, e0, by rw [cc0, huj], ql0, by rw [cc2, huj], f2, (hall g h.lt h.gc.2 (by rw [h.gc.1]; decide) (by rw [h.gc.1]; omega)).trans h.cell, ⟨(hcc g h.lt).trans h.gc.1, h.gc.2⟩, p1.1, p1.2, rs2, fun z hz' => ⟨(hcc z (h.rh.lt hz')).trans (h.ch z hz').1, (h.ch z hz').2⟩, h.lo, by simp [h.lh],
    fun i u l' hu hl' => part_keep (h.eo i u l' hu hl').1 (h.eo i u l' hu hl').2 (fun z a b e => hall z a b (by omega) (by omega)) hcc, fun i u' l' hu' hl' => ?_⟩
  by_cases hij : j = i
  · subst hij
    rw [List.getElem?_set_self hju] at hu'
    rw [List.getElem?_set_self (by rw [← h.lh]; exact hju)] at hl'
    injection hu' with hu'; injection hl' with hl'
    subst hu'; subst hl'
    refine ⟨?_, hoz⟩
    rw [List.map_append]
    exact hr.keep fun z hz' => hset z fun e => by
      have h1 := (hoz z hz').1
      rw [e, hcc q0 ql0, hq.1] at h1
      omega
  · rw [List.getElem?_set_ne hij] at hu' hl'
    exact part_keep (h.eh i u' l' hu' hl').1 (h.eh i u' l' hu' hl').2 (fun z a b e => hall z a b (by omega) (by omega)) hcc
end
end Go.Proofs.Ytfkofhdgokhodaa
