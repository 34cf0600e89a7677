/- Arguments that open with what they weigh: the lengths of inner rows are bounded, too. -/
import Derived.Test.YtdppjhfndolbjaaRow
set_option linter.unusedVariables false
set_option linter.unusedSimpArgs false
namespace Go.Proofs.Ytdppjhfndolbjaa
open Go.ChangeShapes Go.WideShapes Go.ChangeAt Go.RowKit Go.Deep

structure OpnW (P : Program) (t : TypeId) {α : Type} (d : Kd α) (B : α → Prop) : Prop where
  cells : P.cellsOf t = d.sz
  open_ : ∀ {H : Type} {enc : TypeId × Value → H} {w : World} {base : Nat} {spare : Nat → Bool} {held : Bool} {fuel : Nat} {cs : List Value} {x : DataW H × List MemPlace},
    DataW.trod enc P w base spare held fuel t cs = some x → (∀ n ∈ x.1.weights P t, n ≤ reachBytes) → ∃ a : α, d.R (· < w.heap.size) w a cs ∧ B a
section
variable {P : Program} {t : TypeId}
theorem opnW_of {α : Type} {d : Kd α} (o : Opn P t d) : OpnW P t d (fun _ => True) := ⟨o.cells, fun h _ => by
  obtain ⟨a, ha⟩ := o.open_ h
  exact ⟨a, ha, trivial⟩⟩
theorem mem_weightsAll {H : Type} {e : TypeId} : ∀ {l : List (DataW H)} {x : DataW H} {n : Nat}, x ∈ l → n ∈ x.weights P e → n ∈ DataW.weightsAll P e l
  | [], x, n, h, _ => by cases h
  | y :: r, x, n, h, hn => by
    simp only [DataW.weightsAll, List.mem_append]
    rcases List.mem_cons.1 h with rfl | h
    · exact .inl hn
    · exact .inr (mem_weightsAll h hn)
theorem opnW_sl {α : Type} {d : Kd α} {B : α → Prop} {e : TypeId} (ht : P.underlying t = some (.slice e)) (hc : P.cellsOf t = 1) (o : OpnW P e d B) : OpnW P t (Kd.sl d) (fun xs => xs.length * P.bytesOf e ≤ reachBytes ∧ ∀ x ∈ xs, B x) :=
  ⟨hc, fun {H enc w base spare held fuel cs x} h hz => by
    rcases open_slice ht h with ⟨h0, _⟩ | ⟨a, len, cap, m, n, D, Pl, hcs, hb, hl, hm, hmm, hx0, hx⟩
    · exact ⟨[], ⟨none, 0, h0, by simp, by simp, RdL.nil⟩, by simp, fun x hx => by cases hx⟩
    have hle : len ≤ m := by rw [hmm]; split <;> omega
    subst hx0
    simp only [DataW.weights, ht] at hz
    have hz1 : (((List.range len).map D).length + ((List.range (m - len)).map fun j => D (len + j)).length) * P.bytesOf e ≤ reachBytes := hz _ (List.mem_cons_self ..)
    have hz2 : ∀ i, i < len → ∀ n ∈ (D i).weights P e, n ≤ reachBytes := fun i hi n hn => hz n (List.mem_cons_of_mem _ (List.mem_append.2 (.inl (mem_weightsAll (List.mem_map.2 ⟨i, List.mem_range.2 hi, rfl⟩) hn))))
    rw [o.cells] at hx
    have each : ∀ i, i < len → ∃ y : α, ∃ cs' : List Value, (d.R (· < w.heap.size) w y cs' ∧ B y) ∧ ∀ j u, cs'[j]? = some u → w.cell? (a.add (i * d.sz + j)) = some u := fun i hi => by
      obtain ⟨cs', h1, h2⟩ := hx i (by omega)
      obtain ⟨y, hy⟩ := o.open_ h2 (hz2 i hi)
      obtain ⟨_, hlen, hcell⟩ := World.cells?_some h1
      refine ⟨y, cs', hy, fun j u hu => ?_⟩
      have hj : j < d.sz := by
        have := (List.getElem?_eq_some_iff.1 hu).1
        omega
      have := hcell j hj
      rw [Go.Deep.add_add] at this
      rw [this, hu]
    obtain ⟨xs, hxl, hxs⟩ := list_of len (fun i y => ∃ cs' : List Value, (d.R (· < w.heap.size) w y cs' ∧ B y) ∧ ∀ j u, cs'[j]? = some u → w.cell? (a.add (i * d.sz + j)) = some u) (fun i hi => each i hi)
    refine ⟨xs, ⟨some a, cap, by rw [hxl]; exact hcs, by omega, hm, fun hp => ?_⟩, ?_, fun y hy => ?_⟩
    · obtain ⟨cs0, ⟨hr0, -⟩, hc0⟩ := hxs 0 (xs[0]'hp) (List.getElem?_eq_getElem hp)
      have hl0 := d.len hr0
      have hpos := d.pos
      have c00 := hc0 0 (cs0[0]'(by omega)) (List.getElem?_eq_getElem (by omega))
      obtain ⟨b, off, spot⟩ := a
      have hspot : spot = none := by simpa [Addr.add] using World.cell?_spot c00
      subst hspot
      refine ⟨b, off, rfl, ?_, fun i y hy => ?_⟩
      · have := World.block_lt_of_cell? _ _ c00
        simpa [Addr.add] using this
      · obtain ⟨cs', ⟨hr', -⟩, hc'⟩ := hxs i y hy
        refine ⟨cs', hr', fun j u hu => ?_⟩
        have := hc' j u hu
        unfold Addr.add at this
        split at this
        · rename_i h0
          simpa [h0] using this
        · exact this
    · rw [hxl]
      rw [List.length_map, List.length_map, List.length_range, List.length_range] at hz1
      exact Nat.le_trans (Nat.mul_le_mul_right _ (by omega)) hz1
    · obtain ⟨i, hi, rfl⟩ := List.getElem_of_mem hy
      obtain ⟨_, ⟨_, h2⟩, _⟩ := hxs i xs[i] (List.getElem?_eq_getElem hi)
      exact h2⟩
structure OpnFW (P : Program) (fs : List Field) (off : Nat) {α : Type} (d : Kd α) (B : α → Prop) : Prop where
  open_ : ∀ {H : Type} {enc : TypeId × Value → H} {w : World} {base : Nat} {spare : Nat → Bool} {held : Bool} {n : Nat} {cs : List Value}, cs.length = off + d.sz →
    (∀ f ∈ fs, ∃ y, DataW.trod enc P w base spare held n f.type ((cs.drop f.offset).take (P.cellsOf f.type)) = some y ∧ ∀ n ∈ y.1.weights P f.type, n ≤ reachBytes) → ∃ a : α, d.R (· < w.heap.size) w a (cs.drop off) ∧ B a
theorem opnFW_last {α : Type} {d : Kd α} {B : α → Prop} {f : Field} {off : Nat} (ho : f.offset = off) (o : OpnW P f.type d B) : OpnFW P [f] off d B :=
  ⟨fun {H enc w base spare held n cs} hl h => by
    obtain ⟨y, hy, hz⟩ := h f (by simp)
    rw [ho, o.cells, List.take_of_length_le (by rw [List.length_drop]; omega)] at hy
    exact o.open_ hy hz⟩
theorem opnFW_cons {α β : Type} {d : Kd α} {d' : Kd β} {B : α → Prop} {B' : β → Prop} {f : Field} {fs : List Field} {off : Nat} (ho : f.offset = off) (o : OpnW P f.type d B) (r : OpnFW P fs (off + d.sz) d' B') : OpnFW P (f :: fs) off (Kd.seq d d') (fun x => B x.1 ∧ B' x.2) :=
  ⟨fun {H enc w base spare held n cs} hl h => by
    obtain ⟨y, hy, hz⟩ := h f (by simp)
    rw [ho, o.cells] at hy
    obtain ⟨a, ha, hBa⟩ := o.open_ hy hz
    obtain ⟨b, hb, hBb⟩ := r.open_ (cs := cs) (by rw [hl]; show off + (d.sz + d'.sz) = _; omega) (fun g hg => h g (by simp [hg]))
    refine ⟨(a, b), ⟨_, _, ?_, ha, hb⟩, hBa, hBb⟩
    rw [← List.drop_drop, List.take_append_drop]⟩
theorem opnW_struct {α : Type} {d : Kd α} {B : α → Prop} {fs : List Field} (ht : P.underlying t = some (.struct fs.toArray)) (hc : P.cellsOf t = d.sz) (o : OpnFW P fs 0 d B) : OpnW P t d B :=
  ⟨hc, fun {H enc w base spare held fuel cs x} h hz => by
    obtain ⟨xs, n, _, hx0, hlen, hxl, hf⟩ := DataW.trod_struct ht h
    subst hx0
    simp only [DataW.weights, ht] at hz
    have := o.open_ (enc := enc) (w := w) (base := base) (spare := spare) (held := held) (n := n) (cs := cs) (by rw [hlen, hc]; omega) (fun f hfm => by
      obtain ⟨i, hi, rfl⟩ := List.mem_iff_getElem.1 hfm
      have h1 := hf i fs[i] (by simp)
      have hil : i < xs.length := by rw [hxl]; simpa using hi
      refine ⟨xs[i], by rw [h1]; exact List.getElem?_eq_getElem hil, fun n hn => hz n ?_⟩
      exact DataW.weights_mem_each (j := i) (t := fs[i].type) (d := (xs[i]).1) (by simp [List.getElem?_eq_getElem hi]) (by simp [List.getElem?_eq_getElem hil]) n hn)
    simpa using this⟩
end
section
variable {P : Program} {H : Type} {enc : TypeId × Value → H} {W : World} {base : Nat} {spare : Nat → Bool} {held : Bool} {r : Reach} {b0 : Nat} {t : TypeId} {v : Value} {y : DataW H} {ps : List MemPlace}
theorem weights_of {ts : List TypeId} {ds : List (DataW H)} {j : Nat} (hz : (DataW.weightsEach P ts ds).all (· ≤ reachBytes) = true) (hts : ts[j]? = some t) (hds : ds[j]? = some y) : ∀ n ∈ y.weights P t, n ≤ reachBytes := fun n hn => by
  have := List.all_eq_true.1 hz n (DataW.weights_mem_each hts hds n hn)
  simpa using this
theorem arg_structW {α : Type} {d : Kd α} {B : α → Prop} {fs : Array Field} (ht : P.underlying t = some (.struct fs)) (o : OpnW P t d B) (hv : Value.okWide P W r b0 t v) (h : DataW.Trod enc P W base spare held t v y ps) (hz : ∀ n ∈ y.weights P t, n ≤ reachBytes) :
    ∃ (a : α) (cs : List Value), v = .agg cs.toArray ∧ d.R (· < W.heap.size) W a cs ∧ B a := by
  obtain ⟨cs, rfl, _⟩ := okWide_struct ht hv
  obtain ⟨fuel, hf⟩ := h
  obtain ⟨a, ha, hb⟩ := o.open_ hf hz
  exact ⟨a, cs.toList, by simp, ha, hb⟩
end
end Go.Proofs.Ytdppjhfndolbjaa
