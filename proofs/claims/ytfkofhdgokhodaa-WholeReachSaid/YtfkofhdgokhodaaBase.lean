/- Plain words for all texts of this seat: memory that is read, how arguments open, the row's last step. -/
import Derived.Test.YtfkofhdgokhodaaProg
import Derived.WalkKit
import Derived.ProofKit
import Derived.OpenShut
import Derived.ShutString
import Derived.ChangeOld
import Derived.Below
import Derived.Deep.Slices
import Derived.Deep.Fields
import Derived.Deep.QuietTactic
import Derived.BigQuiet
import Derived.Laws.BitsLemmas
import Derived.Maps.AppendAt
set_option linter.unusedVariables false
set_option linter.unusedSimpArgs false
namespace Go.Proofs.Ytfkofhdgokhodaa
open Go.ChangeShapes Go.WideShapes Go.RowKit Go.Deep

theorem hide {p : Prop} (h : p) : Hid p := h
/-- The walk's end behind a letter: the post isn't looked into on the way. -/
theorem cps {P : Program} {f : FuncId} {args : Array Value} {w : World} {Q : Ending → World → Prop} (h : ∀ R : Ending → World → Prop, Hid (∀ e w', Q e w' → R e w') → Calls P f args w R) : Calls P f args w Q := h _ (hide fun _ _ q => q)
theorem ret_int {k : IntKind} {a b : Int} (h : a = b) : Ending.returned (.int k a) = .returned (.int k b) := by rw [h]
theorem ret_bool {a b : Bool} (h : a = b) : Ending.returned (.bool a) = .returned (.bool b) := by rw [h]

/-! ### A region that draws its order and makes memory at most: one walk in the order of the text -/
/-- A world in which all that was there is as it was. -/
def Later (w : World) : Type := { x : World // Below w.heap.size w x }
instance Later.some (w : World) : Nonempty (Later w) := ⟨⟨w, Below.refl _ _⟩⟩
def Later.v {w : World} (x : Later w) : World := x.1
theorem Later.below {w : World} (x : Later w) : Below w.heap.size w x.v := x.2
theorem later_cell {w : World} {a : Addr} {u : Value} (h : w.cell? a = some u) (x : Later w) : x.v.cell? a = some u := (x.below.cell (World.block_lt_of_cell? w a h)).trans h
theorem wp_region_later {P : Program} {id : Nat} {Q : Exit → Act → World → Prop} {a : Act} {w : World} {l : List Oper} (hm : P.follows .mixedOrders = true) (hB : Region.lexB .any l.toArray = true)
    (h : wpQuiet P l.toArray (fun w' => ∃ x : Later w, w' = x.v) (fun a' => ∀ w', (∃ x : Later w, w' = x.v) → Q .normal a' w') l a) : (Code.region id l.toArray true).wp P Q a w :=
  wp_region_quiet (C := fun w' => ∃ x : Later w, w' = x.v) hm hB ⟨⟨_, below_drew1 w⟩, rfl⟩ (by simpa using h)
where below_drew1 (w : World) : Below w.heap.size w { w with drawn := w.drawn + 1 } := ⟨rfl, rfl, rfl, Nat.le_refl _, fun _ _ => rfl⟩
theorem later_call {P : Program} {f : FuncId} {args : Array Value} {w : World} {x : Later w} {v : Value}
    (h : Calls P f args x.v fun e w' => e = .returned v ∧ Below x.v.heap.size x.v w') : Calls P f args x.v fun e w'' => e = .returned v ∧ ∃ y : Later w, w'' = y.v :=
  h.mono fun _ w'' ⟨he, hb⟩ => ⟨he, ⟨w'', x.below.trans (hb.mono x.below.size)⟩, rfl⟩
theorem later_same {P : Program} {f : FuncId} {args : Array Value} {w : World} {x : Later w} {v : Value}
    (h : Calls P f args x.v fun e w' => e = .returned v ∧ x.v = w') : Calls P f args x.v fun e w'' => e = .returned v ∧ ∃ y : Later w, w'' = y.v :=
  h.mono fun _ w'' ⟨he, hb⟩ => ⟨he, x, hb.symm⟩

/-- A cell in whatever world is later than W, told anew from a later world on. -/
theorem later_next {W W' : World} {a : Addr} {u : Value} {x : Later W} (h : ∀ x : Later W, x.v.cell? a = some u) (e : W' = x.v) : ∀ y : Later W', y.v.cell? a = some u := fun y =>
  h ⟨y.v, x.below.trans ((by subst e; exact y.below : Below x.v.heap.size x.v y.v).mono x.below.size)⟩
theorem later_start (w : World) : ∃ x : Later w, x.v = w := ⟨⟨w, Below.refl _ _⟩, rfl⟩

/-! ### How a value is told: d.R S w a cs: in the world w the cells cs are the value a; what they lead to lies in blocks of S -/

structure Kd (α : Type) where
  sz : Nat
  R : (Nat → Prop) → World → α → List Value → Prop
  pos : 0 < sz
  len : ∀ {S w a cs}, R S w a cs → cs.length = sz
  keep : ∀ {S} {w w' : World} {a cs}, (∀ k, S k → w'.heap[k]? = w.heap[k]?) → R S w a cs → R S w' a cs
  mono : ∀ {S S' : Nat → Prop} {w a cs}, (∀ k, S k → S' k) → R S w a cs → R S' w a cs

/-- A value of one cell. -/
def Kd.one {α : Type} (p : α → Value → Prop) : Kd α where
  sz := 1
  R := fun _ _ a cs => ∃ u, cs = [u] ∧ p a u
  pos := by omega
  len := fun ⟨u, h, _⟩ => by rw [h]; rfl
  keep := fun _ h => h
  mono := fun _ h => h
def Kd.int (k : IntKind) : Kd Int := Kd.one fun n u => u = .int k n ∧ (Lit.int k n).wf = true
def Kd.byte : Kd UInt8 := Kd.one fun x u => u = .int .u8 (x.toNat : Int)
def Kd.u32 : Kd UInt32 := Kd.one fun x u => u = .int .u32 (x.toNat : Int)
def Kd.u64 : Kd UInt64 := Kd.one fun x u => u = .int .u64 (x.toNat : Int)
def Kd.bool : Kd Bool := Kd.one fun x u => u = .bool x
def Kd.str : Kd ByteArray := Kd.one fun x u => u = .string x ∧ x.size ≤ maxLen

/-- One behind the other. -/
def Kd.seq {α β : Type} (a : Kd α) (b : Kd β) : Kd (α × β) where
  sz := a.sz + b.sz
  R := fun S w x cs => ∃ c d, cs = c ++ d ∧ a.R S w x.1 c ∧ b.R S w x.2 d
  pos := by have := a.pos; omega
  len := fun ⟨c, d, h, h1, h2⟩ => by rw [h, List.length_append, a.len h1, b.len h2]
  keep := fun hk ⟨c, d, h, h1, h2⟩ => ⟨c, d, h, a.keep hk h1, b.keep hk h2⟩
  mono := fun hs ⟨c, d, h, h1, h2⟩ => ⟨c, d, h, a.mono hs h1, b.mono hs h2⟩

/-- A row of values behind an address. -/
def RdL {α : Type} (d : Kd α) (S : Nat → Prop) (w : World) (A : Option Addr) (xs : List α) : Prop :=
  0 < xs.length → ∃ b off, A = some ⟨b, off, none⟩ ∧ S b ∧ ∀ i x, xs[i]? = some x → ∃ cs, d.R S w x cs ∧ ∀ j u, cs[j]? = some u → w.cell? ⟨b, off + (i * d.sz + j), none⟩ = some u

section
variable {α : Type} {d : Kd α} {S S' : Nat → Prop} {w w' : World} {A : Option Addr} {xs : List α}
theorem RdL.nil : RdL d S w A [] := fun h => absurd h (by simp)
theorem RdL.keep (h : RdL d S w A xs) (hk : ∀ k, S k → w'.heap[k]? = w.heap[k]?) : RdL d S w' A xs := fun hp => by
  obtain ⟨b, off, e, hs, hc⟩ := h hp
  refine ⟨b, off, e, hs, fun i x hx => ?_⟩
  obtain ⟨cs, hr, hcell⟩ := hc i x hx
  exact ⟨cs, d.keep hk hr, fun j u hu => (World.cell?_of_block (w := w) (hk b hs)).trans (hcell j u hu)⟩
theorem RdL.mono (h : RdL d S w A xs) (hs : ∀ k, S k → S' k) : RdL d S' w A xs := fun hp => by
  obtain ⟨b, off, e, hb, hc⟩ := h hp
  refine ⟨b, off, e, hs b hb, fun i x hx => ?_⟩
  obtain ⟨cs, hr, hcell⟩ := hc i x hx
  exact ⟨cs, d.mono hs hr, hcell⟩
theorem RdL.below {B : Nat} (h : RdL d (· < B) w A xs) (hb : Below B w w') : RdL d (· < B) w' A xs := h.keep fun k hk => hb.block k hk
/-- Element i of a row of one-cell values. -/
theorem RdL.at1 (h : RdL d S w A xs) (h1 : d.sz = 1) {i : Nat} (hi : i < xs.length) : ∃ b off u, A = some ⟨b, off, none⟩ ∧ S b ∧ d.R S w xs[i] [u] ∧ w.cell? ⟨b, off + i, none⟩ = some u := by
  obtain ⟨b, off, e, hs, hc⟩ := h (by omega)
  obtain ⟨cs, hr, hcell⟩ := hc i xs[i] (List.getElem?_eq_getElem hi)
  have hl := d.len hr
  rw [h1] at hl
  match cs, hl with
  | [u], _ => exact ⟨b, off, u, e, hs, hr, by have := hcell 0 u rfl; rw [h1] at this; simpa using this⟩
/-- A row of one-cell values cut. -/
theorem RdL.drop (h : RdL d S w A xs) (n c : Nat) (hn : n ≤ xs.length) (hc : xs.length ≤ c) : RdL d S w (if c = n then A else A.map fun a => a.add (n * d.sz)) (xs.drop n) := fun hp => by
  rw [List.length_drop] at hp
  obtain ⟨b, off, e, hs, hcell⟩ := h (by omega)
  rw [if_neg (by omega), e]
  refine ⟨b, off + n * d.sz, ?_, hs, fun i x hx => ?_⟩
  · simp only [Option.map_some, Addr.add]
    split <;> simp_all
  · rw [List.getElem?_drop] at hx
    obtain ⟨cs, hr, hc'⟩ := hcell _ x hx
    refine ⟨cs, hr, fun j u hu => ?_⟩
    have := hc' j u hu
    rwa [Nat.add_mul, Nat.add_assoc, ← Nat.add_assoc] at this
theorem RdL.take (h : RdL d S w A xs) (n : Nat) : RdL d S w A (xs.take n) := fun hp => by
  rw [List.length_take] at hp
  obtain ⟨b, off, e, hs, hcell⟩ := h (by omega)
  refine ⟨b, off, e, hs, fun i x hx => ?_⟩
  rw [List.getElem?_take] at hx
  split at hx
  · exact hcell i x hx
  · cases hx
end

/-- A row of one-cell values that a block holds from its head on. -/
theorem RdL.block1 {α : Type} {d : Kd α} {S : Nat → Prop} {w : World} {xs : List α} {b : Nat} {cs : Array Value} {t : TypeId} {fr : Nat × Nat} (h1 : d.sz = 1) (hb : w.heap[b]? = some (.cells cs t fr)) (hs : S b)
    (h : ∀ (i : Nat) (x : α), xs[i]? = some x → ∃ u, cs[i]? = some u ∧ d.R S w x [u]) : RdL d S w (some ⟨b, 0, none⟩) xs := fun _ =>
  ⟨b, 0, rfl, hs, fun i x hx => by
    obtain ⟨u, hu, hr⟩ := h i x hx
    refine ⟨[u], hr, fun j v hv => ?_⟩
    cases j with
    | zero =>
      simp at hv; subst hv
      rw [h1, Nat.mul_one, Nat.zero_add, Nat.add_zero, cell_of_row w b i cs t fr hb]; exact hu
    | succ j => simp at hv⟩

/-- A slice: its value; nil, empty and other slices alike. -/
def Kd.sl {α : Type} (d : Kd α) : Kd (List α) where
  sz := 1
  R := fun S w xs cs => ∃ A c, cs = [.slice A xs.length c] ∧ xs.length ≤ c ∧ c ≤ maxLen ∧ RdL d S w A xs
  pos := by omega
  len := fun ⟨A, c, h, _⟩ => by rw [h]; rfl
  keep := fun hk ⟨A, c, h, h1, h2, h3⟩ => ⟨A, c, h, h1, h2, h3.keep hk⟩
  mono := fun hs ⟨A, c, h, h1, h2, h3⟩ => ⟨A, c, h, h1, h2, h3.mono hs⟩

/-- n values one behind the other, at least one. -/
def RowR {α : Type} (d : Kd α) (S : Nat → Prop) (w : World) : List α → List Value → Prop
  | [], cs => cs = []
  | x :: xs, cs => ∃ c r, cs = c ++ r ∧ d.R S w x c ∧ RowR d S w xs r

theorem list_of {α : Type} (n : Nat) (Q : Nat → α → Prop) (h : ∀ i, i < n → ∃ a, Q i a) : ∃ xs : List α, xs.length = n ∧ ∀ i x, xs[i]? = some x → Q i x := by
  induction n with
  | zero => exact ⟨[], rfl, fun i x hx => by simp at hx⟩
  | succ n ih =>
    obtain ⟨xs, hl, hxs⟩ := ih (fun i hi => h i (by omega))
    obtain ⟨z, hz⟩ := h n (by omega)
    refine ⟨xs ++ [z], by simp [hl], fun i x hx => ?_⟩
    by_cases hin : i < n
    · rw [List.getElem?_append_left (by omega)] at hx; exact hxs i x hx
    · have hi' : i < (xs ++ [z]).length := (List.getElem?_eq_some_iff.1 hx).1
      simp at hi'
      obtain rfl : i = n := by omega
      rw [List.getElem?_append_right (by omega), hl] at hx
      simp at hx; subst hx; exact hz

/-! ### What reads as data of a type -/
structure Opn (P : Program) (t : TypeId) {α : Type} (d : Kd α) : Prop where
  cells : P.cellsOf t = d.sz
  open_ : ∀ {H : Type} {enc : TypeId × Value → H} {w : World} {base : Nat} {spare : Nat → Bool} {held : Bool} {fuel : Nat} {cs : List Value} {x : DataW H × List MemPlace},
    DataW.trod enc P w base spare held fuel t cs = some x → ∃ a : α, d.R (· < w.heap.size) w a cs

section
variable {P : Program} {t : TypeId}
theorem Opn.of_Trod {α : Type} {d : Kd α} (o : Opn P t d) {H : Type} {enc : TypeId × Value → H} {w : World} {base : Nat} {spare : Nat → Bool} {held : Bool} {v : Value} {y : DataW H} {ps : List MemPlace}
    (h : DataW.Trod enc P w base spare held t v y ps) : ∃ a : α, d.R (· < w.heap.size) w a v.cells.toList := by
  obtain ⟨fuel, hf⟩ := h
  exact o.open_ hf
theorem opn_int {k : IntKind} (ht : P.underlying t = some (.int k)) (hc : P.cellsOf t = 1) : Opn P t (Kd.int k) :=
  ⟨hc, fun h => by
    obtain ⟨n, hc, _, hw⟩ := DataW.trod_int ht h
    exact ⟨n, _, hc, rfl, hw⟩⟩
theorem opn_bool (ht : P.underlying t = some .bool) (hc : P.cellsOf t = 1) : Opn P t Kd.bool :=
  ⟨hc, fun h => by
    obtain ⟨b, hc, _⟩ := DataW.trod_bool ht h
    exact ⟨b, _, hc, rfl⟩⟩
theorem opn_str (ht : P.underlying t = some .string) (hc : P.cellsOf t = 1) : Opn P t Kd.str :=
  ⟨hc, fun h => by
    obtain ⟨s, hc, _, hl⟩ := DataW.trod_string ht h
    exact ⟨s, _, hc, rfl, hl⟩⟩
theorem opn_byte (ht : P.underlying t = some (.int .u8)) (hc : P.cellsOf t = 1) : Opn P t Kd.byte :=
  ⟨hc, fun h => by
    obtain ⟨n, hc, _, hw⟩ := DataW.trod_int ht h
    have hb := bounds_u8 hw
    have e : ((UInt8.ofNat n.toNat).toNat : Int) = n := by
      rw [UInt8.toNat_ofNat']
      omega
    exact ⟨UInt8.ofNat n.toNat, _, hc, congrArg (Value.int .u8) e.symm⟩⟩
theorem opn_u32 (ht : P.underlying t = some (.int .u32)) (hc : P.cellsOf t = 1) : Opn P t Kd.u32 :=
  ⟨hc, fun h => by
    obtain ⟨n, hc, _, hw⟩ := DataW.trod_int ht h
    have hb := bounds_u32 hw
    have e : ((UInt32.ofNat n.toNat).toNat : Int) = n := by
      rw [UInt32.toNat_ofNat']
      omega
    exact ⟨UInt32.ofNat n.toNat, _, hc, congrArg (Value.int .u32) e.symm⟩⟩
theorem opn_u64 (ht : P.underlying t = some (.int .u64)) (hc : P.cellsOf t = 1) : Opn P t Kd.u64 :=
  ⟨hc, fun h => by
    obtain ⟨n, hc, _, hw⟩ := DataW.trod_int ht h
    have hb := bounds_u64 hw
    have e : ((UInt64.ofNat n.toNat).toNat : Int) = n := by
      rw [UInt64.toNat_ofNat']
      omega
    exact ⟨UInt64.ofNat n.toNat, _, hc, congrArg (Value.int .u64) e.symm⟩⟩
theorem opn_sl {α : Type} {d : Kd α} {e : TypeId} (ht : P.underlying t = some (.slice e)) (hc : P.cellsOf t = 1) (o : Opn P e d) : Opn P t (Kd.sl d) :=
  ⟨hc, fun {H enc w base spare held fuel cs x} h => by
    rcases open_slice ht h with ⟨h0, _⟩ | ⟨a, len, cap, m, n, D, Pl, hcs, hb, hl, hm, hmm, _, hx⟩
    · exact ⟨[], none, 0, h0, by simp, by simp, RdL.nil⟩
    have hle : len ≤ m := by rw [hmm]; split <;> omega
    rw [o.cells] at hx
    have each : ∀ i, i < len → ∃ (y : α) (cs' : List Value), d.R (· < w.heap.size) w y cs' ∧ ∀ j u, cs'[j]? = some u → w.cell? (a.add (i * d.sz + j)) = some u := fun i hi => by
      obtain ⟨cs', h1, h2⟩ := hx i (by omega)
      obtain ⟨y, hy⟩ := o.open_ h2
      obtain ⟨_, hlen, hcell⟩ := World.cells?_some h1
      refine ⟨y, cs', hy, fun j u hu => ?_⟩
      have hj : j < d.sz := by
        have := (List.getElem?_eq_some_iff.1 hu).1
        omega
      have := hcell j hj
      rw [Go.Deep.add_add] at this
      rw [this, hu]
    obtain ⟨xs, hxl, hxs⟩ := list_of len (fun i y => ∃ cs' : List Value, d.R (· < w.heap.size) w y cs' ∧ ∀ j u, cs'[j]? = some u → w.cell? (a.add (i * d.sz + j)) = some u) (fun i hi => each i hi)
    refine ⟨xs, some a, cap, by rw [hxl]; exact hcs, by omega, hm, fun hp => ?_⟩
    obtain ⟨cs0, hr0, hc0⟩ := hxs 0 (xs[0]'hp) (List.getElem?_eq_getElem hp)
    have hl0 := d.len hr0
    have hpos := d.pos
    have c00 := hc0 0 (cs0[0]'(by omega)) (List.getElem?_eq_getElem (by omega))
    obtain ⟨b, off, spot⟩ := a
    have hspot : spot = none := by simpa [Addr.add] using World.cell?_spot c00
    subst hspot
    refine ⟨b, off, rfl, ?_, fun i y hy => ?_⟩
    · have := World.block_lt_of_cell? _ _ c00
      simpa [Addr.add] using this
    · obtain ⟨cs', hr', hc'⟩ := hxs i y hy
      refine ⟨cs', hr', fun j u hu => ?_⟩
      have := hc' j u hu
      unfold Addr.add at this
      split at this
      · rename_i h0
        simpa [h0] using this
      · exact this⟩

/-- A struct's fields from one on. -/
structure OpnF (P : Program) (fs : List Field) (off : Nat) {α : Type} (d : Kd α) : Prop where
  open_ : ∀ {H : Type} {enc : TypeId × Value → H} {w : World} {base : Nat} {spare : Nat → Bool} {held : Bool} {n : Nat} {cs : List Value}, cs.length = off + d.sz →
    (∀ f ∈ fs, ∃ y, DataW.trod enc P w base spare held n f.type ((cs.drop f.offset).take (P.cellsOf f.type)) = some y) → ∃ a : α, d.R (· < w.heap.size) w a (cs.drop off)
theorem opnF_last {α : Type} {d : Kd α} {f : Field} {off : Nat} (ho : f.offset = off) (o : Opn P f.type d) : OpnF P [f] off d :=
  ⟨fun {H enc w base spare held n cs} hl h => by
    obtain ⟨y, hy⟩ := h f (by simp)
    rw [ho, o.cells, List.take_of_length_le (by rw [List.length_drop]; omega)] at hy
    exact o.open_ hy⟩
theorem opnF_cons {α β : Type} {d : Kd α} {d' : Kd β} {f : Field} {fs : List Field} {off : Nat} (ho : f.offset = off) (o : Opn P f.type d) (r : OpnF P fs (off + d.sz) d') : OpnF P (f :: fs) off (Kd.seq d d') :=
  ⟨fun {H enc w base spare held n cs} hl h => by
    obtain ⟨y, hy⟩ := h f (by simp)
    rw [ho, o.cells] at hy
    obtain ⟨a, ha⟩ := o.open_ hy
    obtain ⟨b, hb⟩ := r.open_ (cs := cs) (by rw [hl]; show off + (d.sz + d'.sz) = _; omega) (fun g hg => h g (by simp [hg]))
    refine ⟨(a, b), _, _, ?_, ha, hb⟩
    rw [← List.drop_drop, List.take_append_drop]⟩
theorem opn_struct {α : Type} {d : Kd α} {fs : List Field} (ht : P.underlying t = some (.struct fs.toArray)) (hc : P.cellsOf t = d.sz) (o : OpnF P fs 0 d) : Opn P t d :=
  ⟨hc, fun {H enc w base spare held fuel cs x} h => by
    obtain ⟨xs, n, _, _, hlen, hxl, hf⟩ := DataW.trod_struct ht h
    have := o.open_ (enc := enc) (w := w) (base := base) (spare := spare) (held := held) (n := n) (cs := cs) (by rw [hlen, hc]; omega) (fun f hfm => by
      obtain ⟨i, hi, rfl⟩ := List.mem_iff_getElem.1 hfm
      have h1 := hf i fs[i] (by simp)
      have hil : i < xs.length := by rw [hxl]; simpa using hi
      exact ⟨xs[i], by rw [h1]; exact List.getElem?_eq_getElem hil⟩)
    simpa using this⟩
end

/-! ### A kind's one cell, taken apart -/
theorem Kd.int_cell {k : IntKind} {S : Nat → Prop} {w : World} {n : Int} {u : Value} (h : (Kd.int k).R S w n [u]) : u = .int k n ∧ (Lit.int k n).wf = true := by
  obtain ⟨v, e, h⟩ := h
  injection e with e; subst e; exact h
theorem Kd.byte_cell {S : Nat → Prop} {w : World} {x : UInt8} {u : Value} (h : Kd.byte.R S w x [u]) : u = .int .u8 (x.toNat : Int) := by
  obtain ⟨v, e, h⟩ := h
  injection e with e; subst e; exact h
theorem Kd.u64_cell {S : Nat → Prop} {w : World} {x : UInt64} {u : Value} (h : Kd.u64.R S w x [u]) : u = .int .u64 (x.toNat : Int) := by
  obtain ⟨v, e, h⟩ := h
  injection e with e; subst e; exact h
theorem Kd.sl_cell {α : Type} {d : Kd α} {S : Nat → Prop} {w : World} {xs : List α} {u : Value} (h : (Kd.sl d).R S w xs [u]) : ∃ A c, u = .slice A xs.length c ∧ xs.length ≤ c ∧ c ≤ maxLen ∧ RdL d S w A xs := by
  obtain ⟨A, c, e, h⟩ := h
  injection e with e; exact ⟨A, c, e, h⟩

abbrev pV (N B Q E F : Int) : Value := .agg #[.int .i64 N, .int .i64 B, .int .i64 Q, .int .i64 E, .int .i64 F]
end Go.Proofs.Ytfkofhdgokhodaa
