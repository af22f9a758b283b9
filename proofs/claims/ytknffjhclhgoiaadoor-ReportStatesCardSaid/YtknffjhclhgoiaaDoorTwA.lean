/- The typed walk, part A: codecs: how Go values in memory tell Lean values; what keeps them. -/
import Derived.WalkKit
import Derived.KernelRfl
set_option linter.unusedVariables false
set_option linter.unusedSimpArgs false
namespace Go.Tw
open Go Go.RowKit

/-- Blocks that may change: the boxes and rows of the call at hand. -/
abbrev Dirty := Nat → Prop

/-- From w to w' (with the dirty blocks D, then D') all blocks that were there and weren't dirty are as they were, and aren't dirty. -/
structure Keep (D D' : Dirty) (w w' : World) : Prop where
  size : w.heap.size ≤ w'.heap.size
  blk : ∀ k, k < w.heap.size → ¬ D k → w'.heap[k]? = w.heap[k]?
  dirt : ∀ k, k < w.heap.size → ¬ D k → ¬ D' k

theorem Keep.refl (D : Dirty) (w : World) : Keep D D w w := ⟨Nat.le_refl _, fun _ _ _ => rfl, fun _ _ h => h⟩
theorem Keep.trans {D D' D'' : Dirty} {w w' w'' : World} (h : Keep D D' w w') (g : Keep D' D'' w' w'') : Keep D D'' w w'' :=
  ⟨Nat.le_trans h.size g.size, fun k hk hd => (g.blk k (Nat.lt_of_lt_of_le hk h.size) (h.dirt k hk hd)).trans (h.blk k hk hd),
   fun k hk hd => g.dirt k (Nat.lt_of_lt_of_le hk h.size) (h.dirt k hk hd)⟩
theorem Keep.below {D : Dirty} {w w' : World} (h : Below w.heap.size w w') : Keep D D w w' :=
  ⟨h.size, fun k hk _ => h.block k hk, fun _ _ h => h⟩
theorem Keep.less {D D' : Dirty} {w : World} (h : ∀ k, k < w.heap.size → D' k → D k) : Keep D D' w w :=
  ⟨Nat.le_refl _, fun _ _ _ => rfl, fun k hk hd hd' => hd (h k hk hd')⟩

/-- How cells tell a Lean value. -/
structure Codec (α : Type) where
  size : Nat
  agg : Bool
  enc : Dirty → World → List Value → α → Prop
  one : agg = false → size = 1
  len : ∀ {D w cs x}, enc D w cs x → cs.length = size
  stay : ∀ {D D' w w' cs x}, enc D w cs x → Keep D D' w w' → enc D' w' cs x

/-- Each cell is one cell (no aggregate, no tuple): what may be stored. -/
def Codec.Flat {α : Type} (c : Codec α) : Prop := ∀ {D w cs x}, c.enc D w cs x → ∀ u ∈ cs, u.oneCell' = true

def Codec.pack {α : Type} (c : Codec α) (cs : List Value) : Value := if c.agg then .agg cs.toArray else cs.headD undef

def Codec.val {α : Type} (c : Codec α) (D : Dirty) (w : World) (v : Value) (x : α) : Prop := ∃ cs, c.enc D w cs x ∧ v = c.pack cs

theorem Codec.val.stay {α : Type} {c : Codec α} {D D' : Dirty} {w w' : World} {v : Value} {x : α} (h : c.val D w v x) (k : Keep D D' w w') : c.val D' w' v x :=
  let ⟨cs, he, hv⟩ := h
  ⟨cs, c.stay he k, hv⟩

/-- The cells of a value. -/
theorem Codec.val.cells {α : Type} {c : Codec α} (hf : c.Flat) {D : Dirty} {w : World} {v : Value} {x : α} (h : c.val D w v x) : c.enc D w v.cells.toList x := by
  obtain ⟨cs, he, rfl⟩ := h
  unfold Codec.pack
  cases ha : c.agg
  · have h1 := c.len he
    rw [c.one ha] at h1
    match cs, h1 with
    | [u], _ =>
      have hu : u.oneCell' = true := hf he u (by simp)
      have : u.cells = #[u] := by cases u <;> first | rfl | (simp [Value.oneCell'] at hu)
      simpa [this] using he
  · simpa [Value.cells] using he

theorem Codec.val.of_enc {α : Type} {c : Codec α} {D : Dirty} {w : World} {cs : List Value} {x : α} (h : c.enc D w cs x) : c.val D w (c.pack cs) x := ⟨cs, h, rfl⟩

/-! ### One cell, whatever the world -/
def cPlain {α : Type} (f : α → Value) : Codec α where
  size := 1
  agg := false
  enc _ _ cs x := cs = [f x]
  one _ := rfl
  len h := by rw [h]; rfl
  stay h _ := h
abbrev cInt (k : IntKind) : Codec Int := cPlain (.int k)
abbrev cBool : Codec Bool := cPlain .bool
/-- a string's bytes -/
def strV (l : List UInt8) : Value := .string ⟨l.toArray⟩
abbrev cStr : Codec (List UInt8) := cPlain strV
/-- a value told as it is -/
abbrev cRaw : Codec Value := cPlain id
theorem cPlain_flat {α : Type} {f : α → Value} (hf : ∀ x, (f x).oneCell' = true) : (cPlain f).Flat := by
  intro D w cs x h u hu
  rw [show cs = [f x] from h] at hu
  simp only [List.mem_singleton] at hu
  subst hu
  exact hf x
theorem cInt_flat (k : IntKind) : (cInt k).Flat := cPlain_flat fun _ => rfl
theorem cBool_flat : cBool.Flat := cPlain_flat fun _ => rfl
theorem cStr_flat : cStr.Flat := cPlain_flat fun _ => rfl
theorem cPlain_val {α : Type} {f : α → Value} {D : Dirty} {w : World} {v : Value} {x : α} : (cPlain f).val D w v x ↔ v = f x := by
  constructor
  · rintro ⟨cs, he, rfl⟩
    rw [show cs = [f x] from he]; rfl
  · rintro rfl
    exact ⟨[f x], rfl, rfl⟩
theorem cPlain_mk {α : Type} {f : α → Value} {D : Dirty} {w : World} (x : α) : (cPlain f).val D w (f x) x := cPlain_val.2 rfl

/-! ### Two things side by side; a record by its parts -/
def cProd {α β : Type} (c : Codec α) (d : Codec β) : Codec (α × β) where
  size := c.size + d.size
  agg := true
  enc D w cs x := ∃ a b, cs = a ++ b ∧ c.enc D w a x.1 ∧ d.enc D w b x.2
  one h := by cases h
  len := by rintro D w cs x ⟨a, b, rfl, ha, hb⟩; rw [List.length_append, c.len ha, d.len hb]
  stay := by rintro D D' w w' cs x ⟨a, b, rfl, ha, hb⟩ k; exact ⟨a, b, rfl, c.stay ha k, d.stay hb k⟩
theorem cProd_flat {α β : Type} {c : Codec α} {d : Codec β} (hc : c.Flat) (hd : d.Flat) : (cProd c d).Flat := by
  rintro D w cs x ⟨a, b, rfl, ha, hb⟩ u hu
  rcases List.mem_append.1 hu with h | h
  · exact hc ha u h
  · exact hd hb u h
/-- A record whose parts g tells. -/
def cMap {α β : Type} (g : β → α) (c : Codec α) : Codec β where
  size := c.size
  agg := true
  enc D w cs y := c.enc D w cs (g y)
  one h := by cases h
  len h := c.len h
  stay h k := c.stay h k
theorem cMap_flat {α β : Type} {g : β → α} {c : Codec α} (hc : c.Flat) : (cMap g c).Flat := fun h => hc h

/-! ### Rows of elements -/
def encList {α : Type} (c : Codec α) (D : Dirty) (w : World) : List Value → List α → Prop
  | cs, [] => cs = []
  | cs, x :: xs => ∃ a b, cs = a ++ b ∧ c.enc D w a x ∧ encList c D w b xs
theorem encList_len {α : Type} {c : Codec α} {D : Dirty} {w : World} : ∀ {cs : List Value} {xs : List α}, encList c D w cs xs → cs.length = xs.length * c.size
  | _, [], h => by rw [show _ = [] from h]; simp
  | _, x :: xs, ⟨a, b, h, ha, hb⟩ => by rw [h, List.length_append, c.len ha, encList_len hb, List.length_cons, Nat.succ_mul, Nat.add_comm]
theorem encList_stay {α : Type} {c : Codec α} {D D' : Dirty} {w w' : World} (k : Keep D D' w w') : ∀ {cs : List Value} {xs : List α}, encList c D w cs xs → encList c D' w' cs xs
  | _, [], h => h
  | _, x :: xs, ⟨a, b, h, ha, hb⟩ => ⟨a, b, h, c.stay ha k, encList_stay k hb⟩
theorem encList_flat {α : Type} {c : Codec α} (hc : c.Flat) {D : Dirty} {w : World} : ∀ {cs : List Value} {xs : List α}, encList c D w cs xs → ∀ u ∈ cs, u.oneCell' = true
  | _, [], h, u, hu => by rw [show _ = [] from h] at hu; cases hu
  | _, x :: xs, ⟨a, b, h, ha, hb⟩, u, hu => by
    rw [h] at hu
    rcases List.mem_append.1 hu with h' | h'
    · exact hc ha u h'
    · exact encList_flat hc hb u h'
theorem encList_append {α : Type} {c : Codec α} {D : Dirty} {w : World} : ∀ {cs ds : List Value} {xs ys : List α}, encList c D w cs xs → encList c D w ds ys → encList c D w (cs ++ ds) (xs ++ ys)
  | _, _, [], _, h, g => by rw [show _ = [] from h]; simpa using g
  | _, _, x :: xs, _, ⟨a, b, h, ha, hb⟩, g => ⟨a, b ++ _, by rw [h, List.append_assoc], ha, encList_append hb g⟩
theorem encList_one {α : Type} {c : Codec α} {D : Dirty} {w : World} {cs : List Value} {x : α} (h : c.enc D w cs x) : encList c D w cs [x] := ⟨cs, [], by simp, h, rfl⟩
theorem encList_split {α : Type} {c : Codec α} {D : Dirty} {w : World} : ∀ {cs : List Value} {xs ys : List α}, encList c D w cs (xs ++ ys) → ∃ a b, cs = a ++ b ∧ encList c D w a xs ∧ encList c D w b ys
  | cs, [], ys, h => ⟨[], cs, rfl, rfl, h⟩
  | cs, x :: xs, ys, ⟨a, b, h, ha, hb⟩ => by
    obtain ⟨p, q, rfl, hp, hq⟩ := encList_split hb
    exact ⟨a ++ p, q, by rw [h, List.append_assoc], ⟨a, p, rfl, ha, hp⟩, hq⟩
theorem drop_take_mid {α : Type} (a m b : List α) {o n : Nat} (ho : a.length = o) (hn : m.length = n) : ((a ++ (m ++ b)).drop o).take n = m := by
  subst ho; subst hn
  simp
theorem take_set_mid {α : Type} (a m b m' : List α) {o n : Nat} (ho : a.length = o) (hn : m.length = n) :
    (a ++ (m ++ b)).take o ++ m' ++ (a ++ (m ++ b)).drop (o + n) = a ++ (m' ++ b) := by
  subst ho; subst hn
  rw [← List.append_assoc a m b, List.drop_append_of_le_length (by simp)]
  simp
/-- The element number i: its cells. -/
theorem encList_mid {α : Type} {c : Codec α} {D : Dirty} {w : World} {cs : List Value} {xs : List α} (h : encList c D w cs xs) {i : Nat} (hi : i < xs.length) :
    ∃ a m b, cs = a ++ (m ++ b) ∧ a.length = i * c.size ∧ c.enc D w m xs[i] ∧ encList c D w a (xs.take i) ∧ encList c D w b (xs.drop (i + 1)) := by
  have e : xs = xs.take i ++ (xs[i] :: xs.drop (i + 1)) := by
    rw [List.getElem_cons_drop, List.take_append_drop]
  rw [e] at h
  obtain ⟨a, r, rfl, ha, hr⟩ := encList_split h
  obtain ⟨m, b, rfl, hm, hb⟩ := hr
  refine ⟨a, m, b, rfl, ?_, hm, ha, hb⟩
  rw [encList_len ha, List.length_take, Nat.min_eq_left (Nat.le_of_lt hi)]
theorem encList_get {α : Type} {c : Codec α} {D : Dirty} {w : World} {cs : List Value} {xs : List α} (h : encList c D w cs xs) {i : Nat} (hi : i < xs.length) :
    c.enc D w ((cs.drop (i * c.size)).take c.size) xs[i] := by
  obtain ⟨a, m, b, rfl, ha, hm, _⟩ := encList_mid h hi
  rw [drop_take_mid a m b ha (c.len hm)]
  exact hm
theorem encList_set {α : Type} {c : Codec α} {D : Dirty} {w : World} {cs : List Value} {xs : List α} (h : encList c D w cs xs) {i : Nat} (hi : i < xs.length) {m' : List Value} {y : α} (hy : c.enc D w m' y) :
    encList c D w (cs.take (i * c.size) ++ m' ++ cs.drop (i * c.size + c.size)) (xs.set i y) := by
  obtain ⟨a, m, b, rfl, ha, hm, h1, h2⟩ := encList_mid h hi
  rw [take_set_mid a m b m' ha (c.len hm)]
  have e : xs.set i y = xs.take i ++ (y :: xs.drop (i + 1)) := by
    rw [List.set_eq_take_append_cons_drop, if_pos hi]
  rw [e]
  exact encList_append h1 ⟨m', b, rfl, hy, h2⟩
theorem encList_take {α : Type} {c : Codec α} {D : Dirty} {w : World} {cs : List Value} {xs : List α} (h : encList c D w cs xs) (i : Nat) : encList c D w (cs.take (i * c.size)) (xs.take i) := by
  by_cases hi : i ≤ xs.length
  · have e : xs = xs.take i ++ xs.drop i := (List.take_append_drop i xs).symm
    rw [e] at h
    obtain ⟨a, r, rfl, ha, hr⟩ := encList_split h
    have hl : a.length = i * c.size := by rw [encList_len ha, List.length_take, Nat.min_eq_left hi]
    rw [← hl, List.take_left']
    · exact ha
    · rfl
  · have hl := encList_len h
    rw [List.take_of_length_le (by rw [hl]; exact Nat.mul_le_mul_right _ (by omega)), List.take_of_length_le (by omega)]
    exact h
theorem encList_drop {α : Type} {c : Codec α} {D : Dirty} {w : World} {cs : List Value} {xs : List α} (h : encList c D w cs xs) (i : Nat) : encList c D w (cs.drop (i * c.size)) (xs.drop i) := by
  by_cases hi : i ≤ xs.length
  · have e : xs = xs.take i ++ xs.drop i := (List.take_append_drop i xs).symm
    rw [e] at h
    obtain ⟨a, r, rfl, ha, hr⟩ := encList_split h
    have hl : a.length = i * c.size := by rw [encList_len ha, List.length_take, Nat.min_eq_left hi]
    rw [← hl, List.drop_left']
    · exact hr
    · rfl
  · have hl := encList_len h
    rw [List.drop_of_length_le (by rw [hl]; exact Nat.mul_le_mul_right _ (by omega)), List.drop_of_length_le (by omega)]
    rfl

/-- An array of n elements. -/
def cArr {α : Type} (n : Nat) (c : Codec α) : Codec (List α) where
  size := n * c.size
  agg := true
  enc D w cs xs := xs.length = n ∧ encList c D w cs xs
  one h := by cases h
  len := by rintro D w cs x ⟨h, he⟩; rw [encList_len he, h]
  stay := by rintro D D' w w' cs x ⟨h, he⟩ k; exact ⟨h, encList_stay k he⟩
theorem cArr_flat {α : Type} {n : Nat} {c : Codec α} (hc : c.Flat) : (cArr n c).Flat := fun h => encList_flat hc h.2

/-- Cells that lie at an offset of a block that isn't dirty. -/
def lies (D : Dirty) (w : World) (g o : Nat) (cs : List Value) : Prop :=
  ¬ D g ∧ ∃ cur t fr, w.heap[g]? = some (.cells cur t fr) ∧ o + cs.length ≤ cur.size ∧ (cur.toList.drop o).take cs.length = cs
theorem lies.lt {D : Dirty} {w : World} {g o : Nat} {cs : List Value} (h : lies D w g o cs) : g < w.heap.size := by
  obtain ⟨_, cur, t, fr, hg, _⟩ := h
  exact (Array.getElem?_eq_some_iff.1 hg).1
theorem lies.stay {D D' : Dirty} {w w' : World} {g o : Nat} {cs : List Value} (h : lies D w g o cs) (k : Keep D D' w w') : lies D' w' g o cs := by
  have hlt := h.lt
  obtain ⟨hd, cur, t, fr, hg, h1, h2⟩ := h
  exact ⟨k.dirt g hlt hd, cur, t, fr, (k.blk g hlt hd).trans hg, h1, h2⟩
theorem lies.sub {D : Dirty} {w : World} {g o : Nat} {a m b : List Value} (h : lies D w g o (a ++ (m ++ b))) {k : Nat} (hk : a.length = k) : lies D w g (o + k) m := by
  obtain ⟨hd, cur, t, fr, hg, h1, h2⟩ := h
  subst hk
  refine ⟨hd, cur, t, fr, hg, by simp at h1; omega, ?_⟩
  have e : ((cur.toList.drop o).take (a ++ (m ++ b)).length).drop a.length = m ++ b := by rw [h2]; simp
  rw [List.drop_take, List.drop_drop] at e
  have e2 := congrArg (List.take m.length) e
  rw [List.take_take] at e2
  simp only [List.length_append, List.take_left'] at e2
  rw [show min m.length (a.length + (m.length + b.length) - a.length) = m.length by omega] at e2
  exact e2

/-- A slice that is read: its elements lie in a block that isn't dirty. -/
def cSlice {α : Type} (c : Codec α) : Codec (List α) where
  size := 1
  agg := false
  enc D w cs xs := ∃ A cap, cs = [.slice A xs.length cap] ∧ xs.length ≤ cap ∧ cap ≤ 9223372036854775807 ∧ (xs ≠ [] → ∃ g o es, A = some ⟨g, o, none⟩ ∧ lies D w g o es ∧ encList c D w es xs)
  one _ := rfl
  len := by rintro D w cs x ⟨A, cap, rfl, _⟩; rfl
  stay := by
    rintro D D' w w' cs x ⟨A, cap, rfl, hn, hm, h⟩ k
    refine ⟨A, cap, rfl, hn, hm, fun hx => ?_⟩
    obtain ⟨g, o, es, hA, hl, he⟩ := h hx
    exact ⟨g, o, es, hA, hl.stay k, encList_stay k he⟩
theorem cSlice_flat {α : Type} {c : Codec α} : (cSlice c).Flat := by
  rintro D w cs x ⟨A, cap, rfl, _⟩ u hu
  simp only [List.mem_singleton] at hu
  subst hu; rfl
theorem cSlice_val {α : Type} {c : Codec α} {D : Dirty} {w : World} {v : Value} {xs : List α} (h : (cSlice c).val D w v xs) :
    ∃ A cap, v = .slice A xs.length cap ∧ xs.length ≤ cap ∧ cap ≤ 9223372036854775807 ∧ (xs ≠ [] → ∃ g o es, A = some ⟨g, o, none⟩ ∧ lies D w g o es ∧ encList c D w es xs) := by
  obtain ⟨cs, ⟨A, cap, rfl, h⟩, rfl⟩ := h
  exact ⟨A, cap, rfl, h⟩
theorem cSlice_mk {α : Type} {c : Codec α} {D : Dirty} {w : World} {A : Option Addr} {cap : Nat} {xs : List α} (h1 : xs.length ≤ cap) (h2 : cap ≤ 9223372036854775807)
    (h : xs ≠ [] → ∃ g o es, A = some ⟨g, o, none⟩ ∧ lies D w g o es ∧ encList c D w es xs) : (cSlice c).val D w (.slice A xs.length cap) xs :=
  ⟨_, ⟨A, cap, rfl, h1, h2, h⟩, rfl⟩
theorem cSlice_nil {α : Type} {c : Codec α} {D : Dirty} {w : World} : (cSlice c).val D w (.slice none 0 0) ([] : List α) := cSlice_mk (xs := []) (by simp) (by simp) (fun h => absurd rfl h)

/-- A pointer to what is only read. -/
def cRef {α : Type} (c : Codec α) : Codec α where
  size := 1
  agg := false
  enc D w cs x := ∃ g o es, cs = [.pointer (some ⟨g, o, none⟩)] ∧ lies D w g o es ∧ c.enc D w es x
  one _ := rfl
  len := by rintro D w cs x ⟨g, o, es, rfl, _⟩; rfl
  stay := by
    rintro D D' w w' cs x ⟨g, o, es, rfl, hl, he⟩ k
    exact ⟨g, o, es, rfl, hl.stay k, c.stay he k⟩
theorem cRef_val {α : Type} {c : Codec α} {D : Dirty} {w : World} {v : Value} {x : α} (h : (cRef c).val D w v x) :
    ∃ g o es, v = .pointer (some ⟨g, o, none⟩) ∧ lies D w g o es ∧ c.enc D w es x := by
  obtain ⟨cs, ⟨g, o, es, rfl, h⟩, rfl⟩ := h
  exact ⟨g, o, es, rfl, h⟩

/-- Two results. -/
def cTup2 {α β : Type} (c : Codec α) (d : Codec β) : Codec (α × β) where
  size := 1
  agg := false
  enc D w cs x := ∃ u v, cs = [.tuple #[u, v]] ∧ c.val D w u x.1 ∧ d.val D w v x.2
  one _ := rfl
  len := by rintro D w cs x ⟨u, v, rfl, _⟩; rfl
  stay := by rintro D D' w w' cs x ⟨u, v, rfl, hu, hv⟩ k; exact ⟨u, v, rfl, hu.stay k, hv.stay k⟩
def cTup3 {α β γ : Type} (c : Codec α) (d : Codec β) (e : Codec γ) : Codec (α × β × γ) where
  size := 1
  agg := false
  enc D w cs x := ∃ u v z, cs = [.tuple #[u, v, z]] ∧ c.val D w u x.1 ∧ d.val D w v x.2.1 ∧ e.val D w z x.2.2
  one _ := rfl
  len := by rintro D w cs x ⟨u, v, z, rfl, _⟩; rfl
  stay := by rintro D D' w w' cs x ⟨u, v, z, rfl, hu, hv, hz⟩ k; exact ⟨u, v, z, rfl, hu.stay k, hv.stay k, hz.stay k⟩
def cTup4 {α β γ δ : Type} (c : Codec α) (d : Codec β) (e : Codec γ) (f : Codec δ) : Codec (α × β × γ × δ) where
  size := 1
  agg := false
  enc D w cs x := ∃ u v z y, cs = [.tuple #[u, v, z, y]] ∧ c.val D w u x.1 ∧ d.val D w v x.2.1 ∧ e.val D w z x.2.2.1 ∧ f.val D w y x.2.2.2
  one _ := rfl
  len := by rintro D w cs x ⟨u, v, z, y, rfl, _⟩; rfl
  stay := by rintro D D' w w' cs x ⟨u, v, z, y, rfl, hu, hv, hz, hy⟩ k; exact ⟨u, v, z, y, rfl, hu.stay k, hv.stay k, hz.stay k, hy.stay k⟩

/-! ### A part of a value -/
structure Lens {α β : Type} (c : Codec α) (d : Codec β) (off : Nat) (get : α → β) (set : β → α → α) : Prop where
  fits : ∀ {D w cs x}, c.enc D w cs x → off + d.size ≤ c.size
  read : ∀ {D w cs x}, c.enc D w cs x → d.enc D w ((cs.drop off).take d.size) (get x)
  write : ∀ {D w cs x m y}, c.enc D w cs x → d.enc D w m y → c.enc D w (cs.take off ++ m ++ cs.drop (off + d.size)) (set y x)
theorem Lens.id {α : Type} (c : Codec α) : Lens c c 0 (fun x => x) (fun y _ => y) :=
  ⟨fun _ => by omega, fun h => by simp only [List.drop_zero]; rw [← c.len h, List.take_length]; exact h,
   fun h hm => by simp only [List.take_zero, List.nil_append, Nat.zero_add]; rw [← c.len h, List.drop_length, List.append_nil]; exact hm⟩
theorem Lens.comp {α β γ : Type} {c : Codec α} {d : Codec β} {e : Codec γ} {o p : Nat} {g1 : α → β} {s1 : β → α → α} {g2 : β → γ} {s2 : γ → β → β} (h : Lens c d o g1 s1) (k : Lens d e p g2 s2) :
    Lens c e (o + p) (fun x => g2 (g1 x)) (fun z x => s1 (s2 z (g1 x)) x) where
  fits hx := by have := h.fits hx; have := k.fits (h.read hx); omega
  read {D w cs x} hx := by
    have h1 := k.read (h.read hx)
    have hf := k.fits (h.read hx)
    rw [List.drop_take, List.drop_drop, List.take_take, Nat.min_eq_left (by omega)] at h1
    exact h1
  write {D w cs x m y} hx hm := by
    have hr := h.read hx
    have hf := k.fits hr
    have hg := h.fits hx
    have hl := c.len hx
    have h1 := h.write hx (k.write hr hm)
    have e : cs.take o ++ (((cs.drop o).take d.size).take p ++ m ++ ((cs.drop o).take d.size).drop (p + e.size)) ++ cs.drop (o + d.size) = cs.take (o + p) ++ m ++ cs.drop (o + p + e.size) := by
      have t1 : cs.take (o + p) = cs.take o ++ ((cs.drop o).take d.size).take p := by
        rw [List.take_take, Nat.min_eq_left (by omega), ← List.take_add]
      have t2 : cs.drop (o + p + e.size) = ((cs.drop o).take d.size).drop (p + e.size) ++ cs.drop (o + d.size) := by
        rw [List.drop_take, List.drop_drop]
        rw [show o + d.size = (o + (p + e.size)) + (d.size - (p + e.size)) by omega, ← List.drop_drop (i := d.size - (p + e.size)), List.take_append_drop, Nat.add_assoc]
      rw [t1, t2]
      simp [List.append_assoc]
    rw [← e]
    exact h1
theorem Lens.fst {α β : Type} (c : Codec α) (d : Codec β) : Lens (cProd c d) c 0 (fun x => x.1) (fun y x => (y, x.2)) where
  fits _ := by simp [cProd]
  read := by
    rintro D w cs x ⟨a, b, rfl, ha, hb⟩
    simp only [List.drop_zero]
    rw [← c.len ha, List.take_left']
    · exact ha
    · rfl
  write := by
    rintro D w cs x m y ⟨a, b, rfl, ha, hb⟩ hm
    simp only [List.take_zero, List.nil_append, Nat.zero_add]
    rw [← c.len ha, List.drop_left']
    · exact ⟨m, b, rfl, hm, hb⟩
    · rfl
theorem Lens.snd {α β : Type} (c : Codec α) (d : Codec β) : Lens (cProd c d) d c.size (fun x => x.2) (fun y x => (x.1, y)) where
  fits _ := by simp [cProd]
  read := by
    rintro D w cs x ⟨a, b, rfl, ha, hb⟩
    rw [← c.len ha, List.drop_left', ← d.len hb, List.take_length]
    · exact hb
    · rfl
  write := by
    rintro D w cs x m y ⟨a, b, rfl, ha, hb⟩ hm
    rw [← c.len ha, List.take_left', ← d.len hb, List.drop_of_length_le (by simp), List.append_nil]
    · exact ⟨a, m, rfl, ha, hm⟩
    · rfl
/-- Through a record's outside. -/
theorem Lens.inn {α β γ : Type} {g : β → α} {c : Codec α} {d : Codec γ} {o : Nat} {get : α → γ} {set : γ → α → α} (h : Lens c d o get set) {get' : β → γ} {set' : γ → β → β}
    (hg : ∀ y, get' y = get (g y)) (hs : ∀ z y, g (set' z y) = set z (g y)) : Lens (cMap g c) d o get' set' where
  fits hx := h.fits (D := _) hx
  read {D w cs x} hx := by rw [hg]; exact h.read hx
  write {D w cs x m y} hx hm := by show c.enc D w _ (g (set' y x)); rw [hs]; exact h.write hx hm
/-- An array's element. -/
theorem Lens.at {α : Type} {n : Nat} (c : Codec α) (i : Nat) (hi : i < n) (z : α) : Lens (cArr n c) c (i * c.size) (fun xs => xs.getD i z) (fun y xs => xs.set i y) where
  fits _ := by
    show i * c.size + c.size ≤ n * c.size
    rw [← Nat.succ_mul]; exact Nat.mul_le_mul_right _ hi
  read := by
    rintro D w cs xs ⟨hl, he⟩
    have := encList_get he (i := i) (by omega)
    rw [show xs.getD i z = xs[i] by simp [List.getD, List.getElem?_eq_getElem (show i < xs.length by omega)]]
    exact this
  write := by
    rintro D w cs xs m y ⟨hl, he⟩ hm
    exact ⟨by simp [hl], encList_set he (by omega) hm⟩
end Go.Tw
