/- The typed walk, part F: slices cut, made, appended to; records built; results taken apart; calls. -/
import Derived.Test.YtknffjhclhgoiaaDoorTwE
import Derived.Maps.AppendAt
set_option linter.unusedVariables false
set_option linter.unusedSimpArgs false
namespace Go.Tw
open Go Go.RowKit

section
variable {P : Program} {ops : Array Oper} {Q : Exit → Act → World → Prop} {rest : List Oper} {a : Act} {w w' : World} {d : Nat} {ty : TypeId} {ps : String} {af : Array Edge}
variable {N : Nat} {F0 : Nat → Prop} {D0 : Dirty} {w0 : World} {R : List Res} {E : List Ent}
variable {t t' : TypeId} {y z : Operand}

theorem encList_lies {α : Type} {c : Codec α} {D : Dirty} {w : World} {g o : Nat} {es : List Value} {xs : List α} (hl : lies D w g o es) (he : encList c D w es xs) {l h : Nat} (h1 : l ≤ h) (h2 : h ≤ xs.length) :
    ∃ es', lies D w g (o + l * c.size) es' ∧ encList c D w es' ((xs.take h).drop l) := by
  have e1 : xs = xs.take l ++ (((xs.take h).drop l) ++ xs.drop h) := by
    rw [← List.append_assoc]
    have : xs.take l ++ (xs.take h).drop l = xs.take h := by
      conv => rhs; rw [← List.take_append_drop l (xs.take h)]
      rw [List.take_take, Nat.min_eq_left h1]
    rw [this, List.take_append_drop]
  rw [e1] at he
  obtain ⟨p, r, rfl, hp, hr⟩ := encList_split he
  obtain ⟨m, q, rfl, hm, hq⟩ := encList_split hr
  refine ⟨m, hl.sub ?_, hm⟩
  rw [encList_len hp, List.length_take, Nat.min_eq_left (Nat.le_trans h1 h2)]

theorem sliced {α : Type} {c : Codec α} {D : Dirty} {w : World} {A : Option Addr} {cap : Nat} {xs : List α} (h : xs.length ≤ cap) (hc : cap ≤ 9223372036854775807)
    (hA : xs ≠ [] → ∃ g o es, A = some ⟨g, o, none⟩ ∧ lies D w g o es ∧ encList c D w es xs) {l u : Nat} (h1 : l ≤ u) (h2 : u ≤ xs.length) :
    (cSlice c).val D w (.slice (if cap = l then A else A.map (·.add (l * c.size))) (u - l) (cap - l)) ((xs.take u).drop l) := by
  have hlen : ((xs.take u).drop l).length = u - l := by simp; omega
  rw [← hlen]
  refine cSlice_mk (by omega) (by omega) (fun hne => ?_)
  have hne' : xs ≠ [] := by rintro rfl; simp at hne
  have hlt : l < u := by
    rcases Nat.lt_or_ge l u with h | h
    · exact h
    · exact absurd (List.eq_nil_of_length_eq_zero (by omega)) hne
  obtain ⟨g, o, es, rfl, hl, he⟩ := hA hne'
  obtain ⟨es', hl', he'⟩ := encList_lies hl he h1 h2
  refine ⟨g, o + l * c.size, es', ?_, hl', he'⟩
  rw [if_neg (by omega)]
  simp [Addr.add_lit]

theorem bound_ok {v : Value} {kd : IntKind} {i : Int} {n : Nat} {code : BoundsCode} (hv : v = .int kd i) (h : 0 ≤ i ∧ i ≤ n) : (Instr.sliceBound v n code).run P w = .ok i.toNat w := by
  subst hv
  simp [Instr.sliceBound, asIntOf, h.1, h.2]

theorem op_sliceft (S : St N F0 D0 w0 a w R E) (hp : okPut N d E = true) {α : Type} {c : Codec α} {e : TypeId} {xs : List α} {lo hi : Operand} {kl kh : IntKind} {l h : Int} (hx : (cSlice c).val (dirt D0 R) w (a.eval y) xs)
    (hl : a.eval lo = .int kl l) (hh : a.eval hi = .int kh h) (hg : 0 ≤ l ∧ l ≤ h ∧ h ≤ xs.length) (hu : P.underlying t = some (.slice e)) (hs : ∀ w, (sizeOf e).run P w = .ok c.size w)
    (k : ∀ a', St N F0 D0 w0 a' w R (⟨d, List α, cSlice c, (xs.take h.toNat).drop l.toNat⟩ :: E) → wpList P ops Q rest a' w) :
    wpList P ops Q (⟨some d, .slice t y (some lo) (some hi) none, ty, ps, af, none⟩ :: rest) a w := by
  obtain ⟨A, cap, hv, h1, h2, h3⟩ := cSlice_val hx
  refine op_val S hp ?_ (sliced h1 h2 h3 (l := l.toNat) (u := h.toNat) (by omega) (by omega)) k
  simp only [execOp, hv, Instr.sliceAt, Sem.run_bind, run_underlying hu, Result.andThen_ok, Option.map_some, Option.map_none, Instr.slice, Instr.sliceBounds, Sem.run_pure, bound_ok hh (n := cap) (code := .sliceAcap) ⟨by omega, by omega⟩, if_true,
    bound_ok hl (n := h.toNat) (code := .sliceB) ⟨by omega, by omega⟩, Option.isSome_none, Bool.false_eq_true, if_false, hs w]
theorem op_slicef (S : St N F0 D0 w0 a w R E) (hp : okPut N d E = true) {α : Type} {c : Codec α} {e : TypeId} {xs : List α} {lo : Operand} {kl : IntKind} {l : Int} (hx : (cSlice c).val (dirt D0 R) w (a.eval y) xs)
    (hl : a.eval lo = .int kl l) (hg : 0 ≤ l ∧ l ≤ xs.length) (hu : P.underlying t = some (.slice e)) (hs : ∀ w, (sizeOf e).run P w = .ok c.size w)
    (k : ∀ a', St N F0 D0 w0 a' w R (⟨d, List α, cSlice c, xs.drop l.toNat⟩ :: E) → wpList P ops Q rest a' w) :
    wpList P ops Q (⟨some d, .slice t y (some lo) none none, ty, ps, af, none⟩ :: rest) a w := by
  obtain ⟨A, cap, hv, h1, h2, h3⟩ := cSlice_val hx
  have hs' := sliced h1 h2 h3 (l := l.toNat) (u := xs.length) (by omega) (Nat.le_refl _)
  rw [List.take_length] at hs'
  refine op_val S hp ?_ hs' k
  simp only [execOp, hv, Instr.sliceAt, Sem.run_bind, run_underlying hu, Result.andThen_ok, Option.map_some, Option.map_none, Instr.slice, Instr.sliceBounds, Sem.run_pure,
    bound_ok hl (n := xs.length) (code := .sliceB) ⟨by omega, by omega⟩, Option.isSome_none, Bool.false_eq_true, if_false, hs w]
theorem op_slicet (S : St N F0 D0 w0 a w R E) (hp : okPut N d E = true) {α : Type} {c : Codec α} {e : TypeId} {xs : List α} {hi : Operand} {kh : IntKind} {h : Int} (hx : (cSlice c).val (dirt D0 R) w (a.eval y) xs)
    (hh : a.eval hi = .int kh h) (hg : 0 ≤ h ∧ h ≤ xs.length) (hu : P.underlying t = some (.slice e)) (hs : ∀ w, (sizeOf e).run P w = .ok c.size w)
    (k : ∀ a', St N F0 D0 w0 a' w R (⟨d, List α, cSlice c, xs.take h.toNat⟩ :: E) → wpList P ops Q rest a' w) :
    wpList P ops Q (⟨some d, .slice t y none (some hi) none, ty, ps, af, none⟩ :: rest) a w := by
  obtain ⟨A, cap, hv, h1, h2, h3⟩ := cSlice_val hx
  have hs' := sliced h1 h2 h3 (l := 0) (u := h.toNat) (by omega) (by omega)
  rw [List.drop_zero] at hs'
  refine op_val S hp ?_ hs' k
  simp only [execOp, hv, Instr.sliceAt, Sem.run_bind, run_underlying hu, Result.andThen_ok, Option.map_some, Option.map_none, Instr.slice, Instr.sliceBounds, Sem.run_pure, bound_ok hh (n := cap) (code := .sliceAcap) ⟨by omega, by omega⟩, if_true,
    Option.isSome_none, Bool.false_eq_true, if_false, hs w]
/-- an array that is only read, as a slice -/
theorem op_slicearr (S : St N F0 D0 w0 a w R E) (hp : okPut N d E = true) {α : Type} {c : Codec α} {n : Nat} {e : TypeId} {xs : List α} (hx : (cRef (cArr n c)).val (dirt D0 R) w (a.eval y) xs) (hn : n ≤ 9223372036854775807)
    (hu : P.underlying t = some (.array n e)) (hs : ∀ w, (sizeOf e).run P w = .ok c.size w)
    (k : ∀ a', St N F0 D0 w0 a' w R (⟨d, List α, cSlice c, xs⟩ :: E) → wpList P ops Q rest a' w) :
    wpList P ops Q (⟨some d, .slice t y none none none, ty, ps, af, none⟩ :: rest) a w := by
  obtain ⟨g, o, es, hv, hl, ⟨hlen, he⟩⟩ := cRef_val hx
  have hs' := sliced (c := c) (D := dirt D0 R) (w := w) (A := some ⟨g, o, none⟩) (cap := n) (xs := xs) (by omega) hn (fun _ => ⟨g, o, es, rfl, hl, he⟩) (l := 0) (u := n) (by omega) (by omega)
  rw [List.drop_zero, ← hlen, List.take_length] at hs'
  refine op_val S hp ?_ hs' k
  simp only [execOp, hv, Instr.sliceAt, Sem.run_bind, run_underlying hu, Result.andThen_ok, Option.map_none, Instr.sureAddr, Instr.sliceBounds, Sem.run_pure, Option.isSome_none, Bool.false_eq_true, if_false, hs w]
  simp [← hlen, Addr.add]
theorem op_slicearrt (S : St N F0 D0 w0 a w R E) (hp : okPut N d E = true) {α : Type} {c : Codec α} {n : Nat} {e : TypeId} {xs : List α} {hi : Operand} {kh : IntKind} {h : Int} (hx : (cRef (cArr n c)).val (dirt D0 R) w (a.eval y) xs) (hn : n ≤ 9223372036854775807)
    (hh : a.eval hi = .int kh h) (hg : 0 ≤ h ∧ h ≤ n) (hu : P.underlying t = some (.array n e)) (hs : ∀ w, (sizeOf e).run P w = .ok c.size w)
    (k : ∀ a', St N F0 D0 w0 a' w R (⟨d, List α, cSlice c, xs.take h.toNat⟩ :: E) → wpList P ops Q rest a' w) :
    wpList P ops Q (⟨some d, .slice t y none (some hi) none, ty, ps, af, none⟩ :: rest) a w := by
  obtain ⟨g, o, es, hv, hl, ⟨hlen, he⟩⟩ := cRef_val hx
  have hs' := sliced (c := c) (D := dirt D0 R) (w := w) (A := some ⟨g, o, none⟩) (cap := n) (xs := xs) (by omega) hn (fun _ => ⟨g, o, es, rfl, hl, he⟩) (l := 0) (u := h.toNat) (by omega) (by omega)
  rw [List.drop_zero] at hs'
  refine op_val S hp ?_ hs' k
  simp only [execOp, hv, Instr.sliceAt, Sem.run_bind, run_underlying hu, Result.andThen_ok, Option.map_none, Option.map_some, Instr.sureAddr, Instr.sliceBounds, Sem.run_pure, bound_ok hh (n := n) (code := .sliceAlen) ⟨by omega, by omega⟩, Option.isSome_none, Bool.false_eq_true, if_false, hs w]
  simp [Addr.add]

/-! ### What is put together out of parts -/
theorem fold_set (off : Nat) : ∀ (m : List Value) (j : Nat) (cs : Array Value), off + j + m.length ≤ cs.size →
    ((m.zipIdx j).foldl (fun cs (c, i) => cs.setIfInBounds (off + i) c) cs).toList = cs.toList.take (off + j) ++ m ++ cs.toList.drop (off + j + m.length)
  | [], j, cs, _ => by simp
  | u :: m, j, cs, h => by
    have hlt : off + j < cs.size := by simp at h; omega
    rw [List.zipIdx_cons, List.foldl_cons, fold_set off m (j + 1) _ (by rw [Array.size_setIfInBounds]; simp only [List.length_cons] at h; omega)]
    simp only [Array.toList_setIfInBounds]
    rw [show off + (j + 1) = (off + j) + 1 by omega]
    rw [List.take_set, List.take_add_one, List.set_append_right _ _ (by simp; omega), List.length_take]
    rw [show off + j - min (off + j) cs.toList.length = 0 by simp; omega]
    rw [List.getElem?_eq_getElem (by simpa using hlt)]
    simp only [Option.toList_some, List.set_cons_zero, List.append_assoc, List.singleton_append, List.length_cons]
    rw [List.drop_set_of_lt (show off + j < off + j + 1 + m.length by omega)]
    rw [show off + j + 1 + m.length = off + j + (m.length + 1) by omega]
theorem fill_cons {place : Nat → Option (Nat × Nat)} {cells : Array Value} {i off sz : Nat} {v : Value} {rest : List (Nat × Value)} (hpl : place i = some (off, sz)) (hv : v.cells.size = sz) (h : off + sz ≤ cells.size) :
    Instr.fill place cells ((i, v) :: rest) = Instr.fill place (cells.toList.take off ++ v.cells.toList ++ cells.toList.drop (off + sz)).toArray rest := by
  subst hv
  have hn : ¬ (v.cells.size ≠ v.cells.size ∨ off + v.cells.size > cells.size) := by simp; omega
  simp only [Instr.fill, hpl]
  rw [if_neg (by simpa using h)]
  congr 1
  have := fold_set off v.cells.toList 0 cells (by simpa using h)
  apply Array.ext'
  rw [← Array.foldl_toList, Array.toList_zipIdx]
  simpa using this
/-- Parts laid into a value, one behind the other. -/
def Built {α : Type} (c : Codec α) (D : Dirty) (w : World) (place : Nat → Option (Nat × Nat)) (x : α) (parts : List (Nat × Value)) (y : α) : Prop :=
  ∀ cells : Array Value, c.enc D w cells.toList x → ∃ cells', Instr.fill place cells parts = some cells' ∧ c.enc D w cells'.toList y
theorem Built.nil {α : Type} {c : Codec α} {D : Dirty} {w : World} {place : Nat → Option (Nat × Nat)} {x : α} : Built c D w place x [] x := fun cells h => ⟨cells, rfl, h⟩
theorem Built.cons {α β : Type} {c : Codec α} {e : Codec β} {D : Dirty} {w : World} {place : Nat → Option (Nat × Nat)} {x : α} {y : α} {i off : Nat} {v : Value} {u : β} {rest : List (Nat × Value)} {get : α → β} {set : β → α → α}
    (hv : e.val D w v u) (hf : e.Flat) (L : Lens c e off get set) (hpl : place i = some (off, e.size)) (h : Built c D w place (set u x) rest y) : Built c D w place x ((i, v) :: rest) y := by
  intro cells hc
  obtain ⟨hm, hms⟩ := enc_of_val hf hv
  have hlen : cells.size = c.size := by have := c.len hc; simpa using this
  rw [fill_cons hpl hms (by have := L.fits hc; omega)]
  exact h _ (by simpa using L.write hc hm)
theorem op_build (S : St N F0 D0 w0 a w R E) (hp : okPut N d E = true) {α : Type} {c : Codec α} {x y : α} {zv : Value} {fs : Array Field} {places : Array (Nat × Nat)} {parts : List (Nat × Operand)} (hc : c.agg = true)
    (hu : P.underlying t = some (.struct fs)) (hz : ∀ w, (zeroValue t).run P w = .ok zv w) (hx : ∀ D w, c.enc D w zv.cells.toList x)
    (hpl : ∀ w, (fs.mapM fun f => do pure (f.offset, ← sizeOf f.type) : Sem (Array (Nat × Nat))).run P w = .ok places w)
    (hb : Built c (dirt D0 R) w (places[·]?) x (parts.map fun p => (p.1, a.eval p.2)) y)
    (k : ∀ a', St N F0 D0 w0 a' w R (⟨d, α, c, y⟩ :: E) → wpList P ops Q rest a' w) : wpList P ops Q (⟨some d, .build t parts.toArray, ty, ps, af, none⟩ :: rest) a w := by
  obtain ⟨cells, hf, he⟩ := hb _ (hx _ _)
  refine op_val S hp (v := c.pack cells.toList) ?_ (Codec.val.of_enc he) k
  simp only [execOp, Instr.build, List.map_toArray, Sem.run_bind, hz w, Result.andThen_ok, run_underlying hu, hpl w, hf, Sem.run_pure, Codec.pack, hc, if_true]
theorem op_buildarr (S : St N F0 D0 w0 a w R E) (hp : okPut N d E = true) {α : Type} {c : Codec α} {n sz : Nat} {e : TypeId} {x y : α} {zv : Value} {parts : List (Nat × Operand)} (hc : c.agg = true)
    (hu : P.underlying t = some (.array n e)) (hz : ∀ w, (zeroValue t).run P w = .ok zv w) (hx : ∀ D w, c.enc D w zv.cells.toList x) (hs : ∀ w, (sizeOf e).run P w = .ok sz w)
    (hb : Built c (dirt D0 R) w (fun i => some (i * sz, sz)) x (parts.map fun p => (p.1, a.eval p.2)) y)
    (k : ∀ a', St N F0 D0 w0 a' w R (⟨d, α, c, y⟩ :: E) → wpList P ops Q rest a' w) : wpList P ops Q (⟨some d, .build t parts.toArray, ty, ps, af, none⟩ :: rest) a w := by
  obtain ⟨cells, hf, he⟩ := hb _ (hx _ _)
  refine op_val S hp (v := c.pack cells.toList) ?_ (Codec.val.of_enc he) k
  simp only [execOp, Instr.build, List.map_toArray, Sem.run_bind, hz w, Result.andThen_ok, run_underlying hu, hs w, hf, Sem.run_pure, Codec.pack, hc, if_true]

/-- the parts of a slice's literal, all of them -/
inductive Parts {α : Type} (c : Codec α) (D : Dirty) (w : World) : Nat → List (Nat × Value) → List α → Prop
  | nil (i : Nat) : Parts c D w i [] []
  | cons {i : Nat} {v : Value} {x : α} {l : List (Nat × Value)} {xs : List α} (hv : c.val D w v x) (h : Parts c D w (i + 1) l xs) : Parts c D w i ((i, v) :: l) (x :: xs)
theorem Parts.fill {α : Type} {c : Codec α} (hf : c.Flat) {D : Dirty} {w : World} {i : Nat} {l : List (Nat × Value)} {xs : List α} (h : Parts c D w i l xs) :
    ∀ cells : Array Value, cells.size = (i + xs.length) * c.size → ∃ es, encList c D w es xs ∧ (Instr.fill (fun i => some (i * c.size, c.size)) cells l) = some (cells.toList.take (i * c.size) ++ es).toArray := by
  induction h with
  | nil i =>
    intro cells hc
    refine ⟨[], rfl, ?_⟩
    simp only [List.length_nil, Nat.add_zero] at hc
    simp only [Instr.fill, List.append_nil, ← hc]
    rw [List.take_of_length_le (by simp)]
  | @cons i v x l xs hv h ih =>
    intro cells hc
    obtain ⟨hm, hms⟩ := enc_of_val hf hv
    have hlt : i * c.size + c.size ≤ cells.size := by
      rw [hc, ← Nat.succ_mul]; exact Nat.mul_le_mul_right _ (by simp only [List.length_cons]; omega)
    rw [fill_cons rfl hms hlt]
    have hlen : (cells.toList.take (i * c.size) ++ v.cells.toList).length = (i + 1) * c.size := by
      simp only [List.length_append, List.length_take, Array.length_toList, hms, Nat.succ_mul]; omega
    obtain ⟨es, he, hfil⟩ := ih (cells.toList.take (i * c.size) ++ v.cells.toList ++ cells.toList.drop (i * c.size + c.size)).toArray (by
      rw [List.size_toArray, List.length_append, hlen, List.length_drop]
      simp only [Array.length_toList, List.length_cons] at hc ⊢
      rw [hc, show i + (xs.length + 1) = i + 1 + xs.length by omega, Nat.add_mul (i + 1), Nat.succ_mul i]
      omega)
    refine ⟨v.cells.toList ++ es, ⟨_, _, rfl, hm, he⟩, ?_⟩
    rw [hfil]
    rw [← hlen, List.take_left' (l₁ := cells.toList.take (i * c.size) ++ v.cells.toList) rfl]
    simp
theorem madeSize (zero : Array Value) (n : Nat) : ((Array.range n).map (fun i => zero[i % zero.size]!)).size = n := by simp
theorem run_buildSlice {α : Type} {c : Codec α} (hf : c.Flat) {D : Dirty} {w : World} {n : Nat} {e : TypeId} {parts : Array (Nat × Value)} {xs : List α} {zv : Value} (hu : P.underlying t = some (.slice e)) (hs : ∀ w, (sizeOf e).run P w = .ok c.size w) (hz : ∀ w, (zeroValue e).run P w = .ok zv w)
    (hn : n = xs.length) (hb : n * c.size ≤ 16777216) (hparts : Parts c D w 0 parts.toList xs) :
    ∃ es, encList c D w es xs ∧ (Instr.buildSlice t n parts).run P w = .ok (.slice (some ⟨w.heap.size, 0, none⟩) n n) (w.alloc (.cells es.toArray e)) := by
  obtain ⟨es, he, hfil⟩ := hparts.fill hf ((Array.range (n * c.size)).map (fun i => (if n * c.size = 0 then #[] else zv.cells)[i % (if n * c.size = 0 then #[] else zv.cells).size]!)) (by simp [hn])
  refine ⟨es, he, ?_⟩
  simp only [Nat.zero_mul, List.take_zero, List.nil_append] at hfil
  have hnb : ¬ n * c.size > 2 ^ 24 := by simp; omega
  simp only [Instr.buildSlice, Sem.run_bind, run_underlying hu, Result.andThen_ok, hs w, Sem.run_ite, if_neg hnb, Sem.run_pure]
  by_cases h0 : n * c.size = 0
  · simp only [if_pos h0] at hfil ⊢
    rw [hfil]
    rfl
  · simp only [if_neg h0] at hfil ⊢
    rw [hz w, Result.andThen_ok, hfil]
    rfl
/-- a slice's literal that is only read -/
theorem op_lit (S : St N F0 D0 w0 a w R E) (hp : okPut N d E = true) {α : Type} {c : Codec α} (hf : c.Flat) {n : Nat} {e : TypeId} {parts : List (Nat × Operand)} {xs : List α} {zv : Value} (hu : P.underlying t = some (.slice e)) (hs : ∀ w, (sizeOf e).run P w = .ok c.size w) (hz : ∀ w, (zeroValue e).run P w = .ok zv w)
    (hn : n = xs.length) (hb : Nat.ble (n * c.size) 16777216 = true) (hb' : Nat.ble n 16777216 = true) (hparts : Parts c (dirt D0 R) w 0 (parts.map fun p => (p.1, a.eval p.2)) xs)
    (k : ∀ a' w', St N F0 D0 w0 a' w' R (⟨d, List α, cSlice c, xs⟩ :: E) → wpList P ops Q rest a' w') : wpList P ops Q (⟨some d, .buildSlice t n parts.toArray, ty, ps, af, none⟩ :: rest) a w := by
  obtain ⟨es, he, hr⟩ := run_buildSlice (parts := (parts.map fun p => (p.1, a.eval p.2)).toArray) hf hu hs hz hn (by simpa using hb) hparts
  have hnew : (w.alloc (.cells es.toArray e)).heap[w.heap.size]? = some (.cells es.toArray e (0, 0)) := heap_alloc_new w _
  have hbl : Below w.heap.size w (w.alloc (.cells es.toArray e)) := (Below.refl _ _).alloc (Nat.le_refl _) _
  refine wpl_val (v := .slice (some ⟨w.heap.size, 0, none⟩) n n) (w' := w.alloc (.cells es.toArray e)) ?_ (k _ _ (St.put (c := cSlice c) (S.grow hbl) ?_ hp))
  · simp only [execOp, List.map_toArray, Sem.run_bind, hr, Result.andThen_ok, Sem.run_pure]
  · have hmax : xs.length ≤ 9223372036854775807 := by
      have : n ≤ 16777216 := by simpa using hb'
      omega
    rw [hn]
    exact cSlice_mk (Nat.le_refl _) hmax (fun _ => ⟨w.heap.size, 0, es, rfl, ⟨fun hd => absurd (S.dirty_lt _ hd) (Nat.lt_irrefl _), _, e, _, hnew, by simp, by simp⟩, encList_stay (Keep.below hbl) he⟩)
/-- a slice's literal that will be appended to -/
theorem op_litrow (S : St N F0 D0 w0 a w R E) (hp : okPut N d E = true) {α : Type} {c : Codec α} (hf : c.Flat) {n : Nat} {e : TypeId} {parts : List (Nat × Operand)} {xs : List α} {zv : Value} (hu : P.underlying t = some (.slice e)) (hs : ∀ w, (sizeOf e).run P w = .ok c.size w) (hz : ∀ w, (zeroValue e).run P w = .ok zv w)
    (hn : n = xs.length) (hb : Nat.ble (n * c.size) 16777216 = true) (hb' : Nat.ble n 16777216 = true) (hparts : Parts c (dirt D0 R) w 0 (parts.map fun p => (p.1, a.eval p.2)) xs)
    (k : ∀ v a' w', St N F0 D0 w0 a' w' (Res.row v e c xs :: R) (⟨d, Value, cRaw, v⟩ :: E) → wpList P ops Q rest a' w') : wpList P ops Q (⟨some d, .buildSlice t n parts.toArray, ty, ps, af, none⟩ :: rest) a w := by
  obtain ⟨es, he, hr⟩ := run_buildSlice (parts := (parts.map fun p => (p.1, a.eval p.2)).toArray) hf hu hs hz hn (by simpa using hb) hparts
  have hbl : Below w.heap.size w (w.alloc (.cells es.toArray e)) := (Below.refl _ _).alloc (Nat.le_refl _) _
  have hmax : n ≤ maxLen := by
    have : n ≤ 16777216 := by simpa using hb'
    simp only [maxLen]; omega
  have hown := World.ownsRow_lit (base := 0) (e := e) (size := c.size) w es.toArray n (Nat.zero_le _) hmax (by simp [encList_len he, hn])
  refine wpl_val (v := .slice (some ⟨w.heap.size, 0, none⟩) n n) (w' := w.alloc (.cells es.toArray e)) ?_ (k _ _ _ (St.put (c := cRaw) (S.gain hbl (Res.row (.slice (some ⟨w.heap.size, 0, none⟩) n n) e c xs) ?_ ?_) (cPlain_mk (f := id) _) hp))
  · simp only [execOp, List.map_toArray, Sem.run_bind, hr, Result.andThen_ok, Sem.run_pure]
  · intro k hk
    have : some w.heap.size = some k := hk
    exact Nat.le_of_eq (Option.some.inj this)
  · refine ⟨es, by rw [← hn]; exact hown, encList_stay ⟨hbl.size, fun k hk _ => hbl.block k hk, fun k hk hd hd' => ?_⟩ he⟩
    rcases (dirt_cons _ _ _ _).1 hd' with h | h
    · have : some w.heap.size = some k := h
      have := Option.some.inj this
      omega
    · exact hd h
end
end Go.Tw
