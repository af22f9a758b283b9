/- The typed walk, part D: the operations on memory: variables, fields, elements, slices. -/
import Derived.Test.YtknffjhclhgoiaaDoorTwC
set_option linter.unusedVariables false
set_option linter.unusedSimpArgs false
namespace Go.Tw
open Go Go.RowKit

/-- a pointer into a block -/
abbrev ptr (b o : Nat) : Value := .pointer (some ⟨b, o, none⟩)

section mem
variable {P : Program} {w : World}
/-- n cells at an offset of a block -/
theorem run_loadCells_at {g o n : Nat} {cur : Array Value} {t : TypeId} {fr : Nat × Nat} (hg : w.heap[g]? = some (.cells cur t fr)) (h : o + n ≤ cur.size) :
    (loadCells ⟨g, o, none⟩ n).run P w = .ok ((cur.toList.drop o).take n).toArray w := by
  have hl : ((cur.toList.drop o).take n).length = n := by simp; omega
  have := run_loadCells_list (P := P) w ⟨g, o, none⟩ ((cur.toList.drop o).take n) (fun j v hv => by
    rw [Addr.add_lit, cell_of_row w g (o + j) cur t fr hg]
    rw [List.getElem?_take] at hv
    split at hv
    · rw [List.getElem?_drop] at hv
      simpa using hv
    · cases hv)
  rwa [hl] at this
/-- A variable of a type whose cells lie at an offset. -/
theorem run_loadVar_at {α : Type} {c : Codec α} {D : Dirty} {x : α} {g o : Nat} {cur : Array Value} {t tb : TypeId} {fr : Nat × Nat} (ha : (isAgg t).run P w = .ok c.agg w) (hs : (sizeOf t).run P w = .ok c.size w)
    (hg : w.heap[g]? = some (.cells cur tb fr)) (h : o + c.size ≤ cur.size) :
    (loadVar t ⟨g, o, none⟩).run P w = .ok (c.pack ((cur.toList.drop o).take c.size)) w := by
  unfold loadVar Codec.pack
  rw [Sem.run_bind, ha, Result.andThen_ok]
  cases hagg : c.agg
  · have h1 := c.one hagg
    rw [h1] at h ⊢
    have hlt : o < cur.size := by omega
    have hc : w.cell? ⟨g, o, none⟩ = some cur[o] := by
      rw [cell_of_row w g o cur tb fr hg]; simp [hlt]
    simp only [Bool.false_eq_true, if_false]
    rw [run_load, hc]
    simp only [List.headD_eq_head?_getD, List.head?_take, List.head?_drop]
    simp [hlt]
  · simp only [if_true, Sem.run_bind, hs, Result.andThen_ok, run_loadCells_at hg h, Sem.run_pure]

theorem enc_of_val {α : Type} {c : Codec α} (hf : c.Flat) {D : Dirty} {v : Value} {x : α} (h : c.val D w v x) : c.enc D w v.cells.toList x ∧ v.cells.size = c.size := by
  have h1 := h.cells hf
  exact ⟨h1, by have := c.len h1; simpa using this⟩

/-- cells that are stored one behind the other -/
theorem run_storeCells_row {g o : Nat} {t : TypeId} : ∀ (m : List Value) (i : Nat) (cur : Array Value) (w : World), w.heap[g]? = some (.cells cur t (0, 0)) → o + i + m.length ≤ cur.size → (∀ u ∈ m, u.oneCell' = true) →
    ∃ w', (storeCells ⟨g, o, none⟩ m i).run P w = .ok () w' ∧ w'.os = w.os ∧ w'.tape = w.tape ∧ w'.output = w.output ∧ w'.heap.size = w.heap.size ∧ (∀ k, k ≠ g → w'.heap[k]? = w.heap[k]?) ∧
      w'.heap[g]? = some (.cells (cur.toList.take (o + i) ++ m ++ cur.toList.drop (o + i + m.length)).toArray t (0, 0))
  | [], i, cur, w, hg, h, _ => ⟨w, rfl, rfl, rfl, rfl, rfl, fun _ _ => rfl, by simp [hg]⟩
  | u :: m, i, cur, w, hg, h, h1 => by
    have hlt : o + i < cur.size := by simp at h; omega
    have hu : u.oneCell' = true := h1 u (by simp)
    have hc : w.cell? ⟨g, o + i, none⟩ = some cur[o + i] := by
      rw [cell_of_row w g (o + i) cur t (0, 0) hg]; simp [hlt]
    have hfz : w.frozen? ⟨g, o + i, none⟩ = false := frozen_of_row w g (o + i) cur t hg
    have hst : (store ⟨g, o + i, none⟩ u).run P w = .ok () (w.setCell ⟨g, o + i, none⟩ u) := by
      rw [run_store P w _ u _ hu, hc]
      simp [hfz]
    have hg' := heap_setCell_same w g (o + i) cur t u hg
    have hlen : o + (i + 1) + m.length ≤ (cur.setIfInBounds (o + i) u).size := by
      rw [Array.size_setIfInBounds]; simp only [List.length_cons] at h; omega
    obtain ⟨w', hr, h2, h3, h4, h5, h6, h7⟩ := run_storeCells_row m (i + 1) (cur.setIfInBounds (o + i) u) (w.setCell ⟨g, o + i, none⟩ u) hg' hlen (fun v hv => h1 v (by simp [hv]))
    refine ⟨w', ?_, h2, h3, h4, by rw [h5]; simp [World.setCell], fun k hk => (h6 k hk).trans (heap_setCell_other w _ k u hk), ?_⟩
    · simp only [storeCells, Addr.add_lit, Sem.run_bind, hst, Result.andThen_ok]
      exact hr
    · rw [h7]
      congr 3
      simp only [Array.toList_setIfInBounds]
      rw [show o + (i + 1) = (o + i) + 1 by omega]
      rw [List.take_set, List.take_add_one, List.set_append_right _ _ (by simp; omega), List.length_take]
      rw [show o + i - min (o + i) cur.toList.length = 0 by simp; omega]
      rw [List.getElem?_eq_getElem (by simpa using hlt)]
      simp only [Option.toList_some, List.set_cons_zero, List.append_assoc, List.singleton_append, List.length_cons]
      rw [List.drop_set_of_lt (show o + i < o + i + 1 + m.length by omega)]
      rw [show o + i + 1 + m.length = o + i + (m.length + 1) by omega]
end mem

section
variable {P : Program} {ops : Array Oper} {Q : Exit → Act → World → Prop} {rest : List Oper} {a : Act} {w w' : World} {d : Nat} {ty : TypeId} {ps : String} {af : Array Edge}
variable {N : Nat} {F0 : Nat → Prop} {D0 : Dirty} {w0 : World} {R : List Res} {E : List Ent}
variable {t t' : TypeId} {y z : Operand}

/-- a part of a variable of the call's own is read -/
theorem op_load (S : St N F0 D0 w0 a w R E) (hp : okPut N d E = true) (i : Nat) {b o : Nat} {tb : TypeId} {α β : Type} {c : Codec α} {x : α} {e : Codec β} {get : α → β} {set : β → α → α} (hi : R[i]? = some (Res.box b tb c x))
    (hx : a.eval y = ptr b o) (L : Lens c e o get set) (ha : ∀ w, (isAgg t).run P w = .ok e.agg w) (hs : ∀ w, (sizeOf t).run P w = .ok e.size w) {u : β} (hu : get x = u)
    (k : ∀ a', St N F0 D0 w0 a' w R (⟨d, β, e, u⟩ :: E) → wpList P ops Q rest a' w) : wpList P ops Q (⟨some d, .load t y, ty, ps, af, none⟩ :: rest) a w := by
  obtain ⟨cur, hb, he⟩ := S.resAt i hi
  have hl : cur.size = c.size := by have := c.len he; simpa using this
  subst hu
  refine op_val S hp (v := e.pack ((cur.toList.drop o).take e.size)) ?_ (Codec.val.of_enc (L.read he)) k
  simp only [execOp, hx, Instr.loadAt, Instr.sureAddr, Sem.run_bind, Sem.run_pure, Result.andThen_ok]
  rw [run_loadVar_at (c := e) (D := dirt D0 R) (x := get x) (ha w) (hs w) hb (by have := L.fits he; omega)]
  rfl
/-- what a pointer that only reads leads to -/
theorem op_loadr (S : St N F0 D0 w0 a w R E) (hp : okPut N d E = true) {α : Type} {c : Codec α} {x : α} (hx : (cRef c).val (dirt D0 R) w (a.eval y) x) (ha : ∀ w, (isAgg t).run P w = .ok c.agg w) (hs : ∀ w, (sizeOf t).run P w = .ok c.size w)
    (k : ∀ a', St N F0 D0 w0 a' w R (⟨d, α, c, x⟩ :: E) → wpList P ops Q rest a' w) : wpList P ops Q (⟨some d, .load t y, ty, ps, af, none⟩ :: rest) a w := by
  obtain ⟨g, o, es, hv, ⟨_, cur, tb, fr, hg, h1, h2⟩, he⟩ := cRef_val hx
  have hl := c.len he
  refine op_val S hp (v := c.pack es) ?_ (Codec.val.of_enc he) k
  simp only [execOp, hv, Instr.loadAt, Instr.sureAddr, Sem.run_bind, Sem.run_pure, Result.andThen_ok]
  rw [run_loadVar_at (c := c) (D := dirt D0 R) (x := x) (ha w) (hs w) hg (by omega), ← hl, h2]
  rfl
/-- a part of a variable of the call's own is written -/
theorem op_store (S : St N F0 D0 w0 a w R E) (i : Nat) {b o : Nat} {tb : TypeId} {α β : Type} {c : Codec α} {x : α} {e : Codec β} {get : α → β} {set : β → α → α} {u : β} (hi : R[i]? = some (Res.box b tb c x))
    (hx : a.eval y = ptr b o) (hz : e.val (dirt D0 R) w (a.eval z) u) (L : Lens c e o get set) (hf : e.Flat) (hs : ∀ w, (sizeOf t).run P w = .ok e.size w)
    (k : ∀ w', St N F0 D0 w0 a w' (R.set i (Res.box b tb c (set u x))) E → wpList P ops Q rest a w') : wpList P ops Q (⟨none, .store t y z, ty, ps, af, none⟩ :: rest) a w := by
  obtain ⟨cur, hb, he⟩ := S.resAt i hi
  have hl : cur.size = c.size := by have := c.len he; simpa using this
  obtain ⟨hm, hms⟩ := enc_of_val hf hz
  have hfit := L.fits he
  obtain ⟨w', hr, h2, h3, h4, h5, h6, h7⟩ := run_storeCells_row (P := P) (g := b) (o := o) (t := tb) (a.eval z).cells.toList 0 cur w hb (by simp [hms]; omega) (hf hm)
  refine wpl_unit (w' := w') ?_ (k w' ?_)
  · simp only [execOp, hx, Instr.storeAt, Instr.sureAddr, storeVar, Sem.run_bind, Sem.run_pure, Result.andThen_ok, hs w, hms, ne_eq, not_true_eq_false, if_false, hr]
  · refine S.turn i hi _ ⟨h2, h3, h4, by omega, fun k _ hk => h6 k hk⟩ (fun k hk => .inl hk) (fun keep => ⟨_, h7, ?_⟩)
    have := L.write (keep he) (keep hm)
    simpa [hms] using this
/-- a new variable -/
theorem op_box (S : St N F0 D0 w0 a w R E) (hp : okPut N d E = true) {α : Type} {c : Codec α} {x : α} (hy : c.val (dirt D0 R) w (a.eval y) x) (hf : c.Flat)
    (k : ∀ b a' w', St N F0 D0 w0 a' w' (Res.box b t c x :: R) (⟨d, Value, cRaw, ptr b 0⟩ :: E) → wpList P ops Q rest a' w') : wpList P ops Q (⟨some d, .box t y, ty, ps, af, none⟩ :: rest) a w := by
  obtain ⟨hm, hms⟩ := enc_of_val hf hy
  have hnew : (w.alloc (.cells (a.eval y).cells t)).heap[w.heap.size]? = some (.cells (a.eval y).cells t (0, 0)) := heap_alloc_new w _
  have hb : Below w.heap.size w (w.alloc (.cells (a.eval y).cells t)) := (Below.refl _ _).alloc (Nat.le_refl _) _
  refine wpl_val (v := ptr w.heap.size 0) (w' := w.alloc (.cells (a.eval y).cells t)) rfl (k w.heap.size _ _ (St.put (c := cRaw) (S.gain hb (Res.box w.heap.size t c x) (fun k hk => by rw [show k = w.heap.size from hk]; exact Nat.le_refl _) ⟨_, hnew, ?_⟩) (cPlain_mk _) hp))
  refine c.stay hm ⟨hb.size, fun k hk _ => hb.block k hk, fun k hk hd hd' => ?_⟩
  rcases (dirt_cons _ _ _ _).1 hd' with h | h
  · rw [show k = w.heap.size from h] at hk; exact absurd hk (Nat.lt_irrefl _)
  · exact hd h
/-- a new variable that is only read from now on -/
theorem op_boxr (S : St N F0 D0 w0 a w R E) (hp : okPut N d E = true) {α : Type} {c : Codec α} {x : α} (hy : c.val (dirt D0 R) w (a.eval y) x) (hf : c.Flat)
    (k : ∀ a' w', St N F0 D0 w0 a' w' R (⟨d, α, cRef c, x⟩ :: E) → wpList P ops Q rest a' w') : wpList P ops Q (⟨some d, .box t y, ty, ps, af, none⟩ :: rest) a w := by
  obtain ⟨hm, hms⟩ := enc_of_val hf hy
  have hnew : (w.alloc (.cells (a.eval y).cells t)).heap[w.heap.size]? = some (.cells (a.eval y).cells t (0, 0)) := heap_alloc_new w _
  have hb : Below w.heap.size w (w.alloc (.cells (a.eval y).cells t)) := (Below.refl _ _).alloc (Nat.le_refl _) _
  refine wpl_val (v := ptr w.heap.size 0) (w' := w.alloc (.cells (a.eval y).cells t)) rfl (k _ _ (St.put (c := cRef c) (S.grow hb) ⟨_, ⟨w.heap.size, 0, _, rfl, ⟨fun hd => absurd (S.dirty_lt _ hd) (Nat.lt_irrefl _), _, t, _, hnew, ?_, ?_⟩, c.stay hm (Keep.below hb)⟩, rfl⟩ hp))
  · simp
  · rw [List.drop_zero, List.take_length]
/-- a new variable, at zero -/
theorem op_alloc (S : St N F0 D0 w0 a w R E) (hp : okPut N d E = true) {α : Type} {c : Codec α} {x : α} {zv : Value} (hz : ∀ w, (zeroValue t).run P w = .ok zv w) (hx : ∀ D w, c.enc D w zv.cells.toList x)
    (k : ∀ b a' w', St N F0 D0 w0 a' w' (Res.box b t c x :: R) (⟨d, Value, cRaw, ptr b 0⟩ :: E) → wpList P ops Q rest a' w') : wpList P ops Q (⟨some d, .alloc t, ty, ps, af, none⟩ :: rest) a w := by
  have hnew : (w.alloc (.cells zv.cells t)).heap[w.heap.size]? = some (.cells zv.cells t (0, 0)) := heap_alloc_new w _
  have hb : Below w.heap.size w (w.alloc (.cells zv.cells t)) := (Below.refl _ _).alloc (Nat.le_refl _) _
  refine wpl_val (v := ptr w.heap.size 0) (w' := w.alloc (.cells zv.cells t)) ?_ (k w.heap.size _ _ (St.put (c := cRaw) (S.gain hb (Res.box w.heap.size t c x) (fun k hk => by rw [show k = w.heap.size from hk]; exact Nat.le_refl _) ⟨_, hnew, hx _ _⟩) (cPlain_mk _) hp))
  simp only [execOp, Instr.alloc, Sem.run_bind, hz w, Result.andThen_ok]
  rfl
/-- the address of a field -/
theorem op_fieldAddr (S : St N F0 D0 w0 a w R E) (hp : okPut N d E = true) {b o o' n f : Nat} {fs : Array Field} {fd : Field} (hx : a.eval y = ptr b o) (hu : P.underlying t = some (.struct fs)) (hf : fs[f]? = some fd)
    (hs : ∀ w, (sizeOf fd.type).run P w = .ok n w) (hn : Nat.blt 0 n = true) (ho : o + fd.offset = o')
    (k : ∀ a', St N F0 D0 w0 a' w R (⟨d, Value, cRaw, ptr b o'⟩ :: E) → wpList P ops Q rest a' w) : wpList P ops Q (⟨some d, .fieldAddr t y f, ty, ps, af, none⟩ :: rest) a w := by
  subst ho
  have hn' : ¬ n = 0 := by simp [Nat.blt_eq] at hn; omega
  refine op_val S hp (v := ptr b (o + fd.offset)) ?_ (cPlain_mk (f := id) _) k
  simp only [execOp, hx, Instr.fieldAt, Sem.run_bind, run_underlying hu, Result.andThen_ok, hf, Instr.sureAddr, Sem.run_pure, fieldPlace, hs w, if_neg hn', Addr.add_lit]
theorem op_fieldAddrr (S : St N F0 D0 w0 a w R E) (hp : okPut N d E = true) {α β : Type} {c : Codec α} {e : Codec β} {x : α} {get : α → β} {set : β → α → α} {n f : Nat} {fs : Array Field} {fd : Field} (hx : (cRef c).val (dirt D0 R) w (a.eval y) x)
    (hu : P.underlying t = some (.struct fs)) (hf : fs[f]? = some fd) (hs : ∀ w, (sizeOf fd.type).run P w = .ok n w) (hn : Nat.blt 0 n = true) (L : Lens c e fd.offset get set) {u : β} (hg : get x = u)
    (k : ∀ a', St N F0 D0 w0 a' w R (⟨d, β, cRef e, u⟩ :: E) → wpList P ops Q rest a' w) : wpList P ops Q (⟨some d, .fieldAddr t y f, ty, ps, af, none⟩ :: rest) a w := by
  subst hg
  have hn' : ¬ n = 0 := by simp [Nat.blt_eq] at hn; omega
  obtain ⟨g, o, es, hv, hl, he⟩ := cRef_val hx
  have hfit := L.fits he
  have hlen := c.len he
  refine op_val S hp (c := cRef e) (v := ptr g (o + fd.offset)) ?_ ⟨_, ⟨g, o + fd.offset, (es.drop fd.offset).take e.size, rfl, ?_, L.read he⟩, rfl⟩ k
  · simp only [execOp, hv, Instr.fieldAt, Sem.run_bind, run_underlying hu, Result.andThen_ok, hf, Instr.sureAddr, Sem.run_pure, fieldPlace, hs w, if_neg hn', Addr.add_lit]
  · have e1 : es = es.take fd.offset ++ ((es.drop fd.offset).take e.size ++ (es.drop fd.offset).drop e.size) := by rw [List.take_append_drop, List.take_append_drop]
    rw [e1] at hl
    exact hl.sub (by simp; omega)
/-- a field of a value -/
theorem op_field (S : St N F0 D0 w0 a w R E) (hp : okPut N d E = true) {α β : Type} {c : Codec α} {e : Codec β} {x : α} {get : α → β} {set : β → α → α} {f : Nat} {fs : Array Field} {fd : Field} (hx : c.val (dirt D0 R) w (a.eval y) x) (hc : c.agg = true)
    (hu : P.underlying t = some (.struct fs)) (hf : fs[f]? = some fd) (ha : ∀ w, (isAgg fd.type).run P w = .ok e.agg w) (hs : ∀ w, (sizeOf fd.type).run P w = .ok e.size w) (L : Lens c e fd.offset get set) {u : β} (hg : get x = u)
    (k : ∀ a', St N F0 D0 w0 a' w R (⟨d, β, e, u⟩ :: E) → wpList P ops Q rest a' w) : wpList P ops Q (⟨some d, .field t y f, ty, ps, af, none⟩ :: rest) a w := by
  subst hg
  obtain ⟨es, he, hv⟩ := hx
  rw [Codec.pack, hc, if_pos rfl] at hv
  have hfit := L.fits he
  have hlen := c.len he
  refine op_val S hp (v := e.pack ((es.drop fd.offset).take e.size)) ?_ (Codec.val.of_enc (L.read he)) k
  simp only [execOp, hv, Instr.field, Sem.run_bind, run_underlying hu, Result.andThen_ok, hf, asAgg, Sem.run_pure, part, ha w, hs w, Codec.pack]
  cases hagg : e.agg
  · have h1 := e.one hagg
    have hlt : fd.offset < es.length := by omega
    simp [hlt, h1, List.head?_take, List.head?_drop]
  · simp [hs w]
end
end Go.Tw
