/- The typed walk, part O: elements of rows of the call's own: their addresses, their parts, what is stored there. -/
import Derived.Test.YtknffjhclhgoiaaDoorTwN
set_option linter.unusedVariables false
set_option linter.unusedSimpArgs false
namespace Go.Tw
open Go Go.RowKit

/-- a place in a row -/
def rowPtr (v : Value) (o : Nat) : Value := match v with
  | .slice (some ad) _ _ => ptr ad.block o
  | _ => undef
/-- a piece of a row, as a slice -/
def rowSl (v : Value) (o n cap : Nat) : Value := match v with
  | .slice (some ad) _ _ => .slice (some ⟨ad.block, o, none⟩) n cap
  | _ => undef

theorem piece {l : List Value} {i o n s L : Nat} (h : o + n ≤ s) (h2 : i + s ≤ L) : ((((l.take L).drop i).take s).drop o).take n = (l.drop (i + o)).take n := by
  simp only [List.drop_take, List.take_take, List.drop_drop]
  congr 1
  omega
theorem splice1 {row B m : List Value} {p n : Nat} (h : p + n ≤ row.length) (hm : m.length = n) : ((row ++ B).take p ++ m ++ (row ++ B).drop (p + n)).take row.length = row.take p ++ m ++ row.drop (p + n) := by
  rw [show (row ++ B).take p = row.take p from List.take_append_of_le_length (by omega), show (row ++ B).drop (p + n) = row.drop (p + n) ++ B from List.drop_append_of_le_length h, ← List.append_assoc]
  have hl : (row.take p ++ m ++ row.drop (p + n)).length = row.length := by simp; omega
  rw [← hl, List.take_left]
theorem splice2 {row m : List Value} {i o n s : Nat} (h : o + n ≤ s) : row.take (i + o) ++ m ++ row.drop (i + o + n) = row.take i ++ (((row.drop i).take s).take o ++ m ++ ((row.drop i).take s).drop (o + n)) ++ row.drop (i + s) := by
  have t1 : row.take (i + o) = row.take i ++ ((row.drop i).take s).take o := by
    rw [List.take_take, Nat.min_eq_left (by omega), ← List.take_add]
  have t2 : row.drop (i + o + n) = ((row.drop i).take s).drop (o + n) ++ row.drop (i + s) := by
    rw [List.drop_take, List.drop_drop]
    rw [show i + s = (i + (o + n)) + (s - (o + n)) by omega, ← List.drop_drop (i := s - (o + n)), List.take_append_drop, Nat.add_assoc]
  rw [t1, t2]
  simp [List.append_assoc]

section
variable {P : Program} {ops : Array Oper} {Q : Exit → Act → World → Prop} {rest : List Oper} {a : Act} {w w' : World} {d : Nat} {ty : TypeId} {ps : String} {af : Array Edge}
variable {N : Nat} {F0 : Nat → Prop} {D0 : Dirty} {w0 : World} {R : List Res} {E : List Ent}
variable {t t' : TypeId} {y z : Operand}

theorem row_some {D : Dirty} {α : Type} {v : Value} {e : TypeId} {c : Codec α} {xs : List α} (h : (Res.row v e c xs).P D w) (h0 : 0 < xs.length) :
    ∃ g cap cur, v = .slice (some ⟨g, 0, none⟩) xs.length cap ∧ w.heap[g]? = some (.cells cur e (0, 0)) ∧ xs.length ≤ cap ∧ cap ≤ maxLen ∧ cur.size = cap * c.size ∧ encList c D w (cur.toList.take (xs.length * c.size)) xs := by
  obtain ⟨cells, ho, he⟩ := h
  rcases ho.2 with ⟨_, h1⟩ | ⟨g, cap, cur, hv, _, hg, h1, h2, h3, h4⟩
  · omega
  · exact ⟨g, cap, cur, hv, hg, h1, h2, h3, by rw [h4]; exact he⟩
/-- how a row's slice looks -/
def Shape (v : Value) (n : Nat) : Prop := n = 0 ∨ ∃ g cap, v = .slice (some ⟨g, 0, none⟩) n cap
theorem St.shape (S : St N F0 D0 w0 a w R E) (j : Nat) {α : Type} {c : Codec α} {e' : TypeId} {xs : List α} {v : Value} (hj : R[j]? = some (Res.row v e' c xs)) : Shape v xs.length := by
  by_cases h0 : 0 < xs.length
  · obtain ⟨g, cap, cur, hv, _⟩ := row_some (S.resAt j hj) h0
    exact .inr ⟨g, cap, hv⟩
  · exact .inl (by omega)
theorem Shape.some {v : Value} {n : Nat} {i : Int} (h : Shape v n) (hi : 0 ≤ i ∧ i < (n : Int)) : ∃ g cap, v = .slice (some ⟨g, 0, none⟩) n cap := by
  rcases h with h | h
  · omega
  · exact h
theorem op_indexrow (S : St N F0 D0 w0 a w R E) (hp : okPut N d E = true) {e : TypeId} {n sz : Nat} {v : Value} {kd : IntKind} {i : Int} (hsh : Shape v n) (hx : a.eval y = v) (hy : a.eval z = .int kd i)
    (hi : 0 ≤ i ∧ i < (n : Int)) (hu : P.underlying t = some (.slice e)) (hs : ∀ w, (sizeOf e).run P w = .ok sz w)
    (k : ∀ a', St N F0 D0 w0 a' w R (⟨d, Value, cRaw, rowPtr v (i.toNat * sz + 0)⟩ :: E) → wpList P ops Q rest a' w) : wpList P ops Q (⟨some d, .indexAddr t y z, ty, ps, af, none⟩ :: rest) a w := by
  obtain ⟨g, cap, hv⟩ := hsh.some hi
  refine op_val S hp (v := rowPtr v (i.toNat * sz + 0)) ?_ (cPlain_mk (f := id) _) k
  rw [hv] at hx
  simp only [execOp, hx, hy, hv, rowPtr, Instr.indexAt, asIntOf, Sem.run_bind, Sem.run_pure, Result.andThen_ok, run_underlying hu]
  simp [hi.1, hi.2, hs w, Addr.add_lit]
theorem op_fieldrow (S : St N F0 D0 w0 a w R E) (hp : okPut N d E = true) {m : Nat} {v : Value} {i : Int} (hsh : Shape v m) (hi : 0 ≤ i ∧ i < (m : Int)) {o o' n f : Nat} {fs : Array Field} {fd : Field} (hx : a.eval y = rowPtr v o)
    (hu : P.underlying t = some (.struct fs)) (hf : fs[f]? = some fd) (hs : ∀ w, (sizeOf fd.type).run P w = .ok n w) (hn : Nat.blt 0 n = true) (ho : o + fd.offset = o')
    (k : ∀ a', St N F0 D0 w0 a' w R (⟨d, Value, cRaw, rowPtr v o'⟩ :: E) → wpList P ops Q rest a' w) : wpList P ops Q (⟨some d, .fieldAddr t y f, ty, ps, af, none⟩ :: rest) a w := by
  obtain ⟨g, cap, hv⟩ := hsh.some hi
  subst hv
  exact op_fieldAddr S hp (b := g) (o := o) (o' := o') hx hu hf hs hn ho k
theorem op_loadrow (S : St N F0 D0 w0 a w R E) (hp : okPut N d E = true) (j : Nat) {α β : Type} {c : Codec α} {e : Codec β} {e' : TypeId} {xs : List α} {v : Value} {i : Int} {z0 : α} {o : Nat} {get : α → β} {set : β → α → α} (hj : R[j]? = some (Res.row v e' c xs)) (hi : 0 ≤ i ∧ i < xs.length)
    (hx : a.eval y = rowPtr v (i.toNat * c.size + o)) (L : Lens c e o get set) (ha : ∀ w, (isAgg t).run P w = .ok e.agg w) (hs : ∀ w, (sizeOf t).run P w = .ok e.size w) {u : β} (hu : get (xs.getD i.toNat z0) = u)
    (k : ∀ a', St N F0 D0 w0 a' w R (⟨d, β, e, u⟩ :: E) → wpList P ops Q rest a' w) : wpList P ops Q (⟨some d, .load t y, ty, ps, af, none⟩ :: rest) a w := by
  obtain ⟨g, cap, cur, hv, hg, h1, h2, h3, he⟩ := row_some (S.resAt j hj) (by omega)
  subst hu
  have hlt : i.toNat < xs.length := by omega
  have hm := encList_get he hlt
  rw [show xs[i.toNat] = xs.getD i.toNat z0 by simp [List.getD, List.getElem?_eq_getElem hlt]] at hm
  have hfit := L.fits hm
  have hr := L.read hm
  have hbound : i.toNat * c.size + c.size ≤ xs.length * c.size := by rw [← Nat.succ_mul]; exact Nat.mul_le_mul_right _ hlt
  have hbound2 : xs.length * c.size ≤ cap * c.size := Nat.mul_le_mul_right _ h1
  rw [piece hfit hbound] at hr
  refine op_val S hp (v := e.pack ((cur.toList.drop (i.toNat * c.size + o)).take e.size)) ?_ (Codec.val.of_enc hr) k
  rw [hv] at hx
  simp only [rowPtr] at hx
  simp only [execOp, hx, Instr.loadAt, Instr.sureAddr, Sem.run_bind, Sem.run_pure, Result.andThen_ok]
  rw [run_loadVar_at (c := e) (D := dirt D0 R) (x := get (xs.getD i.toNat z0)) (ha w) (hs w) hg (by omega)]
  rfl
theorem op_storerow (S : St N F0 D0 w0 a w R E) (j : Nat) {α β : Type} {c : Codec α} {e : Codec β} {e' : TypeId} {xs : List α} {v : Value} {i : Int} {z0 : α} {o : Nat} {get : α → β} {set : β → α → α} {u : β} (hj : R[j]? = some (Res.row v e' c xs)) (hi : 0 ≤ i ∧ i < xs.length)
    (hx : a.eval y = rowPtr v (i.toNat * c.size + o)) (hz : e.val (dirt D0 R) w (a.eval z) u) (L : Lens c e o get set) (hf : e.Flat) (hs : ∀ w, (sizeOf t).run P w = .ok e.size w) {ys : List α} (hy : xs.set i.toNat (set u (xs.getD i.toNat z0)) = ys)
    (k : ∀ w', St N F0 D0 w0 a w' (R.set j (Res.row v e' c ys)) E → wpList P ops Q rest a w') : wpList P ops Q (⟨none, .store t y z, ty, ps, af, none⟩ :: rest) a w := by
  subst hy
  have hres := S.resAt j hj
  obtain ⟨cells0, ho0, _⟩ := hres
  have hbase : ∀ g cap, v = .slice (some ⟨g, 0, none⟩) xs.length cap → True := fun _ _ _ => trivial
  obtain ⟨g, cap, cur, hv, hg, h1, h2, h3, he⟩ := row_some (S.resAt j hj) (by omega)
  have hlt : i.toNat < xs.length := by omega
  obtain ⟨hm, hms⟩ := enc_of_val hf hz
  have hget := encList_get he hlt
  rw [show xs[i.toNat] = xs.getD i.toNat z0 by simp [List.getD, List.getElem?_eq_getElem hlt]] at hget
  have hfit := L.fits hget
  have hbound : i.toNat * c.size + c.size ≤ xs.length * c.size := by rw [← Nat.succ_mul]; exact Nat.mul_le_mul_right _ hlt
  have hbound2 : xs.length * c.size ≤ cap * c.size := Nat.mul_le_mul_right _ h1
  have hcl := encList_len he
  rw [hv] at hx
  simp only [rowPtr] at hx
  obtain ⟨w', hr, k2, k3, k4, k5, k6, k7⟩ := run_storeCells_row (P := P) (g := g) (o := i.toNat * c.size + o) (t := e') (a.eval z).cells.toList 0 cur w hg (by simp [hms]; omega) (hf hm)
  refine wpl_unit (w' := w') ?_ (k w' ?_)
  · simp only [execOp, hx, Instr.storeAt, Instr.sureAddr, storeVar, Sem.run_bind, Sem.run_pure, Result.andThen_ok, hs w, hms, ne_eq, not_true_eq_false, if_false, hr]
  · refine S.turn j hj _ ⟨k2, k3, k4, by omega, fun k _ hk => k6 k (fun h => hk (by rw [h]; show v.ownBlock = some g; rw [hv]; rfl))⟩ (fun k hk => .inl hk) (fun keep => ?_)
    -- the row behind the store
    have hwr := encList_set (keep (c := cArr xs.length c) ⟨rfl, he⟩).2 hlt (y := set u (xs.getD i.toNat z0)) (L.write (keep hget) (keep hm))
    refine ⟨_, ⟨?_, .inr ⟨g, cap, _, hv.trans (by rw [List.length_set]), Nat.zero_le _, k7, by simpa using h1, h2, ?_, rfl⟩⟩, ?_⟩
    · simp only [List.length_take, List.length_set]
      rw [Nat.min_eq_left]
      simp [hms]
      omega
    · simp [hms]
      omega
    · have hsz : (a.eval z).cells.toList.length = e.size := by simp [hms]
      have hcl' : (cur.toList.take (xs.length * c.size)).length = xs.length * c.size := hcl
      have e1 := splice1 (row := cur.toList.take (xs.length * c.size)) (B := cur.toList.drop (xs.length * c.size)) (m := (a.eval z).cells.toList) (p := i.toNat * c.size + o) (n := e.size) (by rw [hcl']; omega) hsz
      rw [List.take_append_drop, hcl'] at e1
      replace e1 := e1.trans (splice2 hfit)
      show encList c _ w' (((cur.toList.take (i.toNat * c.size + o + 0) ++ (a.eval z).cells.toList ++ cur.toList.drop (i.toNat * c.size + o + 0 + (a.eval z).cells.toList.length)).toArray).toList.take ((xs.set i.toNat (set u (xs.getD i.toNat z0))).length * c.size)) _
      rw [List.length_set, Nat.add_zero, hsz, List.toList_toArray]
      rw [e1]
      exact hwr
/-- a slice as an array that is only read -/
theorem op_arrp (S : St N F0 D0 w0 a w R E) (hp : okPut N d E = true) {α : Type} {c : Codec α} {n : Nat} {e : TypeId} {xs : List α} (hx : (cSlice c).val (dirt D0 R) w (a.eval y) xs) (hn : n ≤ xs.length) (hn0 : Nat.blt 0 n = true) (hu : P.underlying t = some (.array n e))
    (k : ∀ a', St N F0 D0 w0 a' w R (⟨d, List α, cRef (cArr n c), xs.take n⟩ :: E) → wpList P ops Q rest a' w) : wpList P ops Q (⟨some d, .sliceToArrayPointer t y, ty, ps, af, none⟩ :: rest) a w := by
  have hn0' : 0 < n := by simpa [Nat.blt_eq] using hn0
  obtain ⟨A, cap, hv, hcap, hmax, h⟩ := cSlice_val hx
  obtain ⟨g, o, es, rfl, hl, he⟩ := h (by intro h0; subst h0; simp at hn; omega)
  have hes := encList_len he
  have ht : es = [] ++ (es.take (n * c.size) ++ es.drop (n * c.size)) := by rw [List.take_append_drop]; rfl
  have hl2 : lies (dirt D0 R) w g (o + 0) (es.take (n * c.size)) := by
    rw [ht] at hl
    exact hl.sub (a := []) rfl
  refine op_val S hp (c := cRef (cArr n c)) (v := ptr g o) ?_ ⟨_, ⟨g, o, es.take (n * c.size), rfl, hl2, ⟨by rw [List.length_take]; omega, encList_take he n⟩⟩, rfl⟩ k
  simp only [execOp, hv, Instr.arrayAt, Sem.run_bind, run_underlying hu, Result.andThen_ok]
  have : ¬ xs.length < n := by omega
  simp [this, hn]
/-- a piece of an element of a row of the call's own, as a slice -/
theorem op_slicerowt (S : St N F0 D0 w0 a w R E) (hp : okPut N d E = true) {e : TypeId} {m : Nat} {v : Value} {i : Int} {o n sz : Nat} {hi : Operand} {kh : IntKind} {h : Int} (hsh : Shape v m) (hi0 : 0 ≤ i ∧ i < (m : Int))
    (hx : a.eval y = rowPtr v o) (hh : a.eval hi = .int kh h) (hg : 0 ≤ h ∧ h ≤ n) (hu : P.underlying t = some (.array n e)) (hs : ∀ w, (sizeOf e).run P w = .ok sz w)
    (k : ∀ a', St N F0 D0 w0 a' w R (⟨d, Value, cRaw, rowSl v o h.toNat n⟩ :: E) → wpList P ops Q rest a' w) :
    wpList P ops Q (⟨some d, .slice t y none (some hi) none, ty, ps, af, none⟩ :: rest) a w := by
  obtain ⟨g, cap, hv⟩ := hsh.some hi0
  subst hv
  refine op_val S hp (v := .slice (some ⟨g, o, none⟩) h.toNat n) ?_ (cPlain_mk (f := id) _) k
  have hx' : a.eval y = ptr g o := hx
  simp only [execOp, hx', Instr.sliceAt, Sem.run_bind, run_underlying hu, Result.andThen_ok, Option.map_none, Option.map_some, Instr.sureAddr, Instr.sliceBounds, Sem.run_pure, bound_ok hh (n := n) (code := .sliceAlen) ⟨by omega, by omega⟩, Option.isSome_none, Bool.false_eq_true, if_false, hs w]
  simp [Addr.add]
theorem op_arrprow (S : St N F0 D0 w0 a w R E) (hp : okPut N d E = true) {e : TypeId} {m : Nat} {v : Value} {i : Int} {o n h cap : Nat} (hsh : Shape v m) (hi0 : 0 ≤ i ∧ i < (m : Int))
    (hx : a.eval y = rowSl v o h cap) (hn : Nat.ble n h = true) (hu : P.underlying t = some (.array n e))
    (k : ∀ a', St N F0 D0 w0 a' w R (⟨d, Value, cRaw, rowPtr v o⟩ :: E) → wpList P ops Q rest a' w) : wpList P ops Q (⟨some d, .sliceToArrayPointer t y, ty, ps, af, none⟩ :: rest) a w := by
  obtain ⟨g, cap, hv⟩ := hsh.some hi0
  subst hv
  have hn' : n ≤ h := by simpa using hn
  refine op_val S hp (v := ptr g o) ?_ (cPlain_mk (f := id) _) k
  rw [show rowSl (.slice (some ⟨g, 0, none⟩) m cap) o h _ = .slice (some ⟨g, o, none⟩) h _ from rfl] at hx
  simp only [execOp, hx, Instr.arrayAt, Sem.run_bind, run_underlying hu, Result.andThen_ok]
  have : ¬ h < n := by omega
  simp [this]
theorem St.front (S : St N F0 D0 w0 a w R E) (j : Nat) {r : Res} (hj : R[j]? = some r) : St N F0 D0 w0 a w (r :: R.eraseIdx j) E := by
  refine S.permR ?_
  have hlt := (List.getElem?_eq_some_iff.1 hj).1
  have hr := (List.getElem?_eq_some_iff.1 hj).2
  have e : R = R.take j ++ (r :: R.drop (j + 1)) := by rw [← hr, List.getElem_cons_drop, List.take_append_drop]
  rw [List.eraseIdx_eq_take_drop_succ]
  exact (List.Perm.of_eq e).trans List.perm_middle
/-- the first m of an array's n -/
theorem Lens.pre {α : Type} {n m : Nat} (c : Codec α) (h : Nat.ble m n = true) : Lens (cArr n c) (cArr m c) 0 (fun xs => xs.take m) (fun ys xs => ys ++ xs.drop m) where
  fits _ := by
    show 0 + m * c.size ≤ n * c.size
    rw [Nat.zero_add]; exact Nat.mul_le_mul_right _ (by simpa using h)
  read := by
    rintro D w cs xs ⟨hl, he⟩
    exact ⟨by have : m ≤ n := by simpa using h
              rw [List.length_take]; omega, encList_take he m⟩
  write := by
    rintro D w cs xs p ys ⟨hl, he⟩ ⟨hm, hy⟩
    have : m ≤ n := by simpa using h
    refine ⟨by simp; omega, ?_⟩
    simp only [List.take_zero, List.nil_append, Nat.zero_add]
    exact encList_append hy (encList_drop he m)
end
end Go.Tw
