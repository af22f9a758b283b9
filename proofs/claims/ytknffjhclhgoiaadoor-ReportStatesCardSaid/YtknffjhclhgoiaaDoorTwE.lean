/- The typed walk, part E: elements, slices, records, calls. -/
import Derived.Test.YtknffjhclhgoiaaDoorTwD
set_option linter.unusedVariables false
set_option linter.unusedSimpArgs false
namespace Go.Tw
open Go Go.RowKit

section
variable {P : Program} {ops : Array Oper} {Q : Exit → Act → World → Prop} {rest : List Oper} {a : Act} {w w' : World} {d : Nat} {ty : TypeId} {ps : String} {af : Array Edge}
variable {N : Nat} {F0 : Nat → Prop} {D0 : Dirty} {w0 : World} {R : List Res} {E : List Ent}
variable {t t' : TypeId} {y z : Operand}

/-- an element of an array -/
theorem op_index (S : St N F0 D0 w0 a w R E) (hp : okPut N d E = true) {α : Type} {c : Codec α} {n : Nat} {e : TypeId} {xs : List α} {kd : IntKind} {i : Int} {z0 : α} (hx : (cArr n c).val (dirt D0 R) w (a.eval y) xs) (hy : a.eval z = .int kd i)
    (hi : 0 ≤ i ∧ i < n) (hu : P.underlying t = some (.array n e)) (ha : ∀ w, (isAgg e).run P w = .ok c.agg w) (hs : ∀ w, (sizeOf e).run P w = .ok c.size w)
    (k : ∀ a', St N F0 D0 w0 a' w R (⟨d, α, c, xs.getD i.toNat z0⟩ :: E) → wpList P ops Q rest a' w) : wpList P ops Q (⟨some d, .index t y z, ty, ps, af, none⟩ :: rest) a w := by
  obtain ⟨es, ⟨hl, he⟩, hv⟩ := hx
  have hv' : a.eval y = .agg es.toArray := hv
  have hlt : i.toNat < xs.length := by omega
  have hlen := encList_len he
  have hg := encList_get he hlt
  have hgl := c.len hg
  rw [show xs[i.toNat] = xs.getD i.toNat z0 by simp [List.getD, List.getElem?_eq_getElem hlt]] at hg
  refine op_val S hp (v := c.pack ((es.drop (i.toNat * c.size)).take c.size)) ?_ (Codec.val.of_enc hg) k
  simp only [execOp, hv', hy, Instr.index, asIntOf, Sem.run_bind, Sem.run_pure, Result.andThen_ok, run_underlying hu, Codec.pack, if_pos hi]
  simp only [part, ha w, hs w, Sem.run_bind, Result.andThen_ok, Sem.run_pure]
  cases hagg : c.agg
  · have h1 := c.one hagg
    simp only [List.length_take, List.length_drop] at hgl
    have hlt' : i.toNat < es.length := by rw [h1] at hgl; omega
    simp [h1, hlt', List.head?_take, List.head?_drop]
  · simp [hs w]
/-- the address of a slice's element -/
theorem op_indexAddr (S : St N F0 D0 w0 a w R E) (hp : okPut N d E = true) {α : Type} {c : Codec α} {e : TypeId} {xs : List α} {kd : IntKind} {i : Int} {z0 : α} (hx : (cSlice c).val (dirt D0 R) w (a.eval y) xs) (hy : a.eval z = .int kd i)
    (hi : 0 ≤ i ∧ i < xs.length) (hu : P.underlying t = some (.slice e)) (hs : ∀ w, (sizeOf e).run P w = .ok c.size w)
    (k : ∀ a', St N F0 D0 w0 a' w R (⟨d, α, cRef c, xs.getD i.toNat z0⟩ :: E) → wpList P ops Q rest a' w) : wpList P ops Q (⟨some d, .indexAddr t y z, ty, ps, af, none⟩ :: rest) a w := by
  obtain ⟨A, cap, hv, hmax, _, h⟩ := cSlice_val hx
  have hlt : i.toNat < xs.length := by omega
  obtain ⟨g, o, es, rfl, hl, he⟩ := h (by intro h0; subst h0; simp at hlt)
  obtain ⟨p, m, q, rfl, hpl, hm, _⟩ := encList_mid he hlt
  rw [show xs[i.toNat] = xs.getD i.toNat z0 by simp [List.getD, List.getElem?_eq_getElem hlt]] at hm
  refine op_val S hp (c := cRef c) (v := ptr g (o + i.toNat * c.size)) ?_ ⟨_, ⟨g, o + i.toNat * c.size, m, rfl, hl.sub hpl, hm⟩, rfl⟩ k
  simp only [execOp, hv, hy, Instr.indexAt, asIntOf, Sem.run_bind, Sem.run_pure, Result.andThen_ok, run_underlying hu]
  simp [hi.1, hi.2, hs w, Addr.add_lit]
/-- the address of an element of an array that is only read -/
theorem op_indexAddrr (S : St N F0 D0 w0 a w R E) (hp : okPut N d E = true) {α : Type} {c : Codec α} {n : Nat} {e : TypeId} {xs : List α} {kd : IntKind} {i : Int} {z0 : α} (hx : (cRef (cArr n c)).val (dirt D0 R) w (a.eval y) xs) (hy : a.eval z = .int kd i)
    (hi : 0 ≤ i ∧ i < n) (hu : P.underlying t = some (.array n e)) (hs : ∀ w, (sizeOf e).run P w = .ok c.size w)
    (k : ∀ a', St N F0 D0 w0 a' w R (⟨d, α, cRef c, xs.getD i.toNat z0⟩ :: E) → wpList P ops Q rest a' w) : wpList P ops Q (⟨some d, .indexAddr t y z, ty, ps, af, none⟩ :: rest) a w := by
  obtain ⟨g, o, es, hv, hl, ⟨hn, he⟩⟩ := cRef_val hx
  have hlt : i.toNat < xs.length := by omega
  obtain ⟨p, m, q, rfl, hpl, hm, _⟩ := encList_mid he hlt
  rw [show xs[i.toNat] = xs.getD i.toNat z0 by simp [List.getD, List.getElem?_eq_getElem hlt]] at hm
  refine op_val S hp (c := cRef c) (v := ptr g (o + i.toNat * c.size)) ?_ ⟨_, ⟨g, o + i.toNat * c.size, m, rfl, hl.sub hpl, hm⟩, rfl⟩ k
  simp only [execOp, hv, hy, Instr.indexAt, asIntOf, Sem.run_bind, Sem.run_pure, Result.andThen_ok, run_underlying hu, Instr.sureAddr]
  simp [hi.1, hi.2, hs w, Addr.add_lit]
/-- the address of an element of an array of the call's own -/
theorem op_indexAddrb (S : St N F0 D0 w0 a w R E) (hp : okPut N d E = true) {b o o' n sz : Nat} {e : TypeId} {kd : IntKind} {i : Int} (hx : a.eval y = ptr b o) (hy : a.eval z = .int kd i)
    (hi : 0 ≤ i ∧ i < n) (hu : P.underlying t = some (.array n e)) (hs : ∀ w, (sizeOf e).run P w = .ok sz w) (ho : o + i.toNat * sz = o')
    (k : ∀ a', St N F0 D0 w0 a' w R (⟨d, Value, cRaw, ptr b o'⟩ :: E) → wpList P ops Q rest a' w) : wpList P ops Q (⟨some d, .indexAddr t y z, ty, ps, af, none⟩ :: rest) a w := by
  subst ho
  refine op_val S hp (v := ptr b (o + i.toNat * sz)) ?_ (cPlain_mk (f := id) _) k
  simp only [execOp, hx, hy, Instr.indexAt, asIntOf, Sem.run_bind, Sem.run_pure, Result.andThen_ok, run_underlying hu, Instr.sureAddr]
  simp [hi.1, hi.2, hs w, Addr.add_lit]
/-- len -/
theorem op_len (S : St N F0 D0 w0 a w R E) (hp : okPut N d E = true) {α : Type} {c : Codec α} {e : TypeId} {xs : List α} (hx : (cSlice c).val (dirt D0 R) w (a.eval y) xs) (hu : P.underlying t = some (.slice e))
    (k : ∀ a', St N F0 D0 w0 a' w R (⟨d, Int, cInt .i64, (xs.length : Int)⟩ :: E) → wpList P ops Q rest a' w) :
    wpList P ops Q (⟨some d, .call { callee := .builtin .len, args := #[y], argTypes := #[t] }, ty, ps, af, none⟩ :: rest) a w := by
  obtain ⟨A, cap, hv, _⟩ := cSlice_val hx
  refine op_val S hp (v := .int .i64 (xs.length : Int)) ?_ (cPlain_mk _) k
  simp [execOp, resolve, invoke, builtin, hv, Builtin.len_, run_underlying hu, goInt]
/-- len of a row of the call's own -/
theorem row_slice {D : Dirty} {α : Type} {v : Value} {e : TypeId} {c : Codec α} {xs : List α} (h : (Res.row v e c xs).P D w) : ∃ A cap, v = .slice A xs.length cap ∧ xs.length ≤ 9223372036854775807 := by
  obtain ⟨cells, ho, he⟩ := h
  rcases ho.2 with ⟨rfl, h0⟩ | ⟨g, cap, cur, rfl, _, _, h1, h2, _⟩
  · exact ⟨none, 0, by rw [h0], by omega⟩
  · exact ⟨_, cap, rfl, by simp only [maxLen] at h2; omega⟩
theorem op_lenrow (S : St N F0 D0 w0 a w R E) (hp : okPut N d E = true) (i : Nat) {α : Type} {c : Codec α} {e e' : TypeId} {xs : List α} {v : Value} (hi : R[i]? = some (Res.row v e' c xs)) (hx : a.eval y = v) (hu : P.underlying t = some (.slice e))
    (k : ∀ a', St N F0 D0 w0 a' w R (⟨d, Int, cInt .i64, (xs.length : Int)⟩ :: E) → wpList P ops Q rest a' w) :
    wpList P ops Q (⟨some d, .call { callee := .builtin .len, args := #[y], argTypes := #[t] }, ty, ps, af, none⟩ :: rest) a w := by
  obtain ⟨A, cap, hv, _⟩ := row_slice (S.resAt i hi)
  rw [hv] at hx
  refine op_val S hp (v := .int .i64 (xs.length : Int)) ?_ (cPlain_mk _) k
  simp [execOp, resolve, invoke, builtin, hx, Builtin.len_, run_underlying hu, goInt]
/-- A row of the call's own is only read from now on: the cells. -/
theorem row_enc {D : Dirty} {α : Type} {v : Value} {e : TypeId} {c : Codec α} {xs : List α} (h : (Res.row v e c xs).P D w) (hd : ∀ k, v.ownBlock = some k → ¬ D k) : (cSlice c).val D w v xs := by
  obtain ⟨cells, ho, he⟩ := h
  rcases ho.2 with ⟨rfl, h0⟩ | ⟨g, cap, cur, rfl, _, hg, h1, h2, h3, h4⟩
  · obtain rfl : xs = [] := List.eq_nil_of_length_eq_zero h0
    exact cSlice_nil
  · refine cSlice_mk h1 (by simp only [maxLen] at h2; omega) (fun _ => ⟨g, 0, cells, rfl, ⟨hd g rfl, cur, e, _, hg, ?_, ?_⟩, he⟩)
    · rw [ho.1, h3]; simp only [Nat.zero_add]; exact Nat.mul_le_mul_right _ h1
    · rw [ho.1, List.drop_zero, h4]
/-- The same of the state: the row j, which slot number i of the list holds, is let go. -/
theorem St.still (S : St N F0 D0 w0 a w R E) (i j : Nat) {s : Nat} {α : Type} {v : Value} {e : TypeId} {c : Codec α} {xs : List α} (hi : E[i]? = some ⟨s, Value, cRaw, v⟩) (hj : R[j]? = some (Res.row v e c xs)) :
    St N F0 D0 w0 a w (R.eraseIdx j) (⟨s, List α, cSlice c, xs⟩ :: E.eraseIdx i) := by
  have T := S.lose j
  have hres := S.resAt j hj
  have hv : a.tmps.getD s undef = v := S.pl i hi
  have hmem := List.mem_of_getElem? hj
  refine ⟨T.size, T.defs, T.chg, T.old, T.dis, T.own, T.apart, T.res, ?_⟩
  intro q hq
  rcases List.mem_cons.1 hq with rfl | hq
  · show (cSlice c).val _ w (a.tmps.getD s undef) xs
    rw [hv]
    obtain ⟨cells, ho, he⟩ := hres
    have hk : Keep (dirt D0 R) (dirt D0 (R.eraseIdx j)) w w := Keep.less fun k _ hd => by
      rcases hd with h | ⟨r, hr, hk⟩
      · exact .inl h
      · exact .inr ⟨r, List.mem_of_mem_eraseIdx hr, hk⟩
    refine row_enc ⟨cells, ho, encList_stay hk he⟩ (fun k hk hd => ?_)
    have hjl : j < R.length := (List.getElem?_eq_some_iff.1 hj).1
    have hrj : R[j] = Res.row v e c xs := (List.getElem?_eq_some_iff.1 hj).2
    rcases hd with h | ⟨r, hr, hkr⟩
    · rcases S.own _ hmem k hk with hf | hf
      · exact S.dis k hf h
      · exact absurd (S.old k h) (by omega)
    · obtain ⟨p, hp⟩ := List.mem_iff_getElem?.1 hr
      rw [List.getElem?_eraseIdx] at hp
      have hfoot : (Res.row v e c xs).foot k := hk
      split at hp
      · rename_i hpj
        have hpl : p < R.length := by omega
        have := (List.pairwise_iff_getElem.1 S.apart p j hpl hjl hpj) k
        rw [(List.getElem?_eq_some_iff.1 hp).2, hrj] at this
        exact this hkr hfoot
      · rename_i hpj
        have hpl : p + 1 < R.length := (List.getElem?_eq_some_iff.1 hp).1
        have := (List.pairwise_iff_getElem.1 S.apart j (p + 1) hjl hpl (by omega)) k
        rw [(List.getElem?_eq_some_iff.1 hp).2, hrj] at this
        exact this hfoot hkr
  · exact T.ent q (List.mem_of_mem_eraseIdx hq)
end
end Go.Tw
