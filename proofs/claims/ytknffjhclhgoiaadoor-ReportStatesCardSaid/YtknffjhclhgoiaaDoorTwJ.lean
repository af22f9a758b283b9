/- The typed walk, part J: small operations; equality of records. -/
import Derived.Test.YtknffjhclhgoiaaDoorTwI
import Derived.Laws.BytesArg
set_option linter.unusedVariables false
set_option linter.unusedSimpArgs false
namespace Go.Tw
open Go Go.RowKit

theorem esc_some {α β : Type} {m : Option β} {t : α ⊕ β} {r : β} (h : Option.map Sum.inr m = some t) (k : ∀ y, t = .inr y → some y = some r) : m = some r := by
  cases m with
  | none => cases h
  | some y => exact k y (Option.some.inj h).symm

/-- a string of numbers -/
def bytesOf (l : List Int) : List UInt8 := l.map fun n => UInt8.ofNat n.toNat

section
variable {P : Program} {ops : Array Oper} {Q : Exit → Act → World → Prop} {rest : List Oper} {a : Act} {w w' : World} {d : Nat} {ty : TypeId} {ps : String} {af : Array Edge}
variable {N : Nat} {F0 : Nat → Prop} {D0 : Dirty} {w0 : World} {R : List Res} {E : List Ent}
variable {t t' : TypeId} {x y z : Operand}
theorem op_pickt (S : St N F0 D0 w0 a w R E) (hp : okPut N d E = true) {b : Bool} {α : Type} {c : Codec α} {u : α} (hz : a.eval z = .bool b) (hb : b = true) (hx : c.val (dirt D0 R) w (a.eval x) u)
    (k : ∀ a', St N F0 D0 w0 a' w R (⟨d, α, c, u⟩ :: E) → wpList P ops Q rest a' w) : wpList P ops Q (⟨some d, .pick z x y, ty, ps, af, none⟩ :: rest) a w := by
  subst hb
  exact op_val S hp (v := a.eval x) (by simp only [execOp, hz]; rfl) hx k
theorem op_pickf (S : St N F0 D0 w0 a w R E) (hp : okPut N d E = true) {b : Bool} {α : Type} {c : Codec α} {u : α} (hz : a.eval z = .bool b) (hb : b = false) (hy : c.val (dirt D0 R) w (a.eval y) u)
    (k : ∀ a', St N F0 D0 w0 a' w R (⟨d, α, c, u⟩ :: E) → wpList P ops Q rest a' w) : wpList P ops Q (⟨some d, .pick z x y, ty, ps, af, none⟩ :: rest) a w := by
  subst hb
  exact op_val S hp (v := a.eval y) (by simp only [execOp, hz]; rfl) hy k
theorem op_nilc (S : St N F0 D0 w0 a w R E) (hp : okPut N d E = true) {b o : Nat} (hx : a.eval y = ptr b o)
    (k : ∀ a', St N F0 D0 w0 a' w R (⟨d, Value, cRaw, ptr b o⟩ :: E) → wpList P ops Q rest a' w) : wpList P ops Q (⟨some d, .nilCheck y, ty, ps, af, none⟩ :: rest) a w :=
  op_val S hp (v := ptr b o) (by simp only [execOp, hx]; rfl) (cPlain_mk (f := id) _) k
theorem op_nilr (S : St N F0 D0 w0 a w R E) (hp : okPut N d E = true) {α : Type} {c : Codec α} {u : α} (hx : (cRef c).val (dirt D0 R) w (a.eval y) u)
    (k : ∀ a', St N F0 D0 w0 a' w R (⟨d, α, cRef c, u⟩ :: E) → wpList P ops Q rest a' w) : wpList P ops Q (⟨some d, .nilCheck y, ty, ps, af, none⟩ :: rest) a w := by
  obtain ⟨g, o, es, hv, _⟩ := cRef_val hx
  exact op_val S hp (v := a.eval y) (by simp only [execOp, hv]; rfl) hx k
theorem op_sliceall (S : St N F0 D0 w0 a w R E) (hp : okPut N d E = true) {α : Type} {c : Codec α} {e : TypeId} {xs : List α} (hx : (cSlice c).val (dirt D0 R) w (a.eval y) xs) (hu : P.underlying t = some (.slice e)) (hs : ∀ w, (sizeOf e).run P w = .ok c.size w)
    (k : ∀ a', St N F0 D0 w0 a' w R (⟨d, List α, cSlice c, xs⟩ :: E) → wpList P ops Q rest a' w) :
    wpList P ops Q (⟨some d, .slice t y none none none, ty, ps, af, none⟩ :: rest) a w := by
  obtain ⟨A, cap, hv, h1, h2, h3⟩ := cSlice_val hx
  have hs' := sliced h1 h2 h3 (l := 0) (u := xs.length) (by omega) (Nat.le_refl _)
  rw [List.drop_zero, List.take_length] at hs'
  refine op_val S hp ?_ hs' k
  simp only [execOp, hv, Instr.sliceAt, Sem.run_bind, run_underlying hu, Result.andThen_ok, Option.map_none, Instr.slice, Instr.sliceBounds, Sem.run_pure,
    Option.isSome_none, Bool.false_eq_true, if_false, hs w]
theorem op_sslice (S : St N F0 D0 w0 a w R E) (hp : okPut N d E = true) {l : List UInt8} {lo hi : Operand} {kl kh : IntKind} {i j : Int} (ht : P.underlying t = some .string) (hx : a.eval y = strV l)
    (hl : a.eval lo = .int kl i) (hh : a.eval hi = .int kh j) (hg : 0 ≤ i ∧ i ≤ j ∧ j ≤ l.length)
    (k : ∀ a', St N F0 D0 w0 a' w R (⟨d, List UInt8, cStr, (l.drop i.toNat).take (j.toNat - i.toNat)⟩ :: E) → wpList P ops Q rest a' w) :
    wpList P ops Q (⟨some d, .slice t y (some lo) (some hi) none, ty, ps, af, none⟩ :: rest) a w := by
  refine op_val S hp (v := strV ((l.drop i.toNat).take (j.toNat - i.toNat))) ?_ (cPlain_mk _) k
  simp only [execOp, hx, strV, Instr.sliceAt, Sem.run_bind, run_underlying ht, Result.andThen_ok, Option.map_some, Option.map_none, Instr.slice, Instr.sliceBounds, Sem.run_pure, strV_size, bound_ok hh (n := l.length) (code := .sliceAlen) ⟨by omega, by omega⟩,
    bound_ok hl (n := j.toNat) (code := .sliceB) ⟨by omega, by omega⟩, Option.isSome_none, Bool.false_eq_true, if_false, ByteArray.extract_mk]
theorem op_sslicef (S : St N F0 D0 w0 a w R E) (hp : okPut N d E = true) {l : List UInt8} {lo : Operand} {kl : IntKind} {i : Int} (ht : P.underlying t = some .string) (hx : a.eval y = strV l)
    (hl : a.eval lo = .int kl i) (hg : 0 ≤ i ∧ i ≤ l.length)
    (k : ∀ a', St N F0 D0 w0 a' w R (⟨d, List UInt8, cStr, l.drop i.toNat⟩ :: E) → wpList P ops Q rest a' w) :
    wpList P ops Q (⟨some d, .slice t y (some lo) none none, ty, ps, af, none⟩ :: rest) a w := by
  have e : (l.drop i.toNat).take (l.length - i.toNat) = l.drop i.toNat := List.take_of_length_le (by simp)
  refine op_val S hp (v := strV (l.drop i.toNat)) ?_ (cPlain_mk _) k
  simp only [execOp, hx, strV, Instr.sliceAt, Sem.run_bind, run_underlying ht, Result.andThen_ok, Option.map_some, Option.map_none, Instr.slice, Instr.sliceBounds, Sem.run_pure, strV_size,
    bound_ok hl (n := l.length) (code := .sliceB) ⟨by omega, by omega⟩, Option.isSome_none, Bool.false_eq_true, if_false, ByteArray.extract_mk, e]
theorem op_sslicet (S : St N F0 D0 w0 a w R E) (hp : okPut N d E = true) {l : List UInt8} {hi : Operand} {kh : IntKind} {j : Int} (ht : P.underlying t = some .string) (hx : a.eval y = strV l)
    (hh : a.eval hi = .int kh j) (hg : 0 ≤ j ∧ j ≤ l.length)
    (k : ∀ a', St N F0 D0 w0 a' w R (⟨d, List UInt8, cStr, l.take j.toNat⟩ :: E) → wpList P ops Q rest a' w) :
    wpList P ops Q (⟨some d, .slice t y none (some hi) none, ty, ps, af, none⟩ :: rest) a w := by
  refine op_val S hp (v := strV (l.take j.toNat)) ?_ (cPlain_mk _) k
  simp only [execOp, hx, strV, Instr.sliceAt, Sem.run_bind, run_underlying ht, Result.andThen_ok, Option.map_some, Option.map_none, Instr.slice, Instr.sliceBounds, Sem.run_pure, strV_size, bound_ok hh (n := l.length) (code := .sliceAlen) ⟨by omega, by omega⟩,
    Option.isSome_none, Bool.false_eq_true, if_false, ByteArray.extract_mk, List.drop_zero, Nat.sub_zero]

/-! ### string(bytes) -/
theorem ints_of_enc {k : IntKind} {D : Dirty} {w : World} : ∀ {cs : List Value} {xs : List Int}, encList (cInt k) D w cs xs → cs = xs.map (Value.int k)
  | _, [], h => h
  | _, x :: xs, ⟨p, q, h, hp, hq⟩ => by rw [h, show p = [Value.int k x] from hp, ints_of_enc hq]; rfl
theorem op_bstr (S : St N F0 D0 w0 a w R E) (hp : okPut N d E = true) {e : TypeId} {xs : List Int} (hs : P.underlying t = some (.slice e)) (he : P.underlying e = some (.int .u8)) (hd : P.underlying t' = some .string) (hx : (cSlice (cInt .u8)).val (dirt D0 R) w (a.eval y) xs)
    (k : ∀ a', St N F0 D0 w0 a' w R (⟨d, List UInt8, cStr, bytesOf xs⟩ :: E) → wpList P ops Q rest a' w) :
    wpList P ops Q (⟨some d, .convert t t' y, ty, ps, af, none⟩ :: rest) a w := by
  obtain ⟨A, cap, hv, h1, h2, h3⟩ := cSlice_val hx
  refine op_val S hp (v := strV (bytesOf xs)) ?_ (cPlain_mk _) k
  have hrun : (convert t t' (.slice A xs.length cap)).run P w = .ok (strV (bytesOf xs)) w := by
    by_cases h0 : xs = []
    · subst h0
      cases A with
      | none => exact run_convert_bytes_nil w t e hs he 0 cap t' hd
      | some ad =>
        show (convert t t' (.slice (some ad) 0 cap)).run P w = _
        rw [run_convert_bytes_string w t t' e _ 0 cap hs he hd]
        simp [Conv.bytesToString, loadCells, loadCellsFrom]
        rfl
    · obtain ⟨g, o, es, rfl, ⟨_, cur, tb, fr, hg, hl1, hl2⟩, hes⟩ := h3 h0
      have hes' := ints_of_enc hes
      subst hes'
      simp only [List.length_map] at hl2
      exact run_convert_bytes_arg w t e hs he g o xs.length cap xs rfl (fun i hi => by
        rw [cell_of_row w g (o + i) cur tb fr hg]
        have : (xs.map (Value.int .u8))[i]? = some (.int .u8 (xs.getD i 0)) := by simp [hi, List.getD]
        rw [← hl2, List.getElem?_take, if_pos hi, List.getElem?_drop] at this
        simpa using this) t' hd
  simp only [execOp, hv, Sem.run_bind, hrun, Result.andThen_ok, Sem.run_pure]
end
end Go.Tw
