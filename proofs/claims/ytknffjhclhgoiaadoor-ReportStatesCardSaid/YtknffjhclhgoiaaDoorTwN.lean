/- The typed walk, part N: variables with a field whose row is the call's own. -/
import Derived.Test.YtknffjhclhgoiaaDoorTwM
set_option linter.unusedVariables false
set_option linter.unusedSimpArgs false
namespace Go.Tw
open Go Go.RowKit

/-- one cell, told as it is -/
def cCell : Codec Value where
  size := 1
  agg := false
  enc _ _ cs x := cs = [x] ∧ x.oneCell' = true
  one _ := rfl
  len h := by rw [h.1]; rfl
  stay h _ := h
theorem cCell_flat : cCell.Flat := by
  intro D w cs x h u hu
  rw [h.1, List.mem_singleton] at hu
  subst hu; exact h.2
theorem cCell_val {D : Dirty} {w : World} {v x : Value} (h : cCell.val D w v x) : v = x := by
  obtain ⟨cs, ⟨rfl, _⟩, rfl⟩ := h; rfl
theorem zero_cell : ZeroOf cCell [.slice none 0 0] (.slice none 0 0) := fun _ _ => ⟨rfl, rfl⟩
theorem cSlice_one {α : Type} {c : Codec α} {D : Dirty} {w : World} {v : Value} {xs : List α} (h : (cSlice c).val D w v xs) : (cSlice c).enc D w [v] xs := by
  obtain ⟨A, cap, rfl, h2⟩ := cSlice_val h
  exact ⟨A, cap, rfl, h2⟩
theorem cCell_nil {D : Dirty} {w : World} : cCell.val D w (.slice none 0 0) (.slice none 0 0) := ⟨_, ⟨rfl, rfl⟩, rfl⟩

section
variable {P : Program} {ops : Array Oper} {Q : Exit → Act → World → Prop} {rest : List Oper} {a : Act} {w w' : World} {d : Nat} {ty : TypeId} {ps : String} {af : Array Edge}
variable {N : Nat} {F0 : Nat → Prop} {D0 : Dirty} {w0 : World} {R : List Res} {E : List Ent}
variable {t t' : TypeId} {y z : Operand}

theorem St.celraw {s : Nat} {u : Value} (S : St N F0 D0 w0 a w R (⟨s, Value, cCell, u⟩ :: E)) : St N F0 D0 w0 a w R (⟨s, Value, cRaw, u⟩ :: E) :=
  ⟨S.size, S.defs, S.chg, S.old, S.dis, S.own, S.apart, S.res, fun e he => by
    rcases List.mem_cons.1 he with rfl | he
    · have h : cCell.val (dirt D0 R) w (a.tmps.getD s undef) u := S.ent ⟨s, Value, cCell, u⟩ (List.mem_cons_self ..)
      show cRaw.val (dirt D0 R) w (a.tmps.getD s undef) u
      rw [cCell_val h]
      exact cPlain_mk (f := id) u
    · exact S.ent e (List.mem_cons_of_mem _ he)⟩
theorem op_loadcell (S : St N F0 D0 w0 a w R E) (hp : okPut N d E = true) (i : Nat) {b o : Nat} {tb : TypeId} {α : Type} {c : Codec α} {x : α} {get : α → Value} {set : Value → α → α} (hi : R[i]? = some (Res.box b tb c x))
    (hx : a.eval y = ptr b o) (L : Lens c cCell o get set) (ha : ∀ w, (isAgg t).run P w = .ok cCell.agg w) (hs : ∀ w, (sizeOf t).run P w = .ok cCell.size w) {u : Value} (hu : get x = u)
    (k : ∀ a', St N F0 D0 w0 a' w R (⟨d, Value, cRaw, u⟩ :: E) → wpList P ops Q rest a' w) : wpList P ops Q (⟨some d, .load t y, ty, ps, af, none⟩ :: rest) a w :=
  op_load S hp i hi hx L ha hs hu (fun a' S' => k a' S'.celraw)
theorem rowcell (S : St N F0 D0 w0 a w R E) (j : Nat) {α : Type} {v : Value} {e : TypeId} {c : Codec α} {xs : List α} (hj : R[j]? = some (Res.row v e c xs)) (hz : a.eval z = v) : cCell.val (dirt D0 R) w (a.eval z) v := by
  obtain ⟨cells, ho, he⟩ := S.resAt j hj
  rw [hz]
  refine ⟨[v], ⟨rfl, ?_⟩, rfl⟩
  rcases ho.2 with ⟨rfl, _⟩ | ⟨g, cap, cur, rfl, _⟩ <;> rfl
/-- no other memory that may turn lies in the blocks of the row j -/
theorem St.rowfree (S : St N F0 D0 w0 a w R E) (j : Nat) {r : Res} (hj : R[j]? = some r) : ∀ k, r.foot k → ¬ dirt D0 (R.eraseIdx j) k := by
  intro k hk hd
  have hmem := List.mem_of_getElem? hj
  have hjl : j < R.length := (List.getElem?_eq_some_iff.1 hj).1
  have hrj : R[j] = r := (List.getElem?_eq_some_iff.1 hj).2
  rcases hd with h | ⟨s, hs, hks⟩
  · rcases S.own _ hmem k hk with hf | hf
    · exact S.dis k hf h
    · exact absurd (S.old k h) (by omega)
  · obtain ⟨p, hp⟩ := List.mem_iff_getElem?.1 hs
    rw [List.getElem?_eraseIdx] at hp
    split at hp
    · rename_i hpj
      have hpl : p < R.length := by omega
      have := (List.pairwise_iff_getElem.1 S.apart p j hpl hjl hpj) k
      rw [(List.getElem?_eq_some_iff.1 hp).2, hrj] at this
      exact this hks hk
    · rename_i hpj
      have hpl : p + 1 < R.length := (List.getElem?_eq_some_iff.1 hp).1
      have := (List.pairwise_iff_getElem.1 S.apart j (p + 1) hjl hpl (by omega)) k
      rw [(List.getElem?_eq_some_iff.1 hp).2, hrj] at this
      exact this hk hks
/-- A field's row is only read from now on: the variable is told by its outside form. -/
theorem St.settle (S : St N F0 D0 w0 a w R E) (i j : Nat) {α β γ : Type} {b : Nat} {t e : TypeId} {c : Codec α} {x : α} {v : Value} {ce : Codec β} {xs : List β} {c' : Codec γ} {y : γ} (hj : R[j]? = some (Res.row v e ce xs)) (hi : (R.eraseIdx j)[i]? = some (Res.box b t c x))
    (conv : ∀ D w cs, c.enc D w cs x → (cSlice ce).enc D w [v] xs → c'.enc D w cs y) : St N F0 D0 w0 a w ((R.eraseIdx j).set i (Res.box b t c' y)) E := by
  have hfree := S.rowfree j hj
  have T := S.lose j
  obtain ⟨cells, ho, he⟩ := S.resAt j hj
  have hk : Keep (dirt D0 R) (dirt D0 (R.eraseIdx j)) w w := Keep.less fun k _ hd => by
    rcases hd with h | ⟨r, hr, hk⟩
    · exact .inl h
    · exact .inr ⟨r, List.mem_of_mem_eraseIdx hr, hk⟩
  have hrow : (cSlice ce).enc (dirt D0 (R.eraseIdx j)) w [v] xs := cSlice_one (row_enc ⟨cells, ho, encList_stay hk he⟩ hfree)
  obtain ⟨cur, hb, hc⟩ := T.resAt i hi
  exact T.turn i hi (Res.box b t c' y) (Chg.refl _ _) (fun k hk => .inl hk) (fun keep => ⟨cur, hb, conv _ _ _ (keep hc) (keep hrow)⟩)
end
end Go.Tw
