/- The typed walk, part P: calls that give a record with a row of the caller's own. -/
import Derived.Test.YtknffjhclhgoiaaDoorTwO
set_option linter.unusedVariables false
set_option linter.unusedSimpArgs false
namespace Go.Tw
open Go Go.RowKit

/-- What a call gives that makes a record with a row that is nobody else's. -/
def RetOwn {ρ β : Type} (c : Codec ρ) (mkv : Value → ρ) (e : TypeId) (ce : Codec β) (xs : List β) (D : Dirty) (w : World) (en : Ending) (w' : World) : Prop :=
  ∃ v u, en = .returned v ∧ Below w.heap.size w w' ∧ (∀ k, u.ownBlock = some k → w.heap.size ≤ k) ∧ c.val (fun k => D k ∨ u.ownBlock = some k) w' v (mkv u) ∧ (Res.row u e ce xs).P (fun k => D k ∨ u.ownBlock = some k) w'

section
variable {P : Program} {ops : Array Oper} {Q : Exit → Act → World → Prop} {rest : List Oper} {a : Act} {w w' : World} {d : Nat} {ty : TypeId} {ps : String} {af : Array Edge}
variable {N : Nat} {F0 : Nat → Prop} {D0 : Dirty} {w0 : World} {R : List Res} {E : List Ent}

theorem retown {fn : Func} {α β : Type} {c : Codec α} {x : α} {p b : Nat} {t e : TypeId} {u : Value} {ce : Codec β} {xs : List β} (mkv : Value → α) (S : St N (fun _ => False) D0 w0 a w R E) (hres : fn.results = #[.cell p t]) (i j q : Nat) (hi : E[i]? = some ⟨p, Value, cRaw, ptr b 0⟩)
    (hj : R[j]? = some (Res.box b t c x)) (hq : R[q]? = some (Res.row u e ce xs)) (ha : ∀ w, (isAgg t).run P w = .ok c.agg w) (hs : ∀ w, (sizeOf t).run P w = .ok c.size w) (hx : mkv u = x) : bodyPost P fn (RetOwn c mkv e ce xs D0 w0) .ret a w := by
  obtain ⟨cur, hb, he⟩ := S.resAt j hj
  have hrow := S.resAt q hq
  have hl : cur.size = c.size := by have := c.len he; simpa using this
  have hp : a.tmps.getD p undef = ptr b 0 := S.raw i hi
  have hk : Keep (dirt D0 R) (fun k => D0 k ∨ u.ownBlock = some k) w w := Keep.less fun k _ hd => by
    rcases hd with h | h
    · exact .inl h
    · exact .inr ⟨_, List.mem_of_getElem? hq, h⟩
  have hp' : (a.tmps[p]?).getD undef = ptr b 0 := by simpa using hp
  refine ⟨S.defs, c.pack ((cur.toList.drop 0).take c.size), ?_, _, u, rfl, S.chg.below, fun k hk' => ?_, ?_, ?_⟩
  · have := run_loadVar_at (P := P) (w := w) (c := c) (D := D0) (x := x) (t := t) (g := b) (o := 0) (ha w) (hs w) hb (by omega)
    simp [results, hres, hp', asAddr, this]
  · rcases S.own _ (List.mem_of_getElem? hq) k hk' with h | h
    · exact h.elim
    · exact h
  · rw [hx, List.drop_zero, ← hl, ← Array.length_toList, List.take_length]
    exact Codec.val.of_enc (c.stay he hk)
  · obtain ⟨cells, ho, hen⟩ := hrow
    exact ⟨cells, ho, encList_stay hk hen⟩
theorem op_callown (S : St N F0 D0 w0 a w R E) (hp : okPut N d E = true) {K : FuncId} {args : List Operand} {ats : Array TypeId} (hcf : ∀ args w, (callFunc K args).run P w = .ok (.enter K args) w) {ρ β : Type} {c : Codec ρ} {mkv : Value → ρ} {e : TypeId} {ce : Codec β} {xs : List β}
    (hc : Calls P K (args.map a.eval).toArray w (RetOwn c mkv e ce xs (dirt D0 R) w))
    (k : ∀ u a' w', St N F0 D0 w0 a' w' (Res.row u e ce xs :: R) (⟨d, ρ, c, mkv u⟩ :: E) → wpList P ops Q rest a' w') : wpList P ops Q (⟨some d, .call { callee := .value (.func K), args := args.toArray, argTypes := ats }, ty, ps, af, none⟩ :: rest) a w := by
  refine wpl_call (run_callv hcf) (by rw [List.map_toArray]; exact hc) ?_
  rintro en w' ⟨v, u, rfl, hb, hn, hv, hr⟩
  have hk : Keep (fun k => dirt D0 R k ∨ u.ownBlock = some k) (dirt D0 (Res.row u e ce xs :: R)) w' w' := Keep.less fun k _ hd => by
    rcases (dirt_cons _ _ _ _).1 hd with h | h
    · exact .inr h
    · exact .inl h
  refine ⟨v, rfl, k u _ _ (St.put (S.gain hb (Res.row u e ce xs) hn ?_) (hv.stay hk) hp)⟩
  obtain ⟨cells, ho, hen⟩ := hr
  exact ⟨cells, ho, encList_stay hk hen⟩
end
end Go.Tw
