/- The typed walk, part Q: a strings.Builder of the call's own. -/
import Derived.Test.YtknffjhclhgoiaaDoorTwP
import Derived.Lib.Builder
import Derived.Shelf.Strings.Builder2
set_option linter.unusedVariables false
set_option linter.unusedSimpArgs false
namespace Go.Tw
open Go Go.RowKit

/-- A builder in the block b, with all blocks from b on up to n. -/
def Res.bld (T e : TypeId) (b n : Nat) (l : List UInt8) : Res where
  foot k := b ≤ k ∧ k < n
  P D w := ∃ p v, (p = .pointer none ∨ p = .pointer (some ⟨b, 0, none⟩)) ∧ w.heap[b]? = some (.cells #[p, v] T (0, 0)) ∧ w.ownsRow b e 1 v (Lib.byteCells l).length (Lib.byteCells l) ∧ v.ownBlock ≠ some b ∧ b < n ∧ (∀ g, v.ownBlock = some g → g < n) ∧ n ≤ w.heap.size ∧
    (l = [] → True)
  stay := by
    rintro D D' w w' ⟨p, v, hp, hb, ho, hv, hbn, hg, hn, _⟩ k h
    refine ⟨p, v, hp, (h b ⟨Nat.le_refl _, hbn⟩ (by omega)).trans hb, ⟨ho.1, ?_⟩, hv, hbn, hg, Nat.le_trans hn k.size, fun _ => trivial⟩
    rcases ho.2 with h' | ⟨g, cap, cur, hv', hbg, hcur, r⟩
    · exact .inl h'
    · have hgn := hg g (by rw [hv']; rfl)
      exact .inr ⟨g, cap, cur, hv', hbg, (h g ⟨hbg, hgn⟩ (by omega)).trans hcur, r⟩
  lt := by rintro D w ⟨p, v, hp, hb, ho, hv, hbn, hg, hn, _⟩ k ⟨h1, h2⟩; omega
/-- no memory -/
def Res.nix : Res where
  foot _ := False
  P _ _ := True
  stay _ _ _ := trivial
  lt _ _ h := h.elim

theorem bld_is {T e : TypeId} {b n : Nat} {l : List UInt8} {D : Dirty} {w : World} (h : (Res.bld T e b n l).P D w) : Lib.IsBuilder T e b b (Lib.byteCells l) w := by
  obtain ⟨p, v, hp, hb, ho, hv, _⟩ := h
  rcases hp with rfl | rfl
  · exact .inl ⟨Nat.le_refl _, v, hb, ho, hv⟩
  · exact .inr ⟨Nat.le_refl _, v, hb, ho, hv⟩
theorem bld_of {T e : TypeId} {b : Nat} {l : List UInt8} {D : Dirty} {w : World} (h : Lib.IsBuilder T e b b (Lib.byteCells l) w) : (Res.bld T e b w.heap.size l).P D w := by
  have aux : ∀ p, (p = .pointer none ∨ p = .pointer (some ⟨b, 0, none⟩)) → Lib.BuilderAt T e b b p (Lib.byteCells l) w → (Res.bld T e b w.heap.size l).P D w := by
    rintro p hp ⟨_, v, hb, ho, hv⟩
    refine ⟨p, v, hp, hb, ho, hv, (Array.getElem?_eq_some_iff.1 hb).1, fun g hg => ?_, Nat.le_refl _, fun _ => trivial⟩
    rcases ho.2 with ⟨rfl, _⟩ | ⟨g', cap, cur, rfl, _, hcur, _⟩
    · cases hg
    · have : g' = g := by simpa [Value.ownBlock] using hg
      subst this
      exact (Array.getElem?_eq_some_iff.1 hcur).1
  rcases h with h | h
  · exact aux _ (.inl rfl) h
  · exact aux _ (.inr rfl) h

section
variable {P : Program} {ops : Array Oper} {Q : Exit → Act → World → Prop} {rest : List Oper} {a : Act} {w w' : World} {d : Nat} {ty : TypeId} {ps : String} {af : Array Edge}
variable {N : Nat} {F0 : Nat → Prop} {D0 : Dirty} {w0 : World} {R : List Res} {E : List Ent}
variable {t : TypeId}

theorem op_bldalloc (S : St N F0 D0 w0 a w R E) (hp : okPut N d E = true) (e : TypeId) (hz : ∀ w, (zeroValue t).run P w = .ok (.agg #[.pointer none, .slice none 0 0]) w)
    (k : ∀ b n a' w', w'.heap.size = n → w'.heap[b]? = some (.cells #[.pointer none, .slice none 0 0] t (0, 0)) → St N F0 D0 w0 a' w' (Res.bld t e b n [] :: R) (⟨d, Value, cRaw, ptr b 0⟩ :: E) → wpList P ops Q rest a' w') : wpList P ops Q (⟨some d, .alloc t, ty, ps, af, none⟩ :: rest) a w := by
  have hnew : (w.alloc (.cells #[.pointer none, .slice none 0 0] t)).heap[w.heap.size]? = some (.cells #[.pointer none, .slice none 0 0] t (0, 0)) := heap_alloc_new w _
  have hb : Below w.heap.size w (w.alloc (.cells #[.pointer none, .slice none 0 0] t)) := (Below.refl _ _).alloc (Nat.le_refl _) _
  refine wpl_val (v := ptr w.heap.size 0) (w' := w.alloc (.cells #[.pointer none, .slice none 0 0] t)) ?_ (k w.heap.size _ _ _ rfl hnew (St.put (c := cRaw) (S.gain hb (Res.bld t e w.heap.size _ []) (fun k hk => hk.1) (bld_of (Lib.fresh_isBuilder t e w))) (cPlain_mk (f := id) _) hp))
  simp only [execOp, Instr.alloc, Sem.run_bind, hz w, Result.andThen_ok]
  rfl
/-- a call that writes into the builder -/
theorem op_bldcall (S : St N F0 D0 w0 a w R E) (hp : okPut N d E = true) (j : Nat) {T e : TypeId} {b n : Nat} {l l' : List UInt8} (hj : R[j]? = some (Res.bld T e b n l)) (hn : w.heap.size = n) {K : FuncId} {args : List Operand} {ats : Array TypeId} (hcf : ∀ args w, (callFunc K args).run P w = .ok (.enter K args) w)
    (hc : Lib.IsBuilder T e b b (Lib.byteCells l) w → b ≤ w.heap.size → Calls P K (args.map a.eval).toArray w (fun en w' => (∃ v, en = .returned v) ∧ Lib.IsBuilder T e b b (Lib.byteCells l') w' ∧ Below b w w'))
    (k : ∀ n' a' w', w'.heap.size = n' → St N F0 D0 w0 a' w' (R.set j (Res.bld T e b n' l')) E → wpList P ops Q rest a' w') : wpList P ops Q (⟨some d, .call { callee := .value (.func K), args := args.toArray, argTypes := ats }, ty, ps, af, none⟩ :: rest) a w := by
  have hr := S.resAt j hj
  have hbn : b < n := by obtain ⟨_, _, _, _, _, _, h, _⟩ := hr; exact h
  refine wpl_call (run_callv hcf) (by rw [List.map_toArray]; exact hc (bld_is hr) (by omega)) ?_
  rintro en w' ⟨⟨v, rfl⟩, hb', hbl⟩
  refine ⟨v, rfl, k w'.heap.size _ _ rfl (St.off (S.turn j hj (Res.bld T e b w'.heap.size l') ⟨hbl.os, hbl.tape, hbl.output, hbl.size, fun k hk hf => hbl.block k ?_⟩ (fun k hk => ?_) (fun _ => bld_of hb')) hp)⟩
  · have : ¬ (b ≤ k ∧ k < n) := hf
    omega
  · have hk' : b ≤ k ∧ k < w'.heap.size := hk
    show (b ≤ k ∧ k < n) ∨ _
    omega
/-- the builder's string; it is let go -/
theorem op_bldstr (S : St N F0 D0 w0 a w R E) (hp : okPut N d E = true) (j : Nat) {T e : TypeId} {b n : Nat} {l : List UInt8} (hj : R[j]? = some (Res.bld T e b n l)) (hn : w.heap.size = n) {K : FuncId} {args : List Operand} {ats : Array TypeId} (hcf : ∀ args w, (callFunc K args).run P w = .ok (.enter K args) w)
    (hc : Lib.IsBuilder T e b b (Lib.byteCells l) w → b ≤ w.heap.size → Calls P K (args.map a.eval).toArray w (fun en w' => en = .returned (.string ⟨l.toArray⟩) ∧ Below b w w'))
    (k : ∀ a' w', St N F0 D0 w0 a' w' (R.eraseIdx j) (⟨d, List UInt8, cStr, l⟩ :: E) → wpList P ops Q rest a' w') : wpList P ops Q (⟨some d, .call { callee := .value (.func K), args := args.toArray, argTypes := ats }, ty, ps, af, none⟩ :: rest) a w := by
  have hr := S.resAt j hj
  have hbn : b < n := by obtain ⟨_, _, _, _, _, _, h, _⟩ := hr; exact h
  refine wpl_call (run_callv hcf) (by rw [List.map_toArray]; exact hc (bld_is hr) (by omega)) ?_
  rintro en w' ⟨rfl, hbl⟩
  have T1 := S.turn j hj Res.nix ⟨hbl.os, hbl.tape, hbl.output, hbl.size, fun k hk hf => hbl.block k (by
    have : ¬ (b ≤ k ∧ k < n) := hf
    omega)⟩ (fun k hk => hk.elim) (fun _ => trivial)
  have T2 := T1.lose j
  rw [show (R.set j Res.nix).eraseIdx j = R.eraseIdx j by
    apply List.ext_getElem?
    intro i
    simp only [List.getElem?_eraseIdx]
    split
    · rw [List.getElem?_set_ne (by omega)]
    · rw [List.getElem?_set_ne (by omega)]] at T2
  exact ⟨_, rfl, k _ _ (St.put (c := cStr) T2 (cPlain_mk (f := strV) l) hp)⟩
end
theorem byte_cat (l : List UInt8) (c : Int) (h : 0 ≤ c ∧ c < 256) : Lib.byteCells l ++ [Value.int .u8 c] = Lib.byteCells (l ++ [UInt8.ofNat c.toNat]) := by
  have : ((UInt8.ofNat c.toNat).toNat : Int) = c := by
    rw [UInt8.toNat_ofNat']; omega
  show _ = (l ++ [UInt8.ofNat c.toNat]).map _
  rw [List.map_append, List.map_cons, List.map_nil, this]
  rfl
theorem str_cat (l s : List UInt8) : Lib.byteCells l ++ Lib.strCells ⟨s.toArray⟩ = Lib.byteCells (l ++ s) := by
  simp [Lib.byteCells, Lib.strCells]
end Go.Tw
