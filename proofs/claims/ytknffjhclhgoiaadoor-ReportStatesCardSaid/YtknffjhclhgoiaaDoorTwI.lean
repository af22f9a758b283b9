/- The typed walk, part I: names for what goes on behind; guarded operations; results in memory. -/
import Derived.Test.YtknffjhclhgoiaaDoorTwH
set_option linter.unusedVariables false
set_option linter.unusedSimpArgs false
namespace Go.Tw
open Go Go.RowKit

section
variable {P : Program} {Q : Exit → Act → World → Prop} {N : Nat} {F0 : Nat → Prop} {D0 : Dirty} {w0 w : World} {a : Act} {R : List Res} {E : List Ent}
theorem St.int (S : St N F0 D0 w0 a w R E) (i : Nat) {s : Nat} {k : IntKind} {x : Int} (h : E[i]? = some ⟨s, Int, cInt k, x⟩) : a.eval (.tmp s) = .int k x := S.pl i h
theorem St.bool (S : St N F0 D0 w0 a w R E) (i : Nat) {s : Nat} {x : Bool} (h : E[i]? = some ⟨s, Bool, cBool, x⟩) : a.eval (.tmp s) = .bool x := S.pl i h
theorem St.str (S : St N F0 D0 w0 a w R E) (i : Nat) {s : Nat} {x : List UInt8} (h : E[i]? = some ⟨s, List UInt8, cStr, x⟩) : a.eval (.tmp s) = strV x := S.pl i h
theorem St.raw (S : St N F0 D0 w0 a w R E) (i : Nat) {s : Nat} {x : Value} (h : E[i]? = some ⟨s, Value, cRaw, x⟩) : a.eval (.tmp s) = x := S.pl (f := id) i h
theorem St.off (S : St N F0 D0 w0 a w R E) {d : Nat} (hp : okPut N d E = true) {v : Value} : St N F0 D0 w0 (a.put (some d) v) w R E :=
  (S.put (c := cRaw) (x := v) (cPlain_mk (f := id) v) hp).sub fun _ h => List.mem_cons_of_mem _ h

/-- The end of a piece of code under a name. -/
theorem wp_k {c : Code} (h : ∀ K : Act → World → Prop, (∀ a w, Q .normal a w → K a w) → c.wp P (Exit.then K Q) a w) : c.wp P Q a w :=
  wp_mono (h _ fun _ _ h => h) fun e a w hq => by cases e <;> exact hq
/-- All that goes on behind under a name. -/
theorem wp_q {c : Code} (h : ∀ Q' : Exit → Act → World → Prop, (∀ e a w, Q e a w → Q' e a w) → c.wp P Q' a w) : c.wp P Q a w := h _ fun _ _ _ h => h

variable {l : List Oper} {rest : List Oper} {d : Nat} {op : Op} {ty : TypeId} {ps : String} {af : Array Edge} {j dj : Nat} {want : Bool} {oj : Oper}
theorem yield_of {b : Bool} (hj : l[j]? = some oj) (hd : oj.dst = some dj) (hv : a.eval (.tmp dj) = .bool b) : yielded l.toArray a.tmps j = some b := by
  have hv' : (a.tmps[dj]?).getD undef = .bool b := by simpa [Act.eval] using hv
  cases h : a.tmps[dj]? with
  | none => rw [h] at hv'; exact absurd hv' (by simp [undef])
  | some u =>
    rw [h] at hv'
    have hu : u = .bool b := hv'
    subst hu
    simp [yielded, hj, hd, h]
theorem wpl_on (hj : l[j]? = some oj) (hd : oj.dst = some dj) {b : Bool} (hv : a.eval (.tmp dj) = .bool b) (hb : b = want) (h : wpList P l.toArray Q (⟨some d, op, ty, ps, af, none⟩ :: rest) a w) :
    wpList P l.toArray Q (⟨some d, op, ty, ps, af, some (j, want)⟩ :: rest) a w := by
  subst hb
  have hw : Region.wanted ⟨some d, op, ty, ps, af, some (j, b)⟩ (yielded l.toArray a.tmps) = true := by
    simp [Region.wanted, yield_of hj hd hv]
  have h2 : Region.wanted ⟨some d, op, ty, ps, af, none⟩ (yielded l.toArray a.tmps) = true := rfl
  simp only [wpList, hw, h2, if_true] at h ⊢
  exact h
theorem wpl_off (hj : l[j]? = some oj) (hd : oj.dst = some dj) {b : Bool} (hv : a.eval (.tmp dj) = .bool b) (hb : b = !want) (h : wpList P l.toArray Q rest (a.put (some d) undef) w) :
    wpList P l.toArray Q (⟨some d, op, ty, ps, af, some (j, want)⟩ :: rest) a w := by
  subst hb
  refine wpList_skip ?_ h
  simp [Region.wanted, yield_of hj hd hv]
end

section
variable {P : Program} {N : Nat} {D0 : Dirty} {w0 w : World} {a : Act} {R : List Res} {E : List Ent}
/-- what a variable in memory holds, as a result -/
theorem cellv (S : St N (fun _ => False) D0 w0 a w R E) (i j : Nat) {p b : Nat} {t : TypeId} {α : Type} {c : Codec α} {x : α} (hi : E[i]? = some ⟨p, Value, cRaw, ptr b 0⟩) (hj : R[j]? = some (Res.box b t c x))
    (ha : ∀ w, (isAgg t).run P w = .ok c.agg w) (hs : ∀ w, (sizeOf t).run P w = .ok c.size w) :
    ∃ v ad, a.tmps.getD p undef = .pointer (some ad) ∧ (loadVar t ad).run P w = .ok v w ∧ c.val D0 w v x := by
  obtain ⟨cur, hb, he⟩ := S.resAt j hj
  have hl : cur.size = c.size := by have := c.len he; simpa using this
  have hp : a.tmps.getD p undef = ptr b 0 := S.raw i hi
  have he0 : c.enc D0 w cur.toList x := c.stay he (Keep.less fun k _ hd => .inl hd)
  refine ⟨c.pack ((cur.toList.drop 0).take c.size), _, hp, ?_, ?_⟩
  · exact run_loadVar_at (c := c) (D := D0) (x := x) (ha w) (hs w) hb (by omega)
  · rw [List.drop_zero, ← hl, ← Array.length_toList, List.take_length]
    exact Codec.val.of_enc he0
theorem cellr (S : St N (fun _ => False) D0 w0 a w R E) (i : Nat) {p : Nat} {t : TypeId} {α : Type} {c : Codec α} {x : α} (hi : E[i]? = some ⟨p, α, cRef c, x⟩)
    (ha : ∀ w, (isAgg t).run P w = .ok c.agg w) (hs : ∀ w, (sizeOf t).run P w = .ok c.size w) :
    ∃ v ad, a.tmps.getD p undef = .pointer (some ad) ∧ (loadVar t ad).run P w = .ok v w ∧ c.val D0 w v x := by
  obtain ⟨g, o, es, hv, ⟨_, cur, tb, fr, hg, h1, h2⟩, he⟩ := cRef_val (S.val0 i hi)
  have hl := c.len he
  refine ⟨c.pack es, _, hv, ?_, Codec.val.of_enc he⟩
  rw [run_loadVar_at (c := c) (D := D0) (x := x) (ha w) (hs w) hg (by omega), ← hl, h2]
theorem retc {fn : Func} {α : Type} {c : Codec α} {x : α} {p : Nat} {t : TypeId} (S : St N (fun _ => False) D0 w0 a w R E) (hres : fn.results = #[.cell p t])
    (h : ∃ v ad, a.tmps.getD p undef = .pointer (some ad) ∧ (loadVar t ad).run P w = .ok v w ∧ c.val D0 w v x) : bodyPost P fn (Ret c D0 w0 x) .ret a w := by
  obtain ⟨v, ad, hp, hv, hx⟩ := h
  refine ⟨S.defs, v, ?_, v, rfl, S.chg.below, hx⟩
  have hp' : (a.tmps[p]?).getD undef = .pointer (some ad) := by simpa using hp
  simp [results, hres, hp', asAddr, hv]
theorem retct {fn : Func} {α β : Type} {c : Codec α} {e : Codec β} {x : α} {y : β} {p s : Nat} {t : TypeId} (S : St N (fun _ => False) D0 w0 a w R E) (hres : fn.results = #[.cell p t, .tmp s])
    (h : ∃ v ad, a.tmps.getD p undef = .pointer (some ad) ∧ (loadVar t ad).run P w = .ok v w ∧ c.val D0 w v x) (i : Nat) (hi : E[i]? = some ⟨s, β, e, y⟩) : bodyPost P fn (Ret (cTup2 c e) D0 w0 (x, y)) .ret a w := by
  obtain ⟨v, ad, hp, hv, hx⟩ := h
  refine ⟨S.defs, .tuple #[v, a.tmps.getD s undef], ?_, _, rfl, S.chg.below, _, ⟨_, _, rfl, hx, S.val0 i hi⟩, rfl⟩
  have hp' : (a.tmps[p]?).getD undef = .pointer (some ad) := by simpa using hp
  simp [results, hres, hp', asAddr, hv]
theorem retctt {fn : Func} {α β γ : Type} {c : Codec α} {e : Codec β} {f : Codec γ} {x : α} {y : β} {z : γ} {p s u : Nat} {t : TypeId} (S : St N (fun _ => False) D0 w0 a w R E) (hres : fn.results = #[.cell p t, .tmp s, .tmp u])
    (h : ∃ v ad, a.tmps.getD p undef = .pointer (some ad) ∧ (loadVar t ad).run P w = .ok v w ∧ c.val D0 w v x) (i j : Nat) (hi : E[i]? = some ⟨s, β, e, y⟩) (hj : E[j]? = some ⟨u, γ, f, z⟩) : bodyPost P fn (Ret (cTup3 c e f) D0 w0 (x, y, z)) .ret a w := by
  obtain ⟨v, ad, hp, hv, hx⟩ := h
  refine ⟨S.defs, .tuple #[v, a.tmps.getD s undef, a.tmps.getD u undef], ?_, _, rfl, S.chg.below, _, ⟨_, _, _, rfl, hx, S.val0 i hi, S.val0 j hj⟩, rfl⟩
  have hp' : (a.tmps[p]?).getD undef = .pointer (some ad) := by simpa using hp
  simp [results, hres, hp', asAddr, hv]
end

/-! ### Zero values -/
def ZeroOf {α : Type} (c : Codec α) (cells : List Value) (x : α) : Prop := ∀ D w, c.enc D w cells x
theorem zero_int (k : IntKind) : ZeroOf (cInt k) [.int k 0] 0 := fun _ _ => rfl
theorem zero_bool : ZeroOf cBool [.bool false] false := fun _ _ => rfl
theorem zero_str : ZeroOf cStr [.string ⟨#[]⟩] [] := fun _ _ => rfl
theorem zero_slice {α : Type} (c : Codec α) : ZeroOf (cSlice c) [.slice none 0 0] [] := fun _ _ => ⟨none, 0, rfl, Nat.le_refl _, by simp, fun h => absurd rfl h⟩
theorem zero_prod {α β : Type} {c : Codec α} {d : Codec β} {p q : List Value} {x : α} {y : β} (h : ZeroOf c p x) (k : ZeroOf d q y) : ZeroOf (cProd c d) (p ++ q) (x, y) := fun D w => ⟨p, q, rfl, h D w, k D w⟩
theorem zero_map {α β : Type} {g : β → α} {c : Codec α} {p : List Value} {y : β} (h : ZeroOf c p (g y)) : ZeroOf (cMap g c) p y := fun D w => h D w
def repCells (p : List Value) : Nat → List Value
  | 0 => []
  | n + 1 => p ++ repCells p n
theorem zero_arr {α : Type} {c : Codec α} {p : List Value} {x : α} (h : ZeroOf c p x) (n : Nat) : ZeroOf (cArr n c) (repCells p n) (List.replicate n x) := fun D w => by
  refine ⟨List.length_replicate, ?_⟩
  induction n with
  | zero => rfl
  | succ n ih => exact ⟨p, _, rfl, h D w, ih⟩
end Go.Tw
