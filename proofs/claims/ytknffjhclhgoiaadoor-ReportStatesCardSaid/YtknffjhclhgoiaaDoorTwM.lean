/- The typed walk, part M: what == of records and arrays tells. -/
import Derived.Test.YtknffjhclhgoiaaDoorTwL
import Derived.ChangeKeysEq
set_option linter.unusedVariables false
set_option linter.unusedSimpArgs false
namespace Go.Tw
open Go Go.RowKit

/-- == of what c tells, n deep, tells whether it is one. -/
def EqOf {α : Type} (P : Program) (t : TypeId) (n : Nat) (c : Codec α) : Prop :=
  ∀ d D w u v (x y : α), n ≤ d → c.val D w u x → c.val D w v y → ∃ b, (Op.equalIn d t u v).run P w = .ok b w ∧ (b = true ↔ x = y)
theorem EqOf.up {α : Type} {P : Program} {t : TypeId} {n m : Nat} {c : Codec α} (h : EqOf P t n c) (hm : Nat.ble n m = true) : EqOf P t m c :=
  fun d D w u v x y hd => h d D w u v x y (Nat.le_trans (by simpa using hm) hd)

section
variable {P : Program} {t e : TypeId}
theorem eq_int {k : IntKind} (hu : P.underlying t = some (.int k)) : EqOf P t 1 (cInt k) := by
  intro d D w u v x y hd hx hy
  obtain ⟨d, rfl⟩ : ∃ z, d = z + 1 := ⟨d - 1, by omega⟩
  rw [cPlain_val.1 hx, cPlain_val.1 hy]
  exact ⟨_, run_equalIn_int w d t k k x y hu, by simp⟩
theorem eq_bool (hu : P.underlying t = some .bool) : EqOf P t 1 cBool := by
  intro d D w u v x y hd hx hy
  obtain ⟨d, rfl⟩ : ∃ z, d = z + 1 := ⟨d - 1, by omega⟩
  rw [cPlain_val.1 hx, cPlain_val.1 hy]
  exact ⟨_, run_equalIn_bool' w d t x y hu, by simp⟩
theorem eq_str (hu : P.underlying t = some .string) : EqOf P t 1 cStr := by
  intro d D w u v x y hd hx hy
  obtain ⟨d, rfl⟩ : ∃ z, d = z + 1 := ⟨d - 1, by omega⟩
  rw [cPlain_val.1 hx, cPlain_val.1 hy]
  refine ⟨(⟨x.toArray⟩ : ByteArray) == ⟨y.toArray⟩, by simp [strV, Op.equalIn, run_underlying hu], ?_⟩
  show (x.toArray == y.toArray) = true ↔ x = y
  simp
theorem run_part_at {α : Type} {c : Codec α} {w : World} {es : List Value} {o : Nat} (ha : ∀ w, (isAgg t).run P w = .ok c.agg w) (hs : ∀ w, (sizeOf t).run P w = .ok c.size w) (h : o + c.size ≤ es.length) :
    (part t es.toArray o).run P w = .ok (c.pack ((es.drop o).take c.size)) w := by
  simp only [part, Sem.run_bind, ha w, Result.andThen_ok, Codec.pack]
  cases hagg : c.agg
  · have h1 := c.one hagg
    have hlt : o < es.length := by omega
    simp [hlt, h1, List.head?_take, List.head?_drop]
  · simp [hs w]
/-- fields, one behind the other -/
inductive EqParts {α : Type} (P : Program) (n : Nat) (c : Codec α) : List Field → (α → α → Prop) → Prop
  | nil : EqParts P n c [] (fun _ _ => True)
  | cons {β : Type} {e : Codec β} {f : Field} {fs : List Field} {k : Nat} {get : α → β} {set : β → α → α} {q : α → α → Prop} : EqOf P f.type k e → Nat.ble k n = true → Lens c e f.offset get set →
      (∀ w, (isAgg f.type).run P w = .ok e.agg w) → (∀ w, (sizeOf f.type).run P w = .ok e.size w) → (f.name != "_") = true → EqParts P n c fs q → EqParts P n c (f :: fs) (fun x y => get x = get y ∧ q x y)
theorem eqParts_run {α : Type} {n : Nat} {c : Codec α} {fs : List Field} {q : α → α → Prop} (h : EqParts P n c fs q) : ∀ {d : Nat} {D : Dirty} {w : World} {us vs : List Value} {x y : α}, n ≤ d → c.enc D w us x → c.enc D w vs y →
    ∃ b, (Op.eqFields d us.toArray vs.toArray fs).run P w = .ok b w ∧ (b = true ↔ q x y) := by
  induction h with
  | nil => intro d D w us vs x y _ _ _; exact ⟨true, by simp [Op.eqFields], by simp⟩
  | cons he hk L ha hs hn _ ih =>
    intro d D w us vs x y hd hx hy
    rename_i e f fs k get set q hq
    have hfx := L.fits hx
    have hlx := c.len hx
    have hly := c.len hy
    obtain ⟨b, hb, hbi⟩ := he d D w _ _ _ _ (Nat.le_trans (by simpa using hk) hd) (Codec.val.of_enc (L.read hx)) (Codec.val.of_enc (L.read hy))
    obtain ⟨r, hr, hri⟩ := ih hd hx hy
    have hn' : ¬ (f.name = "_") := by simpa using hn
    simp only [Op.eqFields, ne_eq, hn', not_false_eq_true, if_true, Sem.run_bind, run_part_at (c := e) ha hs (show f.offset + e.size ≤ us.length by omega), run_part_at (c := e) ha hs (show f.offset + e.size ≤ vs.length by omega), hb, Result.andThen_ok]
    cases b
    · exact ⟨false, by simp, by
        constructor
        · intro h; cases h
        · intro h; exact absurd (hbi.2 h.1) (by simp)⟩
    · exact ⟨r, by simpa using hr, by rw [hri]; constructor
                                      · intro h; exact ⟨hbi.1 rfl, h⟩
                                      · exact fun h => h.2⟩
theorem EqOf.struct {α : Type} {n : Nat} {c : Codec α} {fs : Array Field} {q : α → α → Prop} (hu : P.underlying t = some (.struct fs)) (hp : P.stoodInHeld t = false) (hc : c.agg = true) (h : EqParts P n c fs.toList q) (hq : ∀ x y, q x y ↔ x = y) : EqOf P t (n + 1) c := by
  intro d D w u v x y hd hx hy
  obtain ⟨d, rfl⟩ : ∃ z, d = z + 1 := ⟨d - 1, by omega⟩
  obtain ⟨us, hus, rfl⟩ := hx
  obtain ⟨vs, hvs, rfl⟩ := hy
  have hfs : P.fieldsOf t = fs := by simp [Program.fieldsOf, hu]
  obtain ⟨b, hb, hbi⟩ := eqParts_run h (d := d) (by omega) hus hvs
  refine ⟨b, ?_, hbi.trans (hq x y)⟩
  simp only [Codec.pack, hc, if_true]
  rw [run_equalIn_agg w d t _ _ (by rw [hfs]; exact hu) hp, hfs]
  exact hb
theorem eqItems_run {α : Type} {n : Nat} {c : Codec α} (he : EqOf P e n c) (ha : ∀ w, (isAgg e).run P w = .ok c.agg w) (hs : ∀ w, (sizeOf e).run P w = .ok c.size w) {d : Nat} {D : Dirty} {w : World} (hd : n ≤ d) {us vs : List Value} {xs ys : List α} (hl : xs.length = ys.length) (hx : encList c D w us xs) (hy : encList c D w vs ys) :
    ∀ (m i : Nat), i + m = xs.length → ∃ b, (Op.eqItems d e c.size us.toArray vs.toArray (List.range' i m)).run P w = .ok b w ∧ (b = true ↔ xs.drop i = ys.drop i) := by
  intro m
  induction m with
  | zero => intro i hi; exact ⟨true, by simp [Op.eqItems], by rw [List.drop_of_length_le (by omega), List.drop_of_length_le (by omega)]; simp⟩
  | succ m ih =>
    intro i hi
    have h1 := encList_get hx (i := i) (by omega)
    have h2 := encList_get hy (i := i) (by omega)
    have hlx := encList_len hx
    have hly := encList_len hy
    have hsz : i * c.size + c.size ≤ xs.length * c.size := by rw [← Nat.succ_mul]; exact Nat.mul_le_mul_right _ (by omega)
    obtain ⟨b, hb, hbi⟩ := he d D w _ _ _ _ hd (Codec.val.of_enc h1) (Codec.val.of_enc h2)
    obtain ⟨r, hr, hri⟩ := ih (i + 1) (by omega)
    have e1 : xs.drop i = xs[i] :: xs.drop (i + 1) := (List.getElem_cons_drop (h := by omega)).symm
    have e2 : ys.drop i = ys[i] :: ys.drop (i + 1) := (List.getElem_cons_drop (h := by omega)).symm
    simp only [List.range'_succ, Op.eqItems, Sem.run_bind, run_part_at (c := c) ha hs (show i * c.size + c.size ≤ us.length by omega), run_part_at (c := c) ha hs (show i * c.size + c.size ≤ vs.length by rw [hly, ← hl]; exact hsz), hb, Result.andThen_ok]
    rw [e1, e2, List.cons.injEq]
    cases b
    · exact ⟨false, by simp, by
        constructor
        · intro h; cases h
        · intro h; exact absurd (hbi.2 h.1) (by simp)⟩
    · exact ⟨r, by simpa using hr, by rw [hri]; constructor
                                      · intro h; exact ⟨hbi.1 rfl, h⟩
                                      · exact fun h => h.2⟩
theorem eq_arr {α : Type} {n k : Nat} {c : Codec α} (hu : P.underlying t = some (.array k e)) (hi : (P.info? e).isSome = true) (he : EqOf P e n c) (ha : ∀ w, (isAgg e).run P w = .ok c.agg w) (hs : ∀ w, (sizeOf e).run P w = .ok c.size w) : EqOf P t (n + 1) (cArr k c) := by
  intro d D w u v x y hd hx hy
  obtain ⟨d, rfl⟩ : ∃ z, d = z + 1 := ⟨d - 1, by omega⟩
  obtain ⟨us, ⟨hlx, hus⟩, rfl⟩ := hx
  obtain ⟨vs, ⟨hly, hvs⟩, rfl⟩ := hy
  obtain ⟨i, hi⟩ := Option.isSome_iff_exists.1 hi
  have hce : P.cellsOf e = c.size := by
    have h1 := run_sizeOf w hi (P := P)
    rw [hs w] at h1
    injection h1 with h1
    exact h1.symm
  obtain ⟨b, hb, hbi⟩ := eqItems_run he ha hs (d := d) (by omega) (by omega) hus hvs k 0 (by omega)
  refine ⟨b, ?_, by simpa using hbi⟩
  show (Op.equalIn (d + 1) t (.agg us.toArray) (.agg vs.toArray)).run P w = _
  rw [run_equalIn_array w d _ _ hu hi, hce, List.range_eq_range']
  exact hb
end

section
variable {P : Program} {ops : Array Oper} {Q : Exit → Act → World → Prop} {rest : List Oper} {a : Act} {w w' : World} {d : Nat} {ty : TypeId} {ps : String} {af : Array Edge}
variable {N : Nat} {F0 : Nat → Prop} {D0 : Dirty} {w0 : World} {R : List Res} {E : List Ent}
variable {t t' : TypeId} {y z : Operand}
theorem op_eqv (S : St N F0 D0 w0 a w R E) (hp : okPut N d E = true) {α : Type} [DecidableEq α] {c : Codec α} {n : Nat} {u v : α} (he : EqOf P t n c) (hn : Nat.ble n 10000 = true) (hg : P.eqGuardType P.depth t = false) (hc : c.agg = true) (hy : c.val (dirt D0 R) w (a.eval y) u) (hz : c.val (dirt D0 R) w (a.eval z) v)
    (k : ∀ a', St N F0 D0 w0 a' w R (⟨d, Bool, cBool, decide (u = v)⟩ :: E) → wpList P ops Q rest a' w) : wpList P ops Q (⟨some d, .binOp .eql t y z t', ty, ps, af, none⟩ :: rest) a w := by
  obtain ⟨b, hb, hbi⟩ := he 10000 _ w _ _ _ _ (by simpa using hn) hy hz
  obtain ⟨us, _, hu⟩ := hy
  obtain ⟨vs, _, hv⟩ := hz
  simp only [Codec.pack, hc, if_true] at hu hv
  rw [hu, hv] at hb
  have hbe : b = decide (u = v) := by rw [Bool.eq_iff_iff, hbi, decide_eq_true_iff]
  subst hbe
  refine op_val S hp (v := .bool (decide (u = v))) ?_ (cPlain_mk _) k
  simp only [execOp, hu, hv, Sem.run_bind, run_eqGuard_agg w .eql t y z _ _ hg, Result.andThen_ok, run_eql_struct, hb]
  rfl
theorem op_nev (S : St N F0 D0 w0 a w R E) (hp : okPut N d E = true) {α : Type} [DecidableEq α] {c : Codec α} {n : Nat} {u v : α} (he : EqOf P t n c) (hn : Nat.ble n 10000 = true) (hg : P.eqGuardType P.depth t = false) (hc : c.agg = true) (hy : c.val (dirt D0 R) w (a.eval y) u) (hz : c.val (dirt D0 R) w (a.eval z) v)
    (k : ∀ a', St N F0 D0 w0 a' w R (⟨d, Bool, cBool, !decide (u = v)⟩ :: E) → wpList P ops Q rest a' w) : wpList P ops Q (⟨some d, .binOp .neq t y z t', ty, ps, af, none⟩ :: rest) a w := by
  obtain ⟨b, hb, hbi⟩ := he 10000 _ w _ _ _ _ (by simpa using hn) hy hz
  obtain ⟨us, _, hu⟩ := hy
  obtain ⟨vs, _, hv⟩ := hz
  simp only [Codec.pack, hc, if_true] at hu hv
  rw [hu, hv] at hb
  have hbe : b = decide (u = v) := by rw [Bool.eq_iff_iff, hbi, decide_eq_true_iff]
  subst hbe
  refine op_val S hp (v := .bool (!decide (u = v))) ?_ (cPlain_mk _) k
  simp only [execOp, hu, hv, Sem.run_bind, run_eqGuard_agg w .neq t y z _ _ hg, Result.andThen_ok, run_neq_struct, hb]
  rfl
/-- a guarded operation that isn't wanted -/
theorem op_off {l : List Oper} {op : Op} {j dj : Nat} {want b : Bool} {oj : Oper} (S : St N F0 D0 w0 a w R E) (hp : okPut N d E = true) (hj : l[j]? = some oj) (hd : oj.dst = some dj) (hv : a.eval (.tmp dj) = .bool b) (hb : b = !want)
    (k : ∀ a', St N F0 D0 w0 a' w R E → wpList P l.toArray Q rest a' w) : wpList P l.toArray Q (⟨some d, op, ty, ps, af, some (j, want)⟩ :: rest) a w :=
  wpl_off hj hd hv hb (k _ (S.off hp))
end
end Go.Tw
