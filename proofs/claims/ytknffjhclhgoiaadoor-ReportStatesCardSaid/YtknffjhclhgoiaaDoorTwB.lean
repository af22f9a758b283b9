/- The typed walk, part B: the state of a walk: slots and boxes by what they tell; what each operation turns. -/
import Derived.Test.YtknffjhclhgoiaaDoorTwA
set_option linter.unusedVariables false
set_option linter.unusedSimpArgs false
namespace Go.Tw
open Go Go.RowKit

/-- What a slot holds. -/
structure Ent where
  slot : Nat
  α : Type
  c : Codec α
  x : α
def Ent.ok (D : Dirty) (a : Act) (w : World) (e : Ent) : Prop := e.c.val D w (a.tmps.getD e.slot undef) e.x

/-- Memory of the call's own that may change. -/
structure Res where
  foot : Nat → Prop
  P : Dirty → World → Prop
  stay : ∀ {D D' : Dirty} {w w' : World}, P D w → Keep D D' w w' → (∀ k, foot k → k < w.heap.size → w'.heap[k]? = w.heap[k]?) → P D' w'
  lt : ∀ {D : Dirty} {w : World}, P D w → ∀ k, foot k → k < w.heap.size

/-- A variable in memory. -/
def Res.box {α : Type} (b : Nat) (t : TypeId) (c : Codec α) (x : α) : Res where
  foot k := k = b
  P D w := ∃ cur, w.heap[b]? = some (.cells cur t (0, 0)) ∧ c.enc D w cur.toList x
  stay := by
    rintro D D' w w' ⟨cur, hb, he⟩ k h
    exact ⟨cur, (h b rfl (Array.getElem?_eq_some_iff.1 hb).1).trans hb, c.stay he k⟩
  lt := by rintro D w ⟨cur, hb, he⟩ k rfl; exact (Array.getElem?_eq_some_iff.1 hb).1

/-- A row of the call's own, behind the slice value v. -/
def Res.row {α : Type} (v : Value) (e : TypeId) (c : Codec α) (xs : List α) : Res where
  foot k := v.ownBlock = some k
  P D w := ∃ cells, w.ownsRow 0 e c.size v xs.length cells ∧ encList c D w cells xs
  stay := by
    rintro D D' w w' ⟨cells, ho, he⟩ k h
    refine ⟨cells, ⟨ho.1, ?_⟩, encList_stay k he⟩
    rcases ho.2 with h' | ⟨g, cap, cur, hv, hb, hg, r⟩
    · exact .inl h'
    · have hlt := (Array.getElem?_eq_some_iff.1 hg).1
      exact .inr ⟨g, cap, cur, hv, hb, (h g (by rw [hv]; rfl) hlt).trans hg, r⟩
  lt := by rintro D w ⟨cells, ho, he⟩ k hk; exact (ho.lt k hk).2

/-- Since w0 nothing has changed but new blocks and those of F0. -/
structure Chg (F0 : Nat → Prop) (w0 w : World) : Prop where
  os : w.os = w0.os
  tape : w.tape = w0.tape
  output : w.output = w0.output
  size : w0.heap.size ≤ w.heap.size
  blk : ∀ k, k < w0.heap.size → ¬ F0 k → w.heap[k]? = w0.heap[k]?
theorem Chg.refl (F0 : Nat → Prop) (w : World) : Chg F0 w w := ⟨rfl, rfl, rfl, Nat.le_refl _, fun _ _ _ => rfl⟩
theorem Chg.below {w0 w : World} (h : Chg (fun _ => False) w0 w) : Below w0.heap.size w0 w := ⟨h.os, h.tape, h.output, h.size, fun k hk => h.blk k hk (fun h => h)⟩
theorem Chg.of_below {w0 w : World} (h : Below w0.heap.size w0 w) (F : Nat → Prop) : Chg F w0 w := ⟨h.os, h.tape, h.output, h.size, fun k hk _ => h.block k hk⟩
/-- One step more, in which the blocks of T were touched. -/
theorem Chg.step {F0 T : Nat → Prop} {w0 w w' : World} (h : Chg F0 w0 w) (g : Chg T w w') (hT : ∀ k, T k → F0 k ∨ w0.heap.size ≤ k) : Chg F0 w0 w' :=
  ⟨g.os.trans h.os, g.tape.trans h.tape, g.output.trans h.output, Nat.le_trans h.size g.size, fun k hk hF =>
    (g.blk k (Nat.lt_of_lt_of_le hk h.size) (fun hk' => (hT k hk').elim hF (fun h' => absurd hk (by omega)))).trans (h.blk k hk hF)⟩

def dirt (D0 : Dirty) (R : List Res) : Dirty := fun k => D0 k ∨ ∃ r ∈ R, r.foot k

structure St (N : Nat) (F0 : Nat → Prop) (D0 : Dirty) (w0 : World) (a : Act) (w : World) (R : List Res) (E : List Ent) : Prop where
  size : a.tmps.size = N
  defs : a.defers = []
  chg : Chg F0 w0 w
  old : ∀ k, D0 k → k < w0.heap.size
  dis : ∀ k, F0 k → ¬ D0 k
  own : ∀ r ∈ R, ∀ k, r.foot k → F0 k ∨ w0.heap.size ≤ k
  apart : R.Pairwise (fun r s => ∀ k, r.foot k → ¬ s.foot k)
  res : ∀ r ∈ R, r.P (dirt D0 R) w
  ent : ∀ e ∈ E, e.ok (dirt D0 R) a w

section
variable {N : Nat} {F0 : Nat → Prop} {D0 : Dirty} {w0 w : World} {a : Act} {R : List Res} {E : List Ent}

theorem St.at (S : St N F0 D0 w0 a w R E) (i : Nat) {s : Nat} {α : Type} {c : Codec α} {x : α} (h : E[i]? = some ⟨s, α, c, x⟩) : c.val (dirt D0 R) w (a.eval (.tmp s)) x :=
  S.ent _ (List.mem_of_getElem? h)
/-- The same for a value of one plain cell. -/
theorem St.pl (S : St N F0 D0 w0 a w R E) (i : Nat) {s : Nat} {α : Type} {f : α → Value} {x : α} (h : E[i]? = some ⟨s, α, cPlain f, x⟩) : a.eval (.tmp s) = f x :=
  cPlain_val.1 (S.at i h)
theorem St.resAt (S : St N F0 D0 w0 a w R E) (i : Nat) {r : Res} (h : R[i]? = some r) : r.P (dirt D0 R) w := S.res _ (List.mem_of_getElem? h)
theorem St.dirty_lt (S : St N F0 D0 w0 a w R E) : ∀ k, dirt D0 R k → k < w.heap.size := by
  rintro k (h | ⟨r, hr, hk⟩)
  · exact Nat.lt_of_lt_of_le (S.old k h) S.chg.size
  · exact r.lt (S.res r hr) k hk

def okPut (N d : Nat) (E : List Ent) : Bool := Nat.blt d N && E.all fun e => e.slot != d

/-- A slot is written. -/
theorem St.put (S : St N F0 D0 w0 a w R E) {d : Nat} {α : Type} {c : Codec α} {x : α} {v : Value} (hv : c.val (dirt D0 R) w v x) (hp : okPut N d E = true) :
    St N F0 D0 w0 (a.put (some d) v) w R (⟨d, α, c, x⟩ :: E) := by
  simp only [okPut, Bool.and_eq_true, List.all_eq_true, bne_iff_ne] at hp
  obtain ⟨h1, h2⟩ := hp
  have hd : d < a.tmps.size := by rw [S.size]; simpa [Nat.blt_eq] using h1
  refine ⟨by simp [Act.put, S.size], S.defs, S.chg, S.old, S.dis, S.own, S.apart, S.res, ?_⟩
  intro e he
  rcases List.mem_cons.1 he with rfl | he
  · show c.val _ _ ((a.tmps.setIfInBounds d v).getD d undef) x
    rw [show (a.tmps.setIfInBounds d v).getD d undef = v by simp [hd]]
    exact hv
  · have hne := h2 e he
    have := S.ent e he
    show e.c.val _ _ ((a.tmps.setIfInBounds d v).getD e.slot undef) e.x
    rw [show (a.tmps.setIfInBounds d v).getD e.slot undef = a.tmps.getD e.slot undef by simp [Array.getElem?_setIfInBounds_ne (Ne.symm hne)]]
    exact this

/-- Fewer slots are told of. -/
theorem St.sub (S : St N F0 D0 w0 a w R E) {E' : List Ent} (h : ∀ e ∈ E', e ∈ E) : St N F0 D0 w0 a w R E' :=
  ⟨S.size, S.defs, S.chg, S.old, S.dis, S.own, S.apart, S.res, fun e he => S.ent e (h e he)⟩
def pickL (E : List Ent) : List Nat → List Ent
  | [] => []
  | i :: is => match E[i]? with
    | some e => e :: pickL E is
    | none => pickL E is
theorem mem_pickL {E : List Ent} : ∀ {is : List Nat} {e : Ent}, e ∈ pickL E is → e ∈ E
  | i :: is, e, h => by
    unfold pickL at h
    split at h
    · rename_i e' he
      rcases List.mem_cons.1 h with rfl | h
      · exact List.mem_of_getElem? he
      · exact mem_pickL h
    · exact mem_pickL h
theorem St.pick (S : St N F0 D0 w0 a w R E) (is : List Nat) : St N F0 D0 w0 a w R (pickL E is) := S.sub fun _ h => mem_pickL h
theorem St.erase (S : St N F0 D0 w0 a w R E) (i : Nat) : St N F0 D0 w0 a w R (E.eraseIdx i) := S.sub fun _ h => List.mem_of_mem_eraseIdx h

/-- Only new blocks have come. -/
theorem St.grow (S : St N F0 D0 w0 a w R E) {w' : World} (h : Below w.heap.size w w') : St N F0 D0 w0 a w' R E :=
  ⟨S.size, S.defs, S.chg.step (Chg.of_below h (fun _ => False)) (fun _ h => h.elim), S.old, S.dis, S.own, S.apart,
   fun r hr => r.stay (S.res r hr) (Keep.below h) (fun k _ hk => h.block k hk), fun e he => (S.ent e he).stay (Keep.below h)⟩
theorem Below.same_heap {w w' : World} (ho : w'.os = w.os) (ht : w'.tape = w.tape) (hp : w'.output = w.output) (hh : w'.heap = w.heap) : Below w.heap.size w w' :=
  ⟨ho, ht, hp, by rw [hh]; exact Nat.le_refl _, fun k _ => by rw [hh]⟩
theorem below_drew1 (w : World) : Below w.heap.size w { w with drawn := w.drawn + 1 } := Below.same_heap rfl rfl rfl rfl

theorem dirt_cons (D0 : Dirty) (r : Res) (R : List Res) (k : Nat) : dirt D0 (r :: R) k ↔ r.foot k ∨ dirt D0 R k := by
  simp only [dirt, List.mem_cons]
  constructor
  · rintro (h | ⟨s, rfl | hs, hk⟩)
    · exact .inr (.inl h)
    · exact .inl hk
    · exact .inr (.inr ⟨s, hs, hk⟩)
  · rintro (h | h | ⟨s, hs, hk⟩)
    · exact .inr ⟨r, .inl rfl, h⟩
    · exact .inl h
    · exact .inr ⟨s, .inr hs, hk⟩

/-- A new piece of memory of the call's own: its blocks are new. -/
theorem St.gain (S : St N F0 D0 w0 a w R E) {w' : World} (h : Below w.heap.size w w') (r : Res) (hnew : ∀ k, r.foot k → w.heap.size ≤ k) (hr : r.P (dirt D0 (r :: R)) w') :
    St N F0 D0 w0 a w' (r :: R) E := by
  have hk : Keep (dirt D0 R) (dirt D0 (r :: R)) w w' := ⟨h.size, fun k hk _ => h.block k hk, fun k hk hd hd' => by
    rcases (dirt_cons _ _ _ _).1 hd' with hf | hf
    · have := hnew k hf; omega
    · exact hd hf⟩
  refine ⟨S.size, S.defs, S.chg.step (Chg.of_below h (fun _ => False)) (fun _ h => h.elim), S.old, S.dis, ?_, ?_, ?_, fun e he => (S.ent e he).stay hk⟩
  · intro s hs k hk'
    rcases List.mem_cons.1 hs with rfl | hs
    · exact .inr (Nat.le_trans S.chg.size (hnew k hk'))
    · exact S.own s hs k hk'
  · refine List.pairwise_cons.2 ⟨fun s hs k hk' hk'' => ?_, S.apart⟩
    have := s.lt (S.res s hs) k hk''
    have := hnew k hk'
    omega
  · intro s hs
    rcases List.mem_cons.1 hs with rfl | hs
    · exact hr
    · exact s.stay (S.res s hs) hk (fun k _ hk' => h.block k hk')

/-- A piece of memory is no more told of. It isn't dirty any more. -/
theorem St.lose (S : St N F0 D0 w0 a w R E) (i : Nat) : St N F0 D0 w0 a w (R.eraseIdx i) E := by
  have hsub : ∀ r ∈ R.eraseIdx i, r ∈ R := fun r h => List.mem_of_mem_eraseIdx h
  have hk : Keep (dirt D0 R) (dirt D0 (R.eraseIdx i)) w w := Keep.less fun k _ hd => by
    rcases hd with h | ⟨r, hr, hk⟩
    · exact .inl h
    · exact .inr ⟨r, hsub r hr, hk⟩
  exact ⟨S.size, S.defs, S.chg, S.old, S.dis, fun r hr => S.own r (hsub r hr), S.apart.sublist (List.eraseIdx_sublist _ _),
    fun r hr => r.stay (S.res r (hsub r hr)) hk (fun _ _ _ => rfl), fun e he => (S.ent e he).stay hk⟩

/-- One piece of memory turns: its blocks, and new ones. -/
theorem St.turn (S : St N F0 D0 w0 a w R E) {w' : World} (i : Nat) {r : Res} (hi : R[i]? = some r) (r' : Res) (h : Chg r.foot w w')
    (hfoot : ∀ k, r'.foot k → r.foot k ∨ w.heap.size ≤ k)
    (hr : (∀ {α : Type} {c : Codec α} {cs : List Value} {x : α}, c.enc (dirt D0 R) w cs x → c.enc (dirt D0 (R.set i r')) w' cs x) → r'.P (dirt D0 (R.set i r')) w') :
    St N F0 D0 w0 a w' (R.set i r') E := by
  have hlt : i < R.length := (List.getElem?_eq_some_iff.1 hi).1
  have hri : R[i] = r := (List.getElem?_eq_some_iff.1 hi).2
  have hmem : r ∈ R := List.mem_of_getElem? hi
  have hset : ∀ s, s ∈ R.set i r' → s = r' ∨ ∃ j, j ≠ i ∧ R[j]? = some s := by
    intro s hs
    obtain ⟨j, hj⟩ := List.mem_iff_getElem?.1 hs
    by_cases hji : j = i
    · subst hji
      rw [List.getElem?_set_self hlt] at hj
      exact .inl (Option.some.inj hj).symm
    · rw [List.getElem?_set_ne (Ne.symm hji)] at hj
      exact .inr ⟨j, hji, hj⟩
  have hap : ∀ j s, j ≠ i → R[j]? = some s → ∀ k, r.foot k → ¬ s.foot k := by
    intro j s hji hj k hk hk'
    have hjl : j < R.length := (List.getElem?_eq_some_iff.1 hj).1
    have hrj : R[j] = s := (List.getElem?_eq_some_iff.1 hj).2
    rcases Nat.lt_or_gt_of_ne hji with hlt' | hlt'
    · exact (List.pairwise_iff_getElem.1 S.apart j i hjl hlt hlt') k (hrj ▸ hk') (hri ▸ hk)
    · exact (List.pairwise_iff_getElem.1 S.apart i j hlt hjl hlt') k (hri ▸ hk) (hrj ▸ hk')
  have hk : Keep (dirt D0 R) (dirt D0 (R.set i r')) w w' := by
    refine ⟨h.size, fun k hk hd => h.blk k hk (fun hf => hd (.inr ⟨r, hmem, hf⟩)), fun k hk hd hd' => ?_⟩
    rcases hd' with h' | ⟨s, hs, hks⟩
    · exact hd (.inl h')
    · rcases hset s hs with rfl | ⟨j, _, hj⟩
      · rcases hfoot k hks with h' | h'
        · exact hd (.inr ⟨r, hmem, h'⟩)
        · omega
      · exact hd (.inr ⟨s, List.mem_of_getElem? hj, hks⟩)
  have hother : ∀ j s, j ≠ i → R[j]? = some s → ∀ k, s.foot k → k < w.heap.size → w'.heap[k]? = w.heap[k]? :=
    fun j s hji hj k hks hk => h.blk k hk (fun hf => hap j s hji hj k hf hks)
  have hfresh : ∀ j s, j ≠ i → R[j]? = some s → ∀ k, r'.foot k → ¬ s.foot k := by
    intro j s hji hj k hk1 hk2
    rcases hfoot k hk1 with h' | h'
    · exact hap j s hji hj k h' hk2
    · have := s.lt (S.res s (List.mem_of_getElem? hj)) k hk2
      omega
  refine ⟨S.size, S.defs, S.chg.step h (fun k hk => S.own r hmem k hk), S.old, S.dis, ?_, ?_, ?_, fun e he => (S.ent e he).stay hk⟩
  · intro s hs k hks
    rcases hset s hs with rfl | ⟨j, _, hj⟩
    · rcases hfoot k hks with h' | h'
      · exact S.own r hmem k h'
      · exact .inr (Nat.le_trans S.chg.size h')
    · exact S.own s (List.mem_of_getElem? hj) k hks
  · rw [List.pairwise_iff_getElem]
    intro p q hp hq hpq k hk1 hk2
    have hp' : p < R.length := by simpa using hp
    have hq' : q < R.length := by simpa using hq
    by_cases hpi : p = i
    · subst hpi
      rw [List.getElem_set_self] at hk1
      rw [List.getElem_set_ne (by omega)] at hk2
      exact hfresh q _ (by omega) (List.getElem?_eq_getElem (l := R) hq') k hk1 hk2
    · by_cases hqi : q = i
      · subst hqi
        rw [List.getElem_set_self] at hk2
        rw [List.getElem_set_ne (by omega)] at hk1
        exact hfresh p _ (by omega) (List.getElem?_eq_getElem (l := R) hp') k hk2 hk1
      · rw [List.getElem_set_ne (by omega)] at hk1 hk2
        exact (List.pairwise_iff_getElem.1 S.apart p q hp' hq' hpq) k hk1 hk2
  · intro s hs
    rcases hset s hs with rfl | ⟨j, hji, hj⟩
    · exact hr (fun he => Codec.stay _ he hk)
    · exact s.stay (S.res s (List.mem_of_getElem? hj)) hk (hother j s hji hj)
end

/-! ### One operation -/
section
variable {P : Program} {ops : Array Oper} {Q : Exit → Act → World → Prop} {rest : List Oper} {a : Act} {w w' : World} {d : Nat} {op : Op} {ty : TypeId} {ps : String} {af : Array Edge}

theorem wpl_val {v : Value} (hrun : (execOp a.eval ⟨some d, op, ty, ps, af, none⟩).run P w = .ok (.value v) w') (k : wpList P ops Q rest (a.put (some d) v) w') :
    wpList P ops Q (⟨some d, op, ty, ps, af, none⟩ :: rest) a w := by
  refine wpList_plain rfl fun K hK => ?_
  unfold Oper.wp
  rw [hrun]
  exact hK _ _ k
theorem wpl_unit (hrun : (execOp a.eval ⟨none, op, ty, ps, af, none⟩).run P w = .ok .skip w') (k : wpList P ops Q rest a w') :
    wpList P ops Q (⟨none, op, ty, ps, af, none⟩ :: rest) a w := by
  refine wpList_plain rfl fun K hK => ?_
  unfold Oper.wp
  rw [hrun]
  exact hK _ _ k
theorem wpl_call {f : FuncId} {args : Array Value} {R : Ending → World → Prop} (hrun : (execOp a.eval ⟨some d, op, ty, ps, af, none⟩).run P w = .ok (.enter f args) w) (hc : Calls P f args w R)
    (k : ∀ e w', R e w' → ∃ v, e = .returned v ∧ wpList P ops Q rest (a.put (some d) v) w') :
    wpList P ops Q (⟨some d, op, ty, ps, af, none⟩ :: rest) a w := by
  refine wpList_plain rfl fun K hK => ?_
  unfold Oper.wp
  rw [hrun]
  refine hc.mono fun e w' hR => ?_
  obtain ⟨v, rfl, hk⟩ := k e w' hR
  exact hK _ _ hk
end
end Go.Tw
