/- The typed walk, part G: results, calls, rows that grow, strings; the code around the operations. -/
import Derived.Test.YtknffjhclhgoiaaDoorTwF
set_option linter.unusedVariables false
set_option linter.unusedSimpArgs false
namespace Go.Tw
open Go Go.RowKit

section
variable {P : Program} {ops : Array Oper} {Q : Exit → Act → World → Prop} {rest : List Oper} {a : Act} {w w' : World} {d : Nat} {ty : TypeId} {ps : String} {af : Array Edge}
variable {N : Nat} {F0 : Nat → Prop} {D0 : Dirty} {w0 : World} {R : List Res} {E : List Ent}
variable {t t' : TypeId} {y z : Operand}

theorem op_ext20 (S : St N F0 D0 w0 a w R E) (hp : okPut N d E = true) {α β : Type} {c : Codec α} {e : Codec β} {x : α × β} (hx : (cTup2 c e).val (dirt D0 R) w (a.eval y) x)
    (k : ∀ a', St N F0 D0 w0 a' w R (⟨d, α, c, x.1⟩ :: E) → wpList P ops Q rest a' w) : wpList P ops Q (⟨some d, .extract y 0, ty, ps, af, none⟩ :: rest) a w := by
  obtain ⟨_, ⟨u, v, rfl, h1, h2⟩, hv⟩ := hx
  exact op_val S hp (v := u) (by simp only [execOp, hv]; rfl) h1 k
theorem op_ext21 (S : St N F0 D0 w0 a w R E) (hp : okPut N d E = true) {α β : Type} {c : Codec α} {e : Codec β} {x : α × β} (hx : (cTup2 c e).val (dirt D0 R) w (a.eval y) x)
    (k : ∀ a', St N F0 D0 w0 a' w R (⟨d, β, e, x.2⟩ :: E) → wpList P ops Q rest a' w) : wpList P ops Q (⟨some d, .extract y 1, ty, ps, af, none⟩ :: rest) a w := by
  obtain ⟨_, ⟨u, v, rfl, h1, h2⟩, hv⟩ := hx
  exact op_val S hp (v := v) (by simp only [execOp, hv]; rfl) h2 k
theorem op_ext30 (S : St N F0 D0 w0 a w R E) (hp : okPut N d E = true) {α β γ : Type} {c : Codec α} {e : Codec β} {f : Codec γ} {x : α × β × γ} (hx : (cTup3 c e f).val (dirt D0 R) w (a.eval y) x)
    (k : ∀ a', St N F0 D0 w0 a' w R (⟨d, α, c, x.1⟩ :: E) → wpList P ops Q rest a' w) : wpList P ops Q (⟨some d, .extract y 0, ty, ps, af, none⟩ :: rest) a w := by
  obtain ⟨_, ⟨u, v, s, rfl, h1, h2, h3⟩, hv⟩ := hx
  exact op_val S hp (v := u) (by simp only [execOp, hv]; rfl) h1 k
theorem op_ext31 (S : St N F0 D0 w0 a w R E) (hp : okPut N d E = true) {α β γ : Type} {c : Codec α} {e : Codec β} {f : Codec γ} {x : α × β × γ} (hx : (cTup3 c e f).val (dirt D0 R) w (a.eval y) x)
    (k : ∀ a', St N F0 D0 w0 a' w R (⟨d, β, e, x.2.1⟩ :: E) → wpList P ops Q rest a' w) : wpList P ops Q (⟨some d, .extract y 1, ty, ps, af, none⟩ :: rest) a w := by
  obtain ⟨_, ⟨u, v, s, rfl, h1, h2, h3⟩, hv⟩ := hx
  exact op_val S hp (v := v) (by simp only [execOp, hv]; rfl) h2 k
theorem op_ext32 (S : St N F0 D0 w0 a w R E) (hp : okPut N d E = true) {α β γ : Type} {c : Codec α} {e : Codec β} {f : Codec γ} {x : α × β × γ} (hx : (cTup3 c e f).val (dirt D0 R) w (a.eval y) x)
    (k : ∀ a', St N F0 D0 w0 a' w R (⟨d, γ, f, x.2.2⟩ :: E) → wpList P ops Q rest a' w) : wpList P ops Q (⟨some d, .extract y 2, ty, ps, af, none⟩ :: rest) a w := by
  obtain ⟨_, ⟨u, v, s, rfl, h1, h2, h3⟩, hv⟩ := hx
  exact op_val S hp (v := s) (by simp only [execOp, hv]; rfl) h3 k
theorem op_ext40 (S : St N F0 D0 w0 a w R E) (hp : okPut N d E = true) {α β γ δ : Type} {c : Codec α} {e : Codec β} {f : Codec γ} {g : Codec δ} {x : α × β × γ × δ} (hx : (cTup4 c e f g).val (dirt D0 R) w (a.eval y) x)
    (k : ∀ a', St N F0 D0 w0 a' w R (⟨d, α, c, x.1⟩ :: E) → wpList P ops Q rest a' w) : wpList P ops Q (⟨some d, .extract y 0, ty, ps, af, none⟩ :: rest) a w := by
  obtain ⟨_, ⟨u, v, s, r, rfl, h1, h2, h3, h4⟩, hv⟩ := hx
  exact op_val S hp (v := u) (by simp only [execOp, hv]; rfl) h1 k
theorem op_ext41 (S : St N F0 D0 w0 a w R E) (hp : okPut N d E = true) {α β γ δ : Type} {c : Codec α} {e : Codec β} {f : Codec γ} {g : Codec δ} {x : α × β × γ × δ} (hx : (cTup4 c e f g).val (dirt D0 R) w (a.eval y) x)
    (k : ∀ a', St N F0 D0 w0 a' w R (⟨d, β, e, x.2.1⟩ :: E) → wpList P ops Q rest a' w) : wpList P ops Q (⟨some d, .extract y 1, ty, ps, af, none⟩ :: rest) a w := by
  obtain ⟨_, ⟨u, v, s, r, rfl, h1, h2, h3, h4⟩, hv⟩ := hx
  exact op_val S hp (v := v) (by simp only [execOp, hv]; rfl) h2 k
theorem op_ext42 (S : St N F0 D0 w0 a w R E) (hp : okPut N d E = true) {α β γ δ : Type} {c : Codec α} {e : Codec β} {f : Codec γ} {g : Codec δ} {x : α × β × γ × δ} (hx : (cTup4 c e f g).val (dirt D0 R) w (a.eval y) x)
    (k : ∀ a', St N F0 D0 w0 a' w R (⟨d, γ, f, x.2.2.1⟩ :: E) → wpList P ops Q rest a' w) : wpList P ops Q (⟨some d, .extract y 2, ty, ps, af, none⟩ :: rest) a w := by
  obtain ⟨_, ⟨u, v, s, r, rfl, h1, h2, h3, h4⟩, hv⟩ := hx
  exact op_val S hp (v := s) (by simp only [execOp, hv]; rfl) h3 k
theorem op_ext43 (S : St N F0 D0 w0 a w R E) (hp : okPut N d E = true) {α β γ δ : Type} {c : Codec α} {e : Codec β} {f : Codec γ} {g : Codec δ} {x : α × β × γ × δ} (hx : (cTup4 c e f g).val (dirt D0 R) w (a.eval y) x)
    (k : ∀ a', St N F0 D0 w0 a' w R (⟨d, δ, g, x.2.2.2⟩ :: E) → wpList P ops Q rest a' w) : wpList P ops Q (⟨some d, .extract y 3, ty, ps, af, none⟩ :: rest) a w := by
  obtain ⟨_, ⟨u, v, s, r, rfl, h1, h2, h3, h4⟩, hv⟩ := hx
  exact op_val S hp (v := r) (by simp only [execOp, hv]; rfl) h4 k

/-! ### Calls -/
/-- What a call gives that only makes memory. -/
def Ret {ρ : Type} (c : Codec ρ) (D : Dirty) (w : World) (r : ρ) (e : Ending) (w' : World) : Prop := ∃ v, e = .returned v ∧ Below w.heap.size w w' ∧ c.val D w' v r
theorem run_callv {K : FuncId} {args : Array Operand} {ats : Array TypeId} (hc : ∀ args w, (callFunc K args).run P w = .ok (.enter K args) w) :
    (execOp a.eval ⟨some d, .call { callee := .value (.func K), args := args, argTypes := ats }, ty, ps, af, none⟩).run P w = .ok (.enter K (args.map a.eval)) w := by
  simp only [execOp, resolve, Act.eval, Deferred.ofValue, Sem.run_bind, Sem.run_pure, Result.andThen_ok, invoke, hc]
  simp
theorem op_call (S : St N F0 D0 w0 a w R E) (hp : okPut N d E = true) {K : FuncId} {args : List Operand} {ats : Array TypeId} (hcf : ∀ args w, (callFunc K args).run P w = .ok (.enter K args) w) {ρ : Type} {c : Codec ρ} {r : ρ}
    (hc : Calls P K (args.map a.eval).toArray w (Ret c (dirt D0 R) w r))
    (k : ∀ a' w', St N F0 D0 w0 a' w' R (⟨d, ρ, c, r⟩ :: E) → wpList P ops Q rest a' w') : wpList P ops Q (⟨some d, .call { callee := .value (.func K), args := args.toArray, argTypes := ats }, ty, ps, af, none⟩ :: rest) a w := by
  refine wpl_call (run_callv hcf) (by rw [List.map_toArray]; exact hc) ?_
  rintro e w' ⟨v, rfl, hb, hv⟩
  exact ⟨v, rfl, k _ _ (St.put (S.grow hb) hv hp)⟩

/-! ### min, max -/
theorem op_min2 (S : St N F0 D0 w0 a w R E) (hp : okPut N d E = true) {ats : Array TypeId} {kd : IntKind} {p q : Int} (hx : a.eval y = .int kd p) (hy : a.eval z = .int kd q)
    (k : ∀ a', St N F0 D0 w0 a' w R (⟨d, Int, cInt kd, if q < p then q else p⟩ :: E) → wpList P ops Q rest a' w) :
    wpList P ops Q (⟨some d, .call { callee := .builtin .min, args := #[y, z], argTypes := ats }, ty, ps, af, none⟩ :: rest) a w :=
  op_val S hp (v := .int kd (if q < p then q else p)) (by simp [execOp, resolve, invoke, builtin, Builtin.min_, Builtin.min2, hx, hy, List.foldlM]) (cPlain_mk _) k
theorem op_max2 (S : St N F0 D0 w0 a w R E) (hp : okPut N d E = true) {ats : Array TypeId} {kd : IntKind} {p q : Int} (hx : a.eval y = .int kd p) (hy : a.eval z = .int kd q)
    (k : ∀ a', St N F0 D0 w0 a' w R (⟨d, Int, cInt kd, if p < q then q else p⟩ :: E) → wpList P ops Q rest a' w) :
    wpList P ops Q (⟨some d, .call { callee := .builtin .max, args := #[y, z], argTypes := ats }, ty, ps, af, none⟩ :: rest) a w :=
  op_val S hp (v := .int kd (if p < q then q else p)) (by simp [execOp, resolve, invoke, builtin, Builtin.max_, Builtin.max2, hx, hy, List.foldlM]) (cPlain_mk _) k

/-! ### Rows of the call's own -/
/-- a row that is still nil -/
theorem St.newrow (S : St N F0 D0 w0 a w R E) {α : Type} (c : Codec α) (e : TypeId) : St N F0 D0 w0 a w (Res.row (.slice none 0 0) e c ([] : List α) :: R) E :=
  S.gain (Below.refl _ _) _ (fun k hk => by cases hk) ⟨[], World.ownsRow_nil _ _ _ _, rfl⟩
theorem chg_of_grown {w w' : World} {v : Value} (h : w.grownBy w' v.ownBlock) : Chg (fun k => v.ownBlock = some k) w w' :=
  ⟨h.os, h.tape, h.output, h.size, fun k hk hn => h.block k hk (fun e => hn e.symm)⟩
/-- append to a row of the call's own -/
theorem op_append (S : St N F0 D0 w0 a w R E) (hp : okPut N d E = true) (j : Nat) {α : Type} {c : Codec α} {e : TypeId} {xs ys : List α} {v : Value} {zv : Value} {bytes : Nat} (hj : R[j]? = some (Res.row v e c xs)) (hy : a.eval y = v)
    (hz : (cSlice c).val (dirt D0 R) w (a.eval z) ys) (hf : c.Flat) (hu : P.underlying t = some (.slice e)) (hinfo : (P.info? e).map (fun i => (i.zero, i.size, i.bytes)) = some (some zv, c.size, bytes)) (hzs : zv.cells.size = c.size)
    (hsz : Nat.blt 0 c.size = true) (hby : Nat.blt 0 bytes = true) (hlen : (xs.length + ys.length) * bytes ≤ 140737488355328)
    (k : ∀ v' a' w', St N F0 D0 w0 a' w' (R.set j (Res.row v' e c (xs ++ ys))) (⟨d, Value, cRaw, v'⟩ :: E) → wpList P ops Q rest a' w') :
    wpList P ops Q (⟨some d, .call { callee := .builtin .append, args := #[y, z], argTypes := #[t, t] }, ty, ps, af, none⟩ :: rest) a w := by
  obtain ⟨i0, hi, hzz⟩ := Option.map_eq_some_iff.1 hinfo
  simp only [Prod.mk.injEq] at hzz
  obtain ⟨hz0, hz1, hz2⟩ := hzz
  obtain ⟨cells, ho, he⟩ := S.resAt j hj
  obtain ⟨A, cap, hv, hcap, hmax, hA⟩ := cSlice_val hz
  have hb0 : 0 < bytes := by simpa [Nat.blt_eq] using hby
  have hle : xs.length + ys.length ≤ 140737488355328 := Nat.le_trans (Nat.le_mul_of_pos_right _ hb0) hlen
  have hby' : (xs.length + ys.length) * bytes ≤ 140737488355328 := hlen
  have fin : ∀ v' w' news, w'.ownsRow 0 e c.size v' (xs.length + ys.length) (cells ++ news) → encList c (dirt D0 R) w news ys → w.grownBy w' v.ownBlock → (v'.ownBlock = v.ownBlock ∨ v'.ownBlock = some w.heap.size) →
      wpList P ops Q rest (a.put (some d) v') w' := by
    intro v' w' news hown hys hg hat
    refine k v' _ w' (St.put (c := cRaw) (S.turn j hj (Res.row v' e c (xs ++ ys)) (chg_of_grown hg) ?_ (fun keep => ⟨_, by rw [List.length_append]; exact hown, ?_⟩)) (cPlain_mk (f := id) _) hp)
    · intro k hk
      rcases hat with h | h
      · exact .inl (by show v.ownBlock = some k; rw [← h]; exact hk)
      · have : v'.ownBlock = some k := hk
        rw [h] at this
        exact .inr (by simpa using Nat.le_of_eq (Option.some.inj this))
    · exact (keep (c := cArr (xs ++ ys).length c) ⟨rfl, encList_append he hys⟩).2
  have big : ∀ (ad : Addr) (news : List Value), a.eval z = .slice (some ad) ys.length cap → encList c (dirt D0 R) w news ys → (∀ j u, news[j]? = some u → w.cell? (ad.add j) = some u) →
      wpList P ops Q (⟨some d, .call { callee := .builtin .append, args := #[y, z], argTypes := #[t, t] }, ty, ps, af, none⟩ :: rest) a w := by
    intro ad news hza hnews hcell
    refine wpList_append_own_at w rfl y z t rfl 0 e i0 zv c.size bytes hu hi hz0 hz1 hz2 hzs (by simpa [Nat.blt_eq] using hsz) v xs.length cells hy ho ad ys.length cap news hza (encList_len hnews) hcell (encList_flat hf hnews) (by simp only [maxLen]; omega) hby' (Nat.zero_le _) ?_
    intro v' w' hown hg _ hat
    exact fin v' w' news hown hnews hg hat
  by_cases h0 : ys = []
  · subst h0
    cases A with
    | some ad => exact big ad [] hv rfl (fun j u hu => by simp at hu)
    | none =>
      have hrun : (Builtin.append_ #[t, t] ty #[v, .slice none 0 cap]).run P w = .ok v w := by
        rcases ho.2 with ⟨rfl, h00⟩ | ⟨g, cap', cur, rfl, _, _, hnc, _⟩
        · simp [Builtin.append_, run_underlying hu, sizeOf, typeInfo, hi, Builtin.lenOf, Builtin.firstCells]
        · simp [Builtin.append_, run_underlying hu, sizeOf, typeInfo, hi, Builtin.lenOf, Builtin.firstCells, hnc, storeCells]
      refine wpl_val (v := v) (w' := w) ?_ (fin v w [] (by simpa using ho) rfl (World.grownBy.refl _ _) (.inl rfl))
      simp only [execOp, resolve, invoke, builtin, Sem.run_bind, Sem.run_pure, Result.andThen_ok, List.map_toArray, List.map_cons, List.map_nil, hy, hv]
      have hrun' : (Builtin.append_ #[t, t] ty #[v, .slice none ([] : List α).length cap]).run P w = .ok v w := hrun
      rw [hrun']
      rfl
  · obtain ⟨g, o, es, rfl, ⟨_, cur, tb, fr, hg, h1, h2⟩, hes⟩ := hA h0
    refine big _ es hv hes (fun j u hu => ?_)
    rw [Addr.add_lit, cell_of_row w g (o + j) cur tb fr hg]
    rw [← h2, List.getElem?_take] at hu
    split at hu
    · rw [List.getElem?_drop] at hu
      simpa using hu
    · cases hu
end
end Go.Tw
