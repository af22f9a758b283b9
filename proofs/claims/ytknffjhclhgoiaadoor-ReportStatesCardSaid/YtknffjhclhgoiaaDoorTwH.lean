/- The typed walk, part H: the code around the operations: tests, loops, calls from within and without; the plain side: options, loops. -/
import Derived.Test.YtknffjhclhgoiaaDoorTwG
import Derived.Deep.LoopGhost
set_option linter.unusedVariables false
set_option linter.unusedSimpArgs false
namespace Go.Tw
open Go Go.RowKit

/-! ### The plain side -/
theorem bind_some {α β : Type} {m : Option α} {k : α → Option β} {r : β} (h : m.bind k = some r) : ∃ x, m = some x ∧ k x = some r := by
  cases m with
  | none => cases h
  | some x => exact ⟨x, rfl, h⟩
theorem guard_some {β : Type} {p : Prop} [Decidable p] {k : Option β} {r : β} (h : (if p then k else none) = some r) : p ∧ k = some r := by
  by_cases hp : p
  · rw [if_pos hp] at h; exact ⟨hp, h⟩
  · rw [if_neg hp] at h; cases h
theorem cond_some {β : Type} {b : Bool} {k l : Option β} {r : β} (h : (if b then k else l) = some r) : (b = true ∧ k = some r) ∨ (b = false ∧ l = some r) := by
  cases b
  · exact .inr ⟨rfl, by simpa using h⟩
  · exact .inl ⟨rfl, by simpa using h⟩

/-- n rounds at the most -/
def iterM {σ τ : Type} (body : σ → Option (σ ⊕ τ)) : Nat → σ → Option τ
  | 0, _ => none
  | n + 1, s => (body s).bind fun | .inl s' => iterM body n s' | .inr t => some t
theorem iterM_more {σ τ : Type} {body : σ → Option (σ ⊕ τ)} : ∀ {n m : Nat} {s : σ} {t : τ}, n ≤ m → iterM body n s = some t → iterM body m s = some t
  | 0, _, _, _, _, h => by cases h
  | n + 1, 0, _, _, hm, _ => by omega
  | n + 1, m + 1, s, t, hm, h => by
    obtain ⟨x, hx, hk⟩ := bind_some h
    show (body s).bind _ = some t
    rw [hx]
    cases x with
    | inl s' => exact iterM_more (n := n) (m := m) (by omega) hk
    | inr t' => exact hk
/-- as many rounds as it takes -/
noncomputable def loopM {σ τ : Type} (body : σ → Option (σ ⊕ τ)) (s : σ) : Option τ :=
  open Classical in if h : ∃ t, ∃ n, iterM body n s = some t then some h.choose else none
theorem loopM_of {σ τ : Type} {body : σ → Option (σ ⊕ τ)} {n : Nat} {s : σ} {t : τ} (h : iterM body n s = some t) : loopM body s = some t := by
  have hex : ∃ t, ∃ n, iterM body n s = some t := ⟨t, n, h⟩
  unfold loopM
  rw [dif_pos hex]
  obtain ⟨m, hm⟩ := hex.choose_spec
  have h1 := iterM_more (Nat.le_max_left n m) h
  have h2 := iterM_more (Nat.le_max_right n m) hm
  rw [h1] at h2
  exact h2.symm
theorem loopM_some {σ τ : Type} {body : σ → Option (σ ⊕ τ)} {s : σ} {t : τ} (h : loopM body s = some t) : ∃ n, iterM body n s = some t := by
  unfold loopM at h
  split at h
  · rename_i hex
    cases h
    exact hex.choose_spec
  · cases h
theorem loopM_eq {σ τ : Type} (body : σ → Option (σ ⊕ τ)) (s : σ) : loopM body s = (body s).bind fun | .inl s' => loopM body s' | .inr t => some t := by
  cases hb : body s with
  | none =>
    cases hl : loopM body s with
    | none => rfl
    | some t =>
      obtain ⟨n, hn⟩ := loopM_some hl
      cases n with
      | zero => cases hn
      | succ n => simp [iterM, hb] at hn
  | some x =>
    cases x with
    | inr t => exact loopM_of (n := 1) (by simp [iterM, hb])
    | inl s' =>
      show _ = loopM body s'
      cases hl : loopM body s' with
      | some t =>
        obtain ⟨n, hn⟩ := loopM_some hl
        exact loopM_of (n := n + 1) (by simp [iterM, hb, hn])
      | none =>
        cases hl2 : loopM body s with
        | none => rfl
        | some t =>
          obtain ⟨n, hn⟩ := loopM_some hl2
          cases n with
          | zero => cases hn
          | succ n =>
            simp [iterM, hb] at hn
            rw [loopM_of hn] at hl
            cases hl
theorem loopM_next {σ τ : Type} {body : σ → Option (σ ⊕ τ)} {s s' : σ} (h : body s = some (.inl s')) : loopM body s = loopM body s' := by rw [loopM_eq, h]; rfl
theorem loopM_done {σ τ : Type} {body : σ → Option (σ ⊕ τ)} {s : σ} {t : τ} (h : body s = some (.inr t)) : loopM body s = some t := by rw [loopM_eq, h]; rfl

section
variable {P : Program} {Q : Exit → Act → World → Prop} {a : Act} {w : World}
theorem c_true {c : Operand} {x y : Code} {b : Bool} (hc : a.eval c = .bool b) (hb : b = true) (h : x.wp P Q a w) : (Code.cond c x y).wp P Q a w := by subst hb; exact wp_cond hc h
theorem c_false {c : Operand} {x y : Code} {b : Bool} (hc : a.eval c = .bool b) (hb : b = false) (h : y.wp P Q a w) : (Code.cond c x y).wp P Q a w := by subst hb; exact wp_cond hc h

/-- A loop that goes as the plain one. -/
theorem wp_loopM {c : Code} {σ τ : Type} {body : σ → Option (σ ⊕ τ)} (Inv : σ → Act → World → Prop) {t : τ}
    (round : ∀ s a w x, Inv s a w → body s = some x → c.wp P (fun e a' w' => match x with | .inl s' => e = .normal ∧ Inv s' a' w' | .inr t' => (t' = t → e ≠ .normal ∧ Q e a' w')) a w)
    (s : σ) (hI : Inv s a w) (hr : loopM body s = some t) : (Code.loop c).wp P Q a w := by
  obtain ⟨n, hn⟩ := loopM_some hr
  refine wp_loop_ghost (fun n a w => ∃ s, Inv s a w ∧ iterM body n s = some t) n ⟨s, hI, hn⟩ ?_
  rintro n a w ⟨s, hI, hn⟩
  cases n with
  | zero => cases hn
  | succ n =>
    obtain ⟨x, hx, hk⟩ := bind_some hn
    refine wp_mono (round s a w x hI hx) ?_
    intro e a' w' hq
    cases x with
    | inl s' =>
      obtain ⟨rfl, hI'⟩ := hq
      exact ⟨n, Nat.lt_succ_self n, s', hI', hk⟩
    | inr t' =>
      obtain ⟨hne, hq⟩ := hq (Option.some.inj hk)
      cases e <;> first | exact absurd rfl hne | exact hq
end

section
variable {P : Program} {N : Nat} {F0 : Nat → Prop} {D0 : Dirty} {w0 w : World} {a : Act} {R : List Res} {E : List Ent}
/-- The head of a call without memory of its own. -/
theorem St.start {args : Array Value} (n : Nat) (hn : Nat.ble args.size n = true) (hD : ∀ k, D0 k → k < w.heap.size) :
    St n (fun _ => False) D0 w { tmps := args ++ Array.replicate (n - args.size) undef, defers := [] } w [] [] := by
  have : args.size ≤ n := by simpa using hn
  exact ⟨by simp; omega, rfl, Chg.refl _ _, hD, fun _ h => h.elim, by simp, by simp, by simp, by simp⟩
/-- A call is its body. -/
theorem calls_start {K : FuncId} {fn : Func} {c : Code} {args : List Value} {n : Nat} {T : Ending → World → Prop} (hf : P.funcs[K]? = some fn) (hb : fn.body = some c) (hn : fn.ntmps = n)
    (h : c.wp P (bodyPost P fn T) { tmps := args.toArray ++ Array.replicate (n - args.toArray.size) undef, defers := [] } w) : Calls P K args.toArray w T := by
  subst hn
  exact calls_of_wp hf hb h
/-- What a slot holds is told. -/
theorem St.know (S : St N F0 D0 w0 a w R E) {s : Nat} {α : Type} {c : Codec α} {x : α} (hv : c.val (dirt D0 R) w (a.eval (.tmp s)) x) : St N F0 D0 w0 a w R (⟨s, α, c, x⟩ :: E) :=
  ⟨S.size, S.defs, S.chg, S.old, S.dis, S.own, S.apart, S.res, fun e he => by
    rcases List.mem_cons.1 he with rfl | he
    · exact hv
    · exact S.ent e he⟩
theorem eval_arg {args xs : Array Value} {ds : List Deferred} (i : Nat) (hi : Nat.blt i args.size = true) : ({ tmps := args ++ xs, defers := ds } : Act).eval (.tmp i) = args.getD i undef := by
  have : i < args.size := by simpa [Nat.blt_eq] using hi
  simp [Act.eval, Array.getElem?_append_left this]
theorem St.arg {args xs : Array Value} {ds : List Deferred} (S : St N F0 D0 w0 { tmps := args ++ xs, defers := ds } w R E) (i : Nat) (hi : Nat.blt i args.size = true) {α : Type} {c : Codec α} {x : α} (hv : c.val (dirt D0 R) w (args.getD i undef) x) :
    St N F0 D0 w0 { tmps := args ++ xs, defers := ds } w R (⟨i, α, c, x⟩ :: E) := S.know (by rw [eval_arg i hi]; exact hv)
theorem val_dirt0 {D : Dirty} {w : World} {α : Type} {c : Codec α} {v : Value} {x : α} (h : c.val D w v x) : c.val (dirt D []) w v x :=
  h.stay (Keep.less fun k _ hd => by rcases hd with h | ⟨r, hr, _⟩; exact h; cases hr)
theorem St.val0 (S : St N F0 D0 w0 a w R E) (i : Nat) {s : Nat} {α : Type} {c : Codec α} {x : α} (h : E[i]? = some ⟨s, α, c, x⟩) : c.val D0 w (a.tmps.getD s undef) x :=
  (S.at i h).stay (Keep.less fun k _ hd => .inl hd)

/-- The end of a call: one result. -/
theorem ret1 {fn : Func} {α : Type} {c : Codec α} {x : α} {s : Nat} (S : St N (fun _ => False) D0 w0 a w R E) (hres : fn.results = #[.tmp s]) (i : Nat) (hi : E[i]? = some ⟨s, α, c, x⟩) : bodyPost P fn (Ret c D0 w0 x) .ret a w :=
  ⟨S.defs, _, results_tmp hres _ _ _, _, rfl, S.chg.below, S.val0 i hi⟩
theorem ret0 {fn : Func} (S : St N (fun _ => False) D0 w0 a w R E) (hres : fn.results = #[]) : bodyPost P fn (Ret (cPlain fun _ : Unit => .tuple #[]) D0 w0 ()) .ret a w :=
  ⟨S.defs, _, results_none hres _ _ _, _, rfl, S.chg.below, cPlain_mk _⟩
theorem ret2 {fn : Func} {α β : Type} {c : Codec α} {e : Codec β} {x : α} {y : β} {s t : Nat} (S : St N (fun _ => False) D0 w0 a w R E) (hres : fn.results = #[.tmp s, .tmp t]) (i j : Nat) (hi : E[i]? = some ⟨s, α, c, x⟩) (hj : E[j]? = some ⟨t, β, e, y⟩) :
    bodyPost P fn (Ret (cTup2 c e) D0 w0 (x, y)) .ret a w :=
  ⟨S.defs, _, results_tmp2 hres _ _ _, _, rfl, S.chg.below, _, ⟨_, _, rfl, S.val0 i hi, S.val0 j hj⟩, rfl⟩
theorem ret3 {fn : Func} {α β γ : Type} {c : Codec α} {e : Codec β} {f : Codec γ} {x : α} {y : β} {z : γ} {s t u : Nat} (S : St N (fun _ => False) D0 w0 a w R E) (hres : fn.results = #[.tmp s, .tmp t, .tmp u]) (i j k : Nat) (hi : E[i]? = some ⟨s, α, c, x⟩) (hj : E[j]? = some ⟨t, β, e, y⟩) (hk : E[k]? = some ⟨u, γ, f, z⟩) :
    bodyPost P fn (Ret (cTup3 c e f) D0 w0 (x, y, z)) .ret a w :=
  ⟨S.defs, _, results_tmp3 hres _ _ _, _, rfl, S.chg.below, _, ⟨_, _, _, rfl, S.val0 i hi, S.val0 j hj, S.val0 k hk⟩, rfl⟩
theorem results_tmp4 {fn : Func} {t u v z : Tmp} (h : fn.results = #[.tmp t, .tmp u, .tmp v, .tmp z]) (tmps : Array Value) (P : Program) (w : World) :
    (results fn tmps).run P w = .ok (.tuple #[tmps.getD t undef, tmps.getD u undef, tmps.getD v undef, tmps.getD z undef]) w := by
  simp [results, h]
theorem ret4 {fn : Func} {α β γ δ : Type} {c : Codec α} {e : Codec β} {f : Codec γ} {g : Codec δ} {x : α} {y : β} {z : γ} {q : δ} {s t u v : Nat} (S : St N (fun _ => False) D0 w0 a w R E) (hres : fn.results = #[.tmp s, .tmp t, .tmp u, .tmp v]) (i j k l : Nat) (hi : E[i]? = some ⟨s, α, c, x⟩) (hj : E[j]? = some ⟨t, β, e, y⟩) (hk : E[k]? = some ⟨u, γ, f, z⟩) (hl : E[l]? = some ⟨v, δ, g, q⟩) :
    bodyPost P fn (Ret (cTup4 c e f g) D0 w0 (x, y, z, q)) .ret a w :=
  ⟨S.defs, _, results_tmp4 hres _ _ _, _, rfl, S.chg.below, _, ⟨_, _, _, _, rfl, S.val0 i hi, S.val0 j hj, S.val0 k hk, S.val0 l hl⟩, rfl⟩
theorem norm_ret {fn : Func} {K : Ending → World → Prop} (h : bodyPost P fn K .ret a w) : bodyPost P fn K .normal a w := h

/-- A variable of the call's own is only read from now on. -/
theorem St.freeze (S : St N F0 D0 w0 a w R E) (i j : Nat) {s b : Nat} {t : TypeId} {α : Type} {c : Codec α} {x : α} (hi : E[i]? = some ⟨s, Value, cRaw, ptr b 0⟩) (hj : R[j]? = some (Res.box b t c x)) :
    St N F0 D0 w0 a w (R.eraseIdx j) (⟨s, α, cRef c, x⟩ :: E.eraseIdx i) := by
  have T := S.lose j
  obtain ⟨cur, hb, he⟩ := S.resAt j hj
  have hv : a.tmps.getD s undef = ptr b 0 := S.pl (f := id) i hi
  have hmem := List.mem_of_getElem? hj
  have hk : Keep (dirt D0 R) (dirt D0 (R.eraseIdx j)) w w := Keep.less fun k _ hd => by
    rcases hd with h | ⟨r, hr, hk⟩
    · exact .inl h
    · exact .inr ⟨r, List.mem_of_mem_eraseIdx hr, hk⟩
  refine ⟨T.size, T.defs, T.chg, T.old, T.dis, T.own, T.apart, T.res, ?_⟩
  intro q hq
  rcases List.mem_cons.1 hq with rfl | hq
  · show (cRef c).val _ w (a.tmps.getD s undef) x
    rw [hv]
    refine ⟨_, ⟨b, 0, cur.toList, rfl, ⟨fun hd => ?_, cur, t, _, hb, by simp, ?_⟩, c.stay he hk⟩, rfl⟩
    · have hjl : j < R.length := (List.getElem?_eq_some_iff.1 hj).1
      have hrj : R[j] = Res.box b t c x := (List.getElem?_eq_some_iff.1 hj).2
      have hfoot : (Res.box b t c x).foot b := rfl
      rcases hd with h | ⟨r, hr, hkr⟩
      · rcases S.own _ hmem b rfl with hf | hf
        · exact S.dis b hf h
        · exact absurd (S.old b h) (by omega)
      · obtain ⟨p, hp⟩ := List.mem_iff_getElem?.1 hr
        rw [List.getElem?_eraseIdx] at hp
        split at hp
        · rename_i hpj
          have hpl : p < R.length := by omega
          have := (List.pairwise_iff_getElem.1 S.apart p j hpl hjl hpj) b
          rw [(List.getElem?_eq_some_iff.1 hp).2, hrj] at this
          exact this hkr hfoot
        · rename_i hpj
          have hpl : p + 1 < R.length := (List.getElem?_eq_some_iff.1 hp).1
          have := (List.pairwise_iff_getElem.1 S.apart j (p + 1) hjl hpl (by omega)) b
          rw [(List.getElem?_eq_some_iff.1 hp).2, hrj] at this
          exact this hfoot hkr
    · rw [List.drop_zero, List.take_length]
  · exact T.ent q (List.mem_of_mem_eraseIdx hq)
end
end Go.Tw
