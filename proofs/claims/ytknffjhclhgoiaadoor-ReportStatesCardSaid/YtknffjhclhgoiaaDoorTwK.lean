/- The typed walk, part K: a region that draws its order: what its first m operations give hangs on no order; the rest stand in one order. -/
import Derived.Test.YtknffjhclhgoiaaDoorTwJ
import Derived.Orders
set_option linter.unusedVariables false
set_option linter.unusedSimpArgs false
namespace Go.Tw
open Go Go.RowKit

theorem blt_lt {i j : Nat} : Nat.blt i j = true ↔ i < j := by rw [Nat.blt_eq]
def dstOf (o : Oper) : List Nat := match o.dst with | some d => [d] | none => []
/-- The region's form: B: of each operation, what stands ahead of it in every order; m: so many first ones go in any order. -/
def okDraw (l : List Oper) (B : List (List Nat)) (m : Nat) : Bool :=
  (List.range l.length).all fun i =>
    match l[i]? with
    | none => false
    | some o =>
      (o.after.toList.all fun e => !Region.binds .any e || Nat.blt e.on i) &&
      ((B.getD i []).all fun j => Nat.blt j i && (o.after.toList.any fun e => Region.binds .any e && (e.on == j || (B.getD e.on []).contains j))) &&
      (Nat.blt i m || (List.range i).all fun j => (B.getD i []).contains j) &&
      (!Nat.blt i m || (List.range i).all fun j => match l[j]? with | some p => (dstOf o).all fun d => !(dstOf p).contains d | none => true)

/-- what the parameters are: a block, a value -/
abbrev Par := Nat × Value
def catE (ent : Nat → Par → List Ent) (f : Nat → Par) : List Nat → List Ent
  | [] => []
  | i :: is => ent i (f i) ++ catE ent f is
theorem mem_catE {ent : Nat → Par → List Ent} {f : Nat → Par} {e : Ent} : ∀ {is : List Nat}, e ∈ catE ent f is ↔ ∃ i ∈ is, e ∈ ent i (f i)
  | [] => by simp [catE]
  | i :: is => by simp [catE, mem_catE (is := is)]
def catR (g : Nat → List Res) : List Nat → List Res
  | [] => []
  | i :: is => g i ++ catR g is
theorem catR_perm {g : Nat → List Res} {l l' : List Nat} (h : l.Perm l') : (catR g l).Perm (catR g l') := by
  induction h with
  | nil => exact .refl _
  | cons x _ ih => exact .append_left _ ih
  | swap x y l => simp only [catR, ← List.append_assoc]; exact .append_right _ List.perm_append_comm
  | trans _ _ h1 h2 => exact h1.trans h2
theorem catR_congr {g g' : Nat → List Res} : ∀ {l : List Nat}, (∀ i ∈ l, g i = g' i) → catR g l = catR g' l
  | [], _ => rfl
  | i :: is, h => by simp only [catR]; rw [h i (by simp), catR_congr (fun j hj => h j (List.mem_cons_of_mem _ hj))]
theorem catE_congr {ent : Nat → Par → List Ent} {f f' : Nat → Par} : ∀ {l : List Nat}, (∀ i ∈ l, f i = f' i) → catE ent f l = catE ent f' l
  | [], _ => rfl
  | i :: is, h => by simp only [catE]; rw [h i (by simp), catE_congr (fun j hj => h j (List.mem_cons_of_mem _ hj))]

theorem dirt_perm {D0 : Dirty} {R R' : List Res} (h : R.Perm R') : dirt D0 R = dirt D0 R' := by
  funext k
  simp only [dirt, h.mem_iff]
/-- The pieces of memory in another order. -/
theorem St.permR {N : Nat} {F0 : Nat → Prop} {D0 : Dirty} {w0 w : World} {a : Act} {R R' : List Res} {E : List Ent} (S : St N F0 D0 w0 a w R E) (h : R.Perm R') : St N F0 D0 w0 a w R' E := by
  have hd := dirt_perm (D0 := D0) h
  refine ⟨S.size, S.defs, S.chg, S.old, S.dis, fun r hr => S.own r (h.mem_iff.2 hr), ?_, ?_, ?_⟩
  · exact (h.pairwise_iff (fun {r s} hrs k hk hk' => hrs k hk' hk)).1 S.apart
  · intro r hr; rw [← hd]; exact S.res r (h.mem_iff.2 hr)
  · rw [← hd]; exact S.ent

section
variable {P : Program} {N : Nat} {F0 : Nat → Prop} {D0 : Dirty} {w0 : World} {R : List Res} {E : List Ent} {l : List Oper} {B : List (List Nat)} {m : Nat} {Q : Exit → Act → World → Prop}

/-- What is asked of one of the first operations: with what stands ahead of it, and whatever else is told. Where it turns a piece of memory that another of them has made, that one is named. -/
def Ob (P : Program) (l : List Oper) (N : Nat) (F0 : Nat → Prop) (D0 : Dirty) (w0 : World) (R : List Res) (E : List Ent) (ent : Nat → Par → List Ent) (res : Nat → Par → Bool → List Res) (i : Nat) (o : Oper) (b : List Nat) : Option Nat → Prop
  | none => ∀ (f : Nat → Par) (X : List Ent) (Y : List Res) (a : Act) (w : World), (∀ d, o.dst = some d → (X.all fun e => e.slot != d) = true) → St N F0 D0 w0 a w (R ++ Y) (catE ent f b ++ E ++ X) →
    wpList P l.toArray (fun e a' w' => e = .normal ∧ ∃ p, St N F0 D0 w0 a' w' (res i p false ++ (R ++ Y)) (ent i p ++ (catE ent f b ++ E ++ X))) [o] a w
  | some j => (∀ p, ent i p = []) ∧ (∀ p z, res i p z = []) ∧ ∀ (f : Nat → Par) (X : List Ent) (Y : List Res) (a : Act) (w : World), (∀ d, o.dst = some d → (X.all fun e => e.slot != d) = true) → St N F0 D0 w0 a w (res j (f j) false ++ (R ++ Y)) (catE ent f b ++ E ++ X) →
    wpList P l.toArray (fun e a' w' => e = .normal ∧ St N F0 D0 w0 a' w' (res j (f j) true ++ (R ++ Y)) (catE ent f b ++ E ++ X)) [o] a w
def Obs (P : Program) (l : List Oper) (N : Nat) (F0 : Nat → Prop) (D0 : Dirty) (w0 : World) (R : List Res) (E : List Ent) (ent : Nat → Par → List Ent) (res : Nat → Par → Bool → List Res) : Nat → List Oper → List (List Nat) → List (Option Nat) → Prop
  | _, [], _, _ => True
  | i, o :: os, B, C => Ob P l N F0 D0 w0 R E ent res i o (B.headD []) (C.headD none) ∧ Obs P l N F0 D0 w0 R E ent res (i + 1) os B.tail C.tail
theorem Obs.cons {ent : Nat → Par → List Ent} {res : Nat → Par → Bool → List Res} {i : Nat} {o : Oper} {os : List Oper} {b : List Nat} {B : List (List Nat)} {c : Option Nat} {C : List (Option Nat)} (h : Ob P l N F0 D0 w0 R E ent res i o b c) (k : Obs P l N F0 D0 w0 R E ent res (i + 1) os B C) :
    Obs P l N F0 D0 w0 R E ent res i (o :: os) (b :: B) (c :: C) := ⟨h, k⟩
theorem Obs.nil {ent : Nat → Par → List Ent} {res : Nat → Par → Bool → List Res} {i : Nat} {B : List (List Nat)} {C : List (Option Nat)} : Obs P l N F0 D0 w0 R E ent res i [] B C := trivial
theorem Obs.get {ent : Nat → Par → List Ent} {res : Nat → Par → Bool → List Res} : ∀ {i : Nat} {os : List Oper} {B : List (List Nat)} {C : List (Option Nat)}, Obs P l N F0 D0 w0 R E ent res i os B C → ∀ j o, os[j]? = some o → Ob P l N F0 D0 w0 R E ent res (i + j) o (B.getD j []) (C.getD j none)
  | _, [], _, _, _, j, o, h => by simp at h
  | i, p :: os, B, C, ⟨h1, h2⟩, 0, o, h => by
    simp at h; subst h
    have e : B.getD 0 [] = B.headD [] := by cases B <;> rfl
    have e2 : C.getD 0 none = C.headD none := by cases C <;> rfl
    rw [e, e2]; exact h1
  | i, p :: os, B, C, ⟨h1, h2⟩, j + 1, o, h => by
    have := Obs.get h2 j o (by simpa using h)
    have e : B.getD (j + 1) [] = B.tail.getD j [] := by cases B <;> rfl
    have e2 : C.getD (j + 1) none = C.tail.getD j none := by cases C <;> rfl
    rw [e, e2, show i + (j + 1) = i + 1 + j by omega]
    exact this
/-- The form of what turns what: each is made ahead, and turned once. -/
def okTurn (B : List (List Nat)) (C : List (Option Nat)) (m n nv : Nat) : Bool :=
  (List.range m).all fun j => match C.getD j none with
    | none => true
    | some i => ((B.getD j []).contains i && Nat.blt i m || Nat.ble n i && Nat.blt i (n + nv)) && (List.range m).all fun k => k == j || C.getD k none != some i
def turned (C : List (Option Nat)) (done : List Nat) (i : Nat) : Bool := done.any fun j => C.getD j none == some i
theorem okX {d : Nat} {pre X : List Ent} (h : okPut N d pre = true) (hX : (X.all fun e => e.slot != d) = true) : okPut N d (pre ++ X) = true := by
  simp only [okPut, Bool.and_eq_true, List.all_append] at h ⊢
  exact ⟨h.1, h.2, hX⟩

theorem wpl_single {o : Oper} {i : Nat} {a : Act} {w : World} {K : Act → World → Prop} {T : Act → World → Prop} (hi : l[i]? = some o) (h : wpList P l.toArray (fun e a' w' => e = .normal ∧ T a' w') [o] a w) (hK : ∀ a' w', T a' w' → K a' w') :
    wpOp P l.toArray Q i K a w := by
  unfold wpOp
  have hi' : l.toArray[i]? = some o := by simpa using hi
  simp only [hi']
  simp only [wpList] at h
  split
  · rename_i hw
    rw [if_pos hw] at h
    left
    rcases h with h | ⟨_, a₀, w₀, hq, _⟩
    · have h' : o.wp P a w (fun a' w' => T a' w') (fun e a' w' => e = .normal ∧ T a' w') := Oper.wp_mono (fun a w h => h.2) h
      unfold Oper.wp at h' ⊢
      generalize (execOp a.eval o).run P w = r at h'
      cases r with
      | ok n w' =>
        cases n <;> simp only [Oper.upon] at h' ⊢ <;>
          first
            | exact hK _ _ h'
            | exact Calls.mono h' (fun e w'' he => by
                cases e with
                | returned v => exact hK _ _ he
                | panicked c => exact absurd he.1 (by simp)
                | outgrown => obtain ⟨_, _, hq, _⟩ := he; exact absurd hq (by simp))
            | exact Rows.mono h' (fun _ _ he => hK _ _ he)
      | halt x w' =>
        cases x <;> simp only [Oper.upon] at h' ⊢
        exact absurd h'.1 (by simp)
    · exact absurd hq (by simp)
  · rename_i hw
    rw [if_neg hw] at h
    exact hK _ _ h.2

theorem okDraw_at (hc : okDraw l B m = true) {i : Nat} {o : Oper} (hi : l[i]? = some o) :
    (∀ e ∈ o.after, Region.binds .any e = true → e.on < i) ∧
    (∀ j ∈ B.getD i [], j < i ∧ ∃ e ∈ o.after, Region.binds .any e = true ∧ (e.on = j ∨ j ∈ B.getD e.on [])) ∧
    (m ≤ i → ∀ j, j < i → j ∈ B.getD i []) ∧
    (i < m → ∀ j p, j < i → l[j]? = some p → ∀ d, o.dst = some d → p.dst ≠ some d) := by
  have hlt : i < l.length := (List.getElem?_eq_some_iff.1 hi).1
  simp only [okDraw, List.all_eq_true, List.mem_range] at hc
  have h := hc i hlt
  simp only [hi, Bool.and_eq_true, List.all_eq_true, Bool.or_eq_true, Bool.not_eq_true', List.any_eq_true, List.mem_range] at h
  obtain ⟨⟨⟨h1, h2⟩, h3⟩, h4⟩ := h
  refine ⟨fun e he hb => ?_, fun j hj => ?_, fun hm j hj => ?_, fun hm => ?_⟩
  · rcases h1 e (by simpa using he) with h | h
    · rw [h] at hb; cases hb
    · exact blt_lt.1 h
  · obtain ⟨ha, e, he, hb, hc⟩ := h2 j hj
    refine ⟨blt_lt.1 ha, e, by simpa using he, hb, ?_⟩
    rcases hc with h | h
    · exact .inl (by simpa using h)
    · exact .inr (by simpa using h)
  · rcases h3 with h | h
    · have : i < m := blt_lt.1 h
      omega
    · simpa using h j hj
  · rcases h4 with h | h6
    · exfalso; rw [blt_lt.2 hm] at h; cases h
    · intro j p hj hp d hd hpd
      have := h6 j hj
      simp only [hp, List.all_eq_true] at this
      have := this d (by simp [dstOf, hd])
      simp [dstOf, hpd] at this

/-- What stands ahead is listed. -/
theorem ahead_listed (hc : okDraw l B m = true) {listed : Array Bool} (hcl : ∀ i o, l[i]? = some o → listed.getD i false = true → ∀ e ∈ o.after, Region.binds .any e = true → listed.getD e.on false = true) :
    ∀ i o, l[i]? = some o → (∀ e ∈ o.after, Region.binds .any e = true → listed.getD e.on false = true) → ∀ j ∈ B.getD i [], listed.getD j false = true := by
  intro i
  induction i using Nat.strongRecOn with
  | _ i ih =>
    intro o hi hdir j hj
    obtain ⟨h1, h2, _, _⟩ := okDraw_at hc hi
    obtain ⟨hji, e, he, hb, hor⟩ := h2 j hj
    rcases hor with rfl | hor
    · exact hdir e he hb
    · have hlt := h1 e he hb
      have hel : e.on < l.length := Nat.lt_trans hlt (List.getElem?_eq_some_iff.1 hi).1
      have hp : l[e.on]? = some l[e.on] := List.getElem?_eq_getElem hel
      exact ih e.on hlt l[e.on] hp (fun e' he' hb' => hcl e.on _ hp (hdir e he hb) e' he' hb') j hor

theorem wp_drawn {id : Nat} {a : Act} {w : World} (hm : P.follows .mixedOrders = true) (B : List (List Nat)) (C : List (Option Nat)) (m : Nat) (hc : okDraw l B m = true) (hml : Nat.ble m l.length = true) (nv : Nat) (hC : okTurn B C m l.length nv = true)
    (ent : Nat → Par → List Ent) (res : Nat → Par → Bool → List Res) (f0 : Nat → Par) (S : St N F0 D0 w0 a w (catR (fun i => res i (f0 i) false) (List.range' l.length nv) ++ R) E)
    (hE : ((l.take m).all fun o => (dstOf o).all fun d => E.all fun e => e.slot != d) = true) (hent : ∀ p, ((List.range m).all fun i => (ent i p).all fun e => match l[i]? with | some o => (dstOf o).contains e.slot | none => false) = true)
    (hob : Obs P l N F0 D0 w0 R E ent res 0 (l.take m) B C)
    (hend : ∀ f a w, (∀ i, l.length ≤ i → f i = f0 i) → St N F0 D0 w0 a w (catR (fun i => res i (f i) (turned C (List.range m) i)) ((List.range m).reverse ++ List.range' l.length nv) ++ R) (catE ent f (List.range m).reverse ++ E) → wpList P l.toArray Q (l.drop m) a w) : (Code.region id l.toArray true).wp P Q a w := by
  have hml' : m ≤ l.length := by simpa using hml
  have hentS : ∀ i p, i < m → ∀ e ∈ ent i p, ∀ o, l[i]? = some o → o.dst = some e.slot := by
    intro i p hi e he o ho
    have hent := hent p
    simp only [List.all_eq_true, List.mem_range] at hent
    have := hent i hi e he
    rw [ho] at this
    simp only [dstOf] at this
    cases hd : o.dst with
    | none => simp [hd] at this
    | some d => simp [hd] at this; rw [this]
  have hCt : ∀ j i, j < m → C.getD j none = some i → ((i ∈ B.getD j [] ∧ i < m) ∨ (l.length ≤ i ∧ i ∈ List.range' l.length nv)) ∧ ∀ k, k < m → C.getD k none = some i → k = j := by
    intro j i hj hji
    simp only [okTurn, List.all_eq_true, List.mem_range] at hC
    have h := hC j hj
    rw [hji] at h
    simp only [Bool.and_eq_true, List.all_eq_true, List.mem_range, Bool.or_eq_true, beq_iff_eq, bne_iff_ne, blt_lt] at h
    refine ⟨?_, fun k hk hki => ?_⟩
    · rcases h.1 with h' | h'
      · exact .inl ⟨by simpa using h'.1, h'.2⟩
      · have h1 : l.length ≤ i := by simpa using h'.1
        exact .inr ⟨h1, List.mem_range'_1.2 ⟨h1, h'.2⟩⟩
    rcases h.2 k hk with h' | h'
    · exact h'
    · exact absurd hki h'
  refine wp_region_any hm ?_
  have hn : l.toArray.size = l.length := by simp
  -- the tail, in its one order
  have tail : ∀ n k (listed : Array Bool) a w, l.length - k = n → m ≤ k → k ≤ l.length → listed.size = l.length → (∀ i, i < l.length → (listed.getD i false = true ↔ i < k)) → wpList P l.toArray Q (l.drop k) a w →
      wpAny P .any l.toArray Q n listed a w := by
    intro n
    induction n with
    | zero =>
      intro k listed a w hnk hk hkl hsz hl h
      have hkn : k = l.length := by omega
      subst hkn
      refine ⟨?_, by simpa [wpList] using h⟩
      rw [List.eq_nil_iff_forall_not_mem]
      intro j hj
      obtain ⟨h0, o, ho, _⟩ := mem_ready.1 hj
      have hjl : j < l.length := by have := (Array.getElem?_eq_some_iff.1 ho).1; simpa using this
      have := (hl j hjl).2 hjl
      simp [Array.getD_eq_getD_getElem?] at h0 this
      rw [Array.getElem?_eq_getElem (by omega)] at h0 this
      simp at h0 this
      rw [h0] at this; cases this
    | succ n ih =>
      intro k listed a w hnk hk hkl hsz hl h
      have hkl' : k < l.length := by omega
      have hko : l[k]? = some l[k] := List.getElem?_eq_getElem hkl'
      have hgetb : ∀ j d, j < l.length → listed.getD j d = listed.getD j false := by
        intro j d hj
        simp [Array.getD_eq_getD_getElem?, Array.getElem?_eq_getElem (show j < listed.size by omega)]
      obtain ⟨k1, k2, k3, _⟩ := okDraw_at hc hko
      refine ⟨fun hnil => ?_, fun i hi => ?_⟩
      · have : k ∈ Region.ready .any l.toArray listed := by
          refine mem_ready.2 ⟨?_, l[k], by simp [hkl'], fun e he hb => ?_⟩
          · rw [hgetb k true hkl']
            have := hl k hkl'
            cases hq : listed.getD k false with
            | false => rfl
            | true => exact absurd (this.1 hq) (Nat.lt_irrefl _)
          · have hlt := k1 e he hb
            exact (hl e.on (by omega)).2 hlt
        rw [hnil] at this; cases this
      · obtain ⟨h0, o, ho, hall⟩ := mem_ready.1 hi
        have hil : i < l.length := by have := (Array.getElem?_eq_some_iff.1 ho).1; simpa using this
        have ho' : l[i]? = some o := by simpa using ho
        have hik : i = k := by
          rw [hgetb i true hil] at h0
          have hge : k ≤ i := by
            rcases Nat.lt_or_ge i k with h | h
            · rw [(hl i hil).2 h] at h0; cases h0
            · exact h
          rcases Nat.lt_or_ge k i with h | h
          · obtain ⟨_, _, i3, _⟩ := okDraw_at hc ho'
            have hkin := i3 (by omega) k h
            have hcl : ∀ i o, l[i]? = some o → listed.getD i false = true → ∀ e ∈ o.after, Region.binds .any e = true → listed.getD e.on false = true := by
              intro i o hio hli e he hb
              have hlt := (okDraw_at hc hio).1 e he hb
              have hil' := (List.getElem?_eq_some_iff.1 hio).1
              exact (hl e.on (by omega)).2 (by have := (hl i hil').1 hli; omega)
            have := ahead_listed hc hcl i o ho' hall k hkin
            exact absurd ((hl k hkl').1 this) (Nat.lt_irrefl _)
          · omega
        subst hik
        have hoe : o = l[i] := by rw [List.getElem?_eq_getElem hil] at ho'; exact (Option.some.inj ho').symm
        subst hoe
        have hdrop : l.drop i = l[i] :: l.drop (i + 1) := (List.getElem_cons_drop (h := hil)).symm
        rw [hdrop] at h
        have hnext : ∀ a w, wpList P l.toArray Q (l.drop (i + 1)) a w → wpAny P .any l.toArray Q n (listed.setIfInBounds i true) a w := by
          intro a w h
          refine ih (i + 1) _ a w (by omega) (by omega) (by omega) (by simpa using hsz) (fun j hj => ?_) h
          by_cases hji : i = j
          · subst hji
            simp [hsz, hil]
          · rw [getD_set_ne false hji, hl j hj]
            omega
        unfold wpOp
        have hi' : l.toArray[i]? = some l[i] := by simp [hil]
        simp only [hi']
        simp only [wpList] at h
        split
        · rename_i hw
          rw [if_pos hw] at h
          exact h.imp (Oper.wp_mono hnext) (fun h => h)
        · rename_i hw
          rw [if_neg hw] at h
          exact hnext _ _ h
  -- the first ones, in any order
  have front : ∀ n (listed : Array Bool) (done : List Nat) (f : Nat → Par) a w, l.length - done.length = n → listed.size = l.length → done.Nodup → (∀ i ∈ done, i < m) → (∀ i, i < l.length → (listed.getD i false = true ↔ i ∈ done)) →
      (∀ i o, l[i]? = some o → listed.getD i false = true → ∀ e ∈ o.after, Region.binds .any e = true → listed.getD e.on false = true) →
      (∀ i, l.length ≤ i → f i = f0 i) → St N F0 D0 w0 a w (catR (fun i => res i (f i) (turned C done i)) (done ++ List.range' l.length nv) ++ R) (catE ent f done ++ E) → wpAny P .any l.toArray Q n listed a w := by
    intro n
    have hfin : ∀ (listed : Array Bool) (done : List Nat) (f : Nat → Par) a w, done.Nodup → (∀ i ∈ done, i < m) → (∀ i, i < m → i ∈ done) → (∀ i, l.length ≤ i → f i = f0 i) → St N F0 D0 w0 a w (catR (fun i => res i (f i) (turned C done i)) (done ++ List.range' l.length nv) ++ R) (catE ent f done ++ E) →
        wpList P l.toArray Q (l.drop m) a w := by
      intro listed done f a w hnd hdm hall hf0 S
      have hp : done.Perm (List.range m).reverse := by
        refine (List.perm_ext_iff_of_nodup hnd ?_).2 (fun i => ?_)
        · unfold List.Nodup; rw [List.pairwise_reverse]; exact (List.nodup_range (n := m)).imp (fun h => Ne.symm h)
        · simp only [List.mem_reverse, List.mem_range]; exact ⟨hdm i, hall i⟩
      have ht : ∀ i, turned C done i = turned C (List.range m) i := by
        intro i
        rw [Bool.eq_iff_iff]
        simp only [turned, List.any_eq_true, List.mem_range]
        exact ⟨fun ⟨j, h1, h2⟩ => ⟨j, hdm j h1, h2⟩, fun ⟨j, h1, h2⟩ => ⟨j, hall j h1, h2⟩⟩
      refine hend f a w hf0 ((S.permR (.append_right _ ((catR_perm (hp.append_right _)).trans (.of_eq (catR_congr fun i _ => by rw [ht i]))))).sub fun e he => ?_)
      rcases List.mem_append.1 he with h | h
      · obtain ⟨i, hi, he⟩ := mem_catE.1 h
        exact List.mem_append.2 (.inl (mem_catE.2 ⟨i, hall i (by simpa using hi), he⟩))
      · exact List.mem_append.2 (.inr h)
    induction n with
    | zero =>
      intro listed done f a w hnk hsz hnd hdm hl hcl hf0 S
      have hlen : done.length ≤ m := by
        have := List.Nodup.length_le_of_subset (l₂ := List.range m) hnd (fun i hi => by simpa using hdm i hi)
        simpa using this
      have : m = l.length := by omega
      have hall : ∀ i, i < m → i ∈ done := by
        intro i hi
        apply Classical.byContradiction
        intro hni
        have := List.Nodup.length_le_of_subset (l₂ := (List.range m).erase i) hnd (fun j hj => by
          have : j ≠ i := fun h => hni (h ▸ hj)
          rw [List.mem_erase_of_ne this]
          simpa using hdm j hj)
        rw [List.length_erase_of_mem (by simpa using hi)] at this
        simp at this
        omega
      refine tail 0 m listed a w (by omega) (Nat.le_refl _) hml' hsz (fun i hi => ?_) (hfin listed done f a w hnd hdm hall hf0 S)
      rw [hl i hi]; exact ⟨fun h => hdm i h, fun h => hall i h⟩
    | succ n ih =>
      intro listed done f a w hnk hsz hnd hdm hl hcl hf0 S
      by_cases hfull : ∀ i, i < m → i ∈ done
      · have hlen1 : done.length ≤ m := by
          have := List.Nodup.length_le_of_subset (l₂ := List.range m) hnd (fun i hi => by simpa using hdm i hi)
          simpa using this
        have hlen2 : m ≤ done.length := by
          have := List.Nodup.length_le_of_subset (l₁ := List.range m) (l₂ := done) List.nodup_range (fun i hi => hfull i (by simpa using hi))
          simpa using this
        refine tail (n + 1) m listed a w (by omega) (Nat.le_refl _) hml' hsz (fun i hi => ?_) (hfin listed done f a w hnd hdm hfull hf0 S)
        rw [hl i hi]; exact ⟨fun h => hdm i h, fun h => hfull i h⟩
      · have hgetb : ∀ j d, j < l.length → listed.getD j d = listed.getD j false := by
          intro j d hj
          simp [Array.getD_eq_getD_getElem?, Array.getElem?_eq_getElem (show j < listed.size by omega)]
        -- the least that isn't done is ready
        have hex : ∃ i, i < m ∧ i ∉ done := by
          apply Classical.byContradiction
          intro h
          exact hfull fun i hi => Classical.byContradiction fun h' => h ⟨i, hi, h'⟩
        have hready : ∀ k, (∃ i, i ≤ k ∧ i < m ∧ i ∉ done) → ∃ i, i < m ∧ i ∉ done ∧ ∀ j, j < i → j ∈ done := by
          intro k
          induction k with
          | zero => rintro ⟨i, hi, him, hid⟩; exact ⟨i, him, hid, fun j hj => by omega⟩
          | succ k ihk =>
            rintro ⟨i, hi, him, hid⟩
            by_cases h : ∃ j, j ≤ k ∧ j < m ∧ j ∉ done
            · exact ihk h
            · refine ⟨i, him, hid, fun j hj => Classical.byContradiction fun hj' => h ⟨j, by omega, by omega, hj'⟩⟩
        refine ⟨fun hnil => ?_, fun i hi => ?_⟩
        · obtain ⟨i0, h0m, h0d⟩ := hex
          obtain ⟨i, him, hid, hlow⟩ := hready i0 ⟨i0, Nat.le_refl _, h0m, h0d⟩
          have hil : i < l.length := by omega
          have : i ∈ Region.ready .any l.toArray listed := by
            refine mem_ready.2 ⟨?_, l[i], by simp [hil], fun e he hb => ?_⟩
            · rw [hgetb i true hil]
              cases hq : listed.getD i false with
              | false => rfl
              | true => exact absurd ((hl i hil).1 hq) hid
            · have hlt := (okDraw_at hc (List.getElem?_eq_getElem hil)).1 e he hb
              exact (hl e.on (by omega)).2 (hlow _ hlt)
          rw [hnil] at this; cases this
        · obtain ⟨h0, o, ho, hdir⟩ := mem_ready.1 hi
          have hil : i < l.length := by have := (Array.getElem?_eq_some_iff.1 ho).1; simpa using this
          have ho' : l[i]? = some o := by simpa using ho
          rw [hgetb i true hil] at h0
          have hid : i ∉ done := fun h => by rw [(hl i hil).2 h] at h0; cases h0
          have hah := ahead_listed hc hcl i o ho' hdir
          have him : i < m := by
            rcases Nat.lt_or_ge i m with h | h
            · exact h
            · exfalso
              apply hfull
              intro j hj
              have := hah j ((okDraw_at hc ho').2.2.1 h j (by omega))
              exact (hl j (by omega)).1 this
          have hbd : ∀ j ∈ B.getD i [], j ∈ done := fun j hj => (hl j (by have := ((okDraw_at hc ho').2.1 j hj).1; omega)).1 (hah j hj)
          have hobi := hob.get i o (by rw [List.getElem?_take, if_pos him]; exact ho')
          rw [Nat.zero_add] at hobi
          have hX : ∀ d, o.dst = some d → ((catE ent f done).all fun e => e.slot != d) = true := by
            intro d hd
            rw [List.all_eq_true]
            intro e he
            obtain ⟨j, hj, hej⟩ := mem_catE.1 he
            have hjm := hdm j hj
            have hjl : j < l.length := by omega
            have hjo : l[j]? = some l[j] := List.getElem?_eq_getElem hjl
            have hje := hentS j _ hjm e hej _ hjo
            rw [bne_iff_ne]
            intro heq
            rw [heq] at hje
            have hji : j ≠ i := fun h => hid (h ▸ hj)
            rcases Nat.lt_or_gt_of_ne hji with hlt | hlt
            · exact (okDraw_at hc ho').2.2.2 him j _ hlt hjo d hd hje
            · exact (okDraw_at hc hjo).2.2.2 hjm i _ hlt ho' d hje hd
          have hsubE : ∀ e ∈ catE ent f (B.getD i []) ++ E ++ catE ent f done, e ∈ catE ent f done ++ E := by
            intro e he
            rcases List.mem_append.1 he with h | h
            · rcases List.mem_append.1 h with h | h
              · obtain ⟨j, hj, hej⟩ := mem_catE.1 h
                exact List.mem_append.2 (.inl (mem_catE.2 ⟨j, hbd j hj, hej⟩))
              · exact List.mem_append.2 (.inr h)
            · exact List.mem_append.2 (.inl h)
          have hl' : ∀ j, j < l.length → ((listed.setIfInBounds i true).getD j false = true ↔ j ∈ i :: done) := by
            intro j hj
            by_cases hji : i = j
            · subst hji
              simp [hsz, hil]
            · rw [getD_set_ne false hji, hl j hj]
              simp [Ne.symm hji]
          have hcl' : ∀ p q, l[p]? = some q → (listed.setIfInBounds i true).getD p false = true → ∀ e ∈ q.after, Region.binds .any e = true → (listed.setIfInBounds i true).getD e.on false = true := by
            intro p q hp hlp e he hb
            by_cases hpi : i = p
            · subst hpi
              rw [ho'] at hp; cases hp
              exact getD_set_true (hdir e he hb)
            · rw [getD_set_ne false hpi] at hlp
              exact getD_set_true (hcl p q hp hlp e he hb)
          have hdm' : ∀ j ∈ i :: done, j < m := fun j hj => by
            rcases List.mem_cons.1 hj with rfl | hj
            · exact him
            · exact hdm j hj
          have hnv : i ∉ List.range' l.length nv := fun h => by have := (List.mem_range'_1.1 h).1; omega
          have hid' : i ∉ done ++ List.range' l.length nv := fun h => (List.mem_append.1 h).elim hid hnv
          have hnext : ∀ f' a' w', (∀ i, l.length ≤ i → f' i = f0 i) → St N F0 D0 w0 a' w' (catR (fun k => res k (f' k) (turned C (i :: done) k)) (i :: (done ++ List.range' l.length nv)) ++ R) (catE ent f' (i :: done) ++ E) → wpAny P .any l.toArray Q n (listed.setIfInBounds i true) a' w' := by
            intro f' a' w' hf' S'
            exact ih _ (i :: done) f' a' w' (by simp; omega) (by simpa using hsz) (List.nodup_cons.2 ⟨hid, hnd⟩) hdm' hl' hcl' hf' S'
          cases hci : C.getD i none with
          | none =>
            rw [hci] at hobi
            have S1 : St N F0 D0 w0 a w (R ++ catR (fun k => res k (f k) (turned C done k)) (done ++ List.range' l.length nv)) (catE ent f (B.getD i []) ++ E ++ catE ent f done) := (S.permR List.perm_append_comm).sub hsubE
            refine wpl_single ho' (hobi f _ _ a w hX S1) ?_
            rintro a' w' ⟨p, S2⟩
            have hfk : ∀ k ∈ done, (fun z => if z = i then p else f z) k = f k := by
              intro k hk
              have : k ≠ i := fun h => hid (h ▸ hk)
              simp [this]
            refine hnext (fun z => if z = i then p else f z) a' w' (fun k hk => by rw [if_neg (by omega)]; exact hf0 k hk) ((S2.permR ?_).sub fun e he => ?_)
            · have e1 : res i (if i = i then p else f i) (turned C (i :: done) i) = res i p false := by
                rw [if_pos rfl]
                congr 1
                rw [Bool.eq_false_iff]
                intro ht
                simp only [turned, List.any_eq_true, beq_iff_eq] at ht
                obtain ⟨j, hj, hji⟩ := ht
                have hj' := hdm' j hj
                have hmem : i ∈ B.getD j [] := by
                  rcases (hCt j i hj' hji).1 with h | h
                  · exact h.1
                  · have := h.1; omega
                rcases List.mem_cons.1 hj with rfl | hj
                · rw [hci] at hji; cases hji
                · -- i stands ahead of j, which is done
                  have hjl : j < l.length := by omega
                  have := ahead_listed hc hcl j _ (List.getElem?_eq_getElem hjl) (fun e he hb => hcl j _ (List.getElem?_eq_getElem hjl) ((hl j hjl).2 hj) e he hb) i hmem
                  exact hid ((hl i hil).1 this)
              have e2 : catR (fun k => res k (if k = i then p else f k) (turned C (i :: done) k)) (done ++ List.range' l.length nv) = catR (fun k => res k (f k) (turned C done k)) (done ++ List.range' l.length nv) := by
                refine catR_congr fun k hk => ?_
                have hki : k ≠ i := fun h => hid' (h ▸ hk)
                simp only [if_neg hki]
                congr 1
                simp only [turned, List.any_cons, hci]
                simp
              show (res i p false ++ (R ++ _)).Perm (catR (fun k => res k (if k = i then p else f k) (turned C (i :: done) k)) (i :: (done ++ List.range' l.length nv)) ++ R)
              rw [show catR (fun k => res k (if k = i then p else f k) (turned C (i :: done) k)) (i :: (done ++ List.range' l.length nv)) = res i (if i = i then p else f i) (turned C (i :: done) i) ++ catR (fun k => res k (if k = i then p else f k) (turned C (i :: done) k)) (done ++ List.range' l.length nv) from rfl, e1, e2, List.append_assoc]
              exact .append_left _ List.perm_append_comm
            · rcases List.mem_append.1 he with h | h
              · obtain ⟨j, hj, hej⟩ := mem_catE.1 h
                rcases List.mem_cons.1 hj with rfl | hj
                · refine List.mem_append.2 (.inl ?_)
                  simpa using hej
                · have hji : j ≠ i := fun h => hid (h ▸ hj)
                  simp only [if_neg hji] at hej
                  exact List.mem_append.2 (.inr (List.mem_append.2 (.inr (mem_catE.2 ⟨j, hj, hej⟩))))
              · exact List.mem_append.2 (.inr (List.mem_append.2 (.inl (List.mem_append.2 (.inr h)))))
          | some j =>
            rw [hci] at hobi
            obtain ⟨ho1, ho2, ho3⟩ := hobi
            obtain ⟨hjB, huniq⟩ := hCt i j him hci
            have hjd : j ∈ done ++ List.range' l.length nv := by
              rcases hjB with h | h
              · exact List.mem_append.2 (.inl (hbd j h.1))
              · exact List.mem_append.2 (.inr h.2)
            have hnd' : (done ++ List.range' l.length nv).Nodup := by
              refine List.nodup_append.2 ⟨hnd, List.nodup_range', fun x hx y hy hxy => ?_⟩
              have h1 := hdm x hx
              have h2 := (List.mem_range'_1.1 hy).1
              omega
            have htj : turned C done j = false := by
              rw [Bool.eq_false_iff]
              intro ht
              simp only [turned, List.any_eq_true, beq_iff_eq] at ht
              obtain ⟨k, hk, hkj⟩ := ht
              exact hid (huniq k (hdm k hk) hkj ▸ hk)
            have htj' : turned C (i :: done) j = true := by simp only [turned, List.any_cons, hci]; simp
            have hpe : (done ++ List.range' l.length nv).Perm (j :: (done ++ List.range' l.length nv).erase j) := List.perm_cons_erase hjd
            have hp1 : (catR (fun k => res k (f k) (turned C done k)) (done ++ List.range' l.length nv) ++ R).Perm (res j (f j) false ++ (R ++ catR (fun k => res k (f k) (turned C done k)) ((done ++ List.range' l.length nv).erase j))) := by
              refine (List.Perm.append_right _ (catR_perm hpe)).trans ?_
              show ((res j (f j) (turned C done j) ++ _) ++ R).Perm _
              rw [htj, List.append_assoc]
              exact .append_left _ List.perm_append_comm
            have S1 := (S.permR hp1).sub hsubE
            refine wpl_single ho' (ho3 f _ _ a w hX S1) ?_
            intro a' w' S2
            have hnj : ∀ k ∈ (done ++ List.range' l.length nv).erase j, k ≠ j := fun k hk h => (List.Nodup.not_mem_erase hnd') (h ▸ hk)
            refine hnext f a' w' hf0 ((S2.permR ?_).sub fun e he => ?_)
            · have e2 : catR (fun k => res k (f k) (turned C (i :: done) k)) ((done ++ List.range' l.length nv).erase j) = catR (fun k => res k (f k) (turned C done k)) ((done ++ List.range' l.length nv).erase j) := by
                refine catR_congr fun k hk => ?_
                have hkj := hnj k hk
                congr 1
                simp only [turned, List.any_cons, hci]
                have : (some j == some k) = false := by simpa using Ne.symm hkj
                rw [this, Bool.false_or]
              show (res j (f j) true ++ (R ++ _)).Perm (res i (f i) (turned C (i :: done) i) ++ catR (fun k => res k (f k) (turned C (i :: done) k)) (done ++ List.range' l.length nv) ++ R)
              rw [ho2, List.nil_append]
              refine List.Perm.trans ?_ (List.Perm.append_right _ (catR_perm hpe).symm)
              show List.Perm _ ((res j (f j) (turned C (i :: done) j) ++ catR (fun k => res k (f k) (turned C (i :: done) k)) ((done ++ List.range' l.length nv).erase j)) ++ R)
              rw [htj', e2, List.append_assoc]
              exact .append_left _ List.perm_append_comm
            · rcases List.mem_append.1 he with h | h
              · obtain ⟨k, hk, hek⟩ := mem_catE.1 h
                rcases List.mem_cons.1 hk with rfl | hk
                · rw [ho1] at hek; cases hek
                · exact List.mem_append.2 (.inr (mem_catE.2 ⟨k, hk, hek⟩))
              · exact List.mem_append.2 (.inl (List.mem_append.2 (.inr h)))
  rw [hn]
  refine front l.length (Array.replicate l.length false) [] f0 a _ (by simp) (by simp) List.nodup_nil (by simp) (fun i hi => ?_) (fun i o hi hl => ?_) (fun _ _ => rfl) ?_
  · simp [hi]
  · have hil := (List.getElem?_eq_some_iff.1 hi).1
    simp [hil] at hl
  · have e0 : (fun i => res i (f0 i) (turned C [] i)) = fun i => res i (f0 i) false := rfl
    rw [e0]
    exact (S.grow (below_drew1 w)).sub fun e he => by simpa [catE] using he
end
end Go.Tw
