/- Part of the proof of a law of this seat: TwLaw. No condition. -/
import Derived.Test.YtknffjhclhgoiaaDoorTwX
import Derived.Test.YtknffjhclhgoiaaDoorTwR
set_option linter.unusedVariables false
set_option linter.unusedSimpArgs false
namespace Go.Proofs.X
open Go Go.Tw Go.Proofs

theorem loop_dec {B : List UInt8 × Int → Option ((List UInt8 × Int) ⊕ (List UInt8 × Int))}
    (hB : ∀ (acc : List UInt8) (n : Int), B (acc, n) = (if decide (n > 9) then (if (bytesOf [IntKind.wrap .u8 (IntKind.wrap .u64 (48 + (Int.tmod n 10)))]).length + acc.length ≤ 9223372036854775807 then some (.inl ((bytesOf [IntKind.wrap .u8 (IntKind.wrap .u64 (48 + (Int.tmod n 10)))]) ++ acc, IntKind.wrap .u64 (Int.tdiv n 10))) else none) else some (.inr (acc, n)))) :
    ∀ (u : Nat) (acc : List UInt8), u < 18446744073709551616 → acc.length + (Lib.decDigits u).length ≤ 1000 → ∃ (acc' : List UInt8) (d : Nat), loopM B (acc, (u : Int)) = some (acc', (d : Int)) ∧ d < 10 ∧ UInt8.ofNat (48 + d) :: acc' = Lib.decDigits u ++ acc := by
  intro u
  induction u using Nat.strongRecOn with
  | _ u ih =>
    intro acc hu hl
    by_cases h : u < 10
    · refine ⟨acc, u, ?_, h, ?_⟩
      · apply loopM_done
        rw [hB]
        have : ¬ ((u : Int) > 9) := by omega
        simp [this]
      · rw [Lib.decDigits, dif_pos h]; rfl
    · have hd : Lib.decDigits u = Lib.decDigits (u / 10) ++ [UInt8.ofNat (48 + u % 10)] := by rw [Lib.decDigits, dif_neg h]
      have e1 : Int.tmod (u : Int) 10 = ((u % 10 : Nat) : Int) := by
        rw [Int.tmod_eq_emod_of_nonneg (by omega)]; omega
      have e2 : Int.tdiv (u : Int) 10 = ((u / 10 : Nat) : Int) := by
        rw [Int.tdiv_eq_ediv_of_nonneg (by omega)]; omega
      have e3 : IntKind.wrap .u64 (48 + ((u % 10 : Nat) : Int)) = 48 + ((u % 10 : Nat) : Int) := wrapu64 (by omega)
      have e4 : IntKind.wrap .u8 (48 + ((u % 10 : Nat) : Int)) = 48 + ((u % 10 : Nat) : Int) := by rw [IntKind.wrap_u8]; omega
      have e5 : bytesOf [48 + ((u % 10 : Nat) : Int)] = [UInt8.ofNat (48 + u % 10)] := by
        simp only [bytesOf, List.map_cons, List.map_nil]
        rw [show (48 + ((u % 10 : Nat) : Int)).toNat = 48 + u % 10 by omega]
      have e6 : IntKind.wrap .u64 ((u / 10 : Nat) : Int) = ((u / 10 : Nat) : Int) := wrapu64 (by omega)
      have hb : B (acc, (u : Int)) = some (.inl (UInt8.ofNat (48 + u % 10) :: acc, ((u / 10 : Nat) : Int))) := by
        rw [hB, e1, e2, e3, e4, e5, e6]
        have h9 : ((u : Int) > 9) := by omega
        rw [hd] at hl
        simp only [List.length_append, List.length_cons, List.length_nil] at hl
        simp only [h9, decide_true, if_true, List.length_cons, List.length_nil]
        rw [if_pos (by omega)]
        rfl
      rw [loopM_next hb]
      rw [hd] at hl
      simp only [List.length_append, List.length_cons, List.length_nil] at hl
      obtain ⟨acc', d, h1, h2, h3⟩ := ih (u / 10) (by omega) (UInt8.ofNat (48 + u % 10) :: acc) (by omega) (by simp only [List.length_cons]; omega)
      exact ⟨acc', d, h1, h2, by rw [h3, hd]; simp⟩
theorem dec_bind {B : List UInt8 × Int → Option ((List UInt8 × Int) ⊕ (List UInt8 × Int))} {k : List UInt8 × Int → Option (List UInt8)} {u : Nat} {r : List UInt8}
    (hB : ∀ (acc : List UInt8) (n : Int), B (acc, n) = (if decide (n > 9) then (if (bytesOf [IntKind.wrap .u8 (IntKind.wrap .u64 (48 + (Int.tmod n 10)))]).length + acc.length ≤ 9223372036854775807 then some (.inl ((bytesOf [IntKind.wrap .u8 (IntKind.wrap .u64 (48 + (Int.tmod n 10)))]) ++ acc, IntKind.wrap .u64 (Int.tdiv n 10))) else none) else some (.inr (acc, n))))
    (hu : u < 18446744073709551616) (hk : ∀ (acc' : List UInt8) (d : Nat), d < 10 → UInt8.ofNat (48 + d) :: acc' = Lib.decDigits u → k (acc', (d : Int)) = some r) : (loopM B ([], (u : Int))).bind k = some r := by
  have hl := decDigits_len hu
  obtain ⟨acc', d, h1, h2, h3⟩ := loop_dec hB u [] hu (by simp; omega)
  rw [h1]
  exact hk acc' d h2 (by simpa using h3)
theorem Decimal_eq {n : Int} (h : 0 ≤ n ∧ n < 18446744073709551616) : tollhouseref11_Decimal n = some (Lib.decDigits n.toNat) := by
  obtain ⟨u, rfl⟩ : ∃ u : Nat, n = u := ⟨n.toNat, by omega⟩
  have hl := decDigits_len (u := u) (by omega)
  unfold tollhouseref11_Decimal
  refine dec_bind ?_ (by omega) ?_
  · intro acc n; rfl
  intro acc' d h2 h3
  have e3 : IntKind.wrap .u64 (48 + (d : Int)) = 48 + (d : Int) := wrapu64 (by omega)
  have e4 : IntKind.wrap .u8 (48 + (d : Int)) = 48 + (d : Int) := by rw [IntKind.wrap_u8]; omega
  have e5 : bytesOf [48 + (d : Int)] = [UInt8.ofNat (48 + d)] := by
    simp only [bytesOf, List.map_cons, List.map_nil]
    rw [show (48 + (d : Int)).toNat = 48 + d by omega]
  have hl' : acc'.length + 1 ≤ 20 := by
    have := congrArg List.length h3
    simp only [List.length_cons] at this
    omega
  simp only [Option.bind_some, e3, e4, e5, List.length_cons, List.length_nil]
  rw [if_pos (by omega)]
  simp only [List.cons_append, List.nil_append, h3, Int.toNat_natCast]
theorem Num_eq {n : Int} (h : 0 ≤ n ∧ n < 18446744073709551616) : tollhouseref31_Num n = some (Lib.decDigits n.toNat) := by
  unfold tollhouseref31_Num
  rw [Decimal_eq h]; rfl
theorem Int_eq {n : Int} (h : -9223372036854775808 ≤ n ∧ n ≤ 9223372036854775807) : tollhouseref31_Int n = some (Lib.itoa n) := by
  unfold tollhouseref31_Int Lib.itoa
  by_cases h0 : n < 0
  · have e : IntKind.wrap .u64 (IntKind.wrap .u64 (IntKind.wrap .i64 (-IntKind.wrap .i64 (n + 1))) + 1) = -n := by
      rw [wrap64 (x := n + 1) (by omega), wrap64 (x := -(n + 1)) (by omega), wrapu64 (x := -(n + 1)) (by omega), wrapu64 (by omega)]; omega
    have hl := decDigits_len (u := n.natAbs) (by omega)
    rw [e, Num_eq (by omega)]
    have e2 : (-n).toNat = n.natAbs := by omega
    simp only [h0, decide_true, if_true, Option.bind_some, e2, List.length_cons, List.length_nil]
    rw [if_pos (by omega)]
    rfl
  · simp only [h0, decide_false, Bool.false_eq_true, if_false]
    rw [wrapu64 (x := n) (by omega), Num_eq (by omega)]
    rfl

/-- A loop that appends what each element gives. -/
theorem loop_map {α β : Type} {B : Int × List β → Option ((Int × List β) ⊕ List β)} (xs : List α) (z : α) (f : α → β) (acc0 : List β)
    (hB : ∀ (i : Nat) (acc : List β), i < xs.length → acc.length = acc0.length + i → B ((i : Int), acc) = some (.inl ((i : Int) + 1, acc ++ [f (xs.getD i z)])))
    (hE : ∀ acc, B ((xs.length : Int), acc) = some (.inr acc)) : loopM B (0, acc0) = some (acc0 ++ xs.map f) := by
  have := loop_seq (body := B) xs.length (fun i => ((i : Int), acc0 ++ (xs.take i).map f)) (acc0 ++ xs.map f) (fun i hi => ?_) (by simp only [List.take_length]; exact hE _)
  · simpa using this
  · have h := hB i (acc0 ++ (xs.take i).map f) hi (by simp; omega)
    rw [h, take_next (z := z) hi]
    simp
theorem To_eq (s : S_tollhouseref12_State) (h : s.Conds.length ≤ 40) :
    tollhouselaw12_To s = some { Channel := s.Channel, Round := s.Round, Moved := s.Moved, Taken := s.Taken, Conds := s.Conds.map fun c => { Id := c.Id, By := c.By, Amount := c.Amount, Hash := c.Hash, Expiry := c.Expiry } } := by
  unfold tollhouselaw12_To
  rw [loop_map s.Conds zS_tollhouseref10_Cond (fun c => ({ Id := c.Id, By := c.By, Amount := c.Amount, Hash := c.Hash, Expiry := c.Expiry } : S_api_Cond)) []]
  · rfl
  · intro i acc hi ha
    have h1 : ((i : Int) < (s.Conds.length : Int)) := by omega
    have e : IntKind.wrap .i64 ((i : Int) + 1) = (i : Int) + 1 := wrap64 (by omega)
    simp only [h1, decide_true, if_true, e, Int.toNat_natCast, tollhouselaw10_To, Option.bind_some, List.length_cons, List.length_nil]
    simp only [List.length_nil, Nat.zero_add] at ha
    rw [if_pos ⟨by omega, trivial⟩, if_pos (by omega)]
  · intro acc
    have h1 : ¬ ((s.Conds.length : Int) < (s.Conds.length : Int)) := by omega
    simp [h1]
theorem From_eq (s : S_api_State) (h : s.Conds.length ≤ 40) :
    tollhouselaw12_From s = some { Channel := s.Channel, Round := s.Round, Moved := s.Moved, Taken := s.Taken, Conds := s.Conds.map fun c => { Id := c.Id, By := c.By, Amount := c.Amount, Hash := c.Hash, Expiry := c.Expiry } } := by
  unfold tollhouselaw12_From
  rw [loop_map s.Conds zS_api_Cond (fun c => ({ Id := c.Id, By := c.By, Amount := c.Amount, Hash := c.Hash, Expiry := c.Expiry } : S_tollhouseref10_Cond)) []]
  · rfl
  · intro i acc hi ha
    have h1 : ((i : Int) < (s.Conds.length : Int)) := by omega
    have e : IntKind.wrap .i64 ((i : Int) + 1) = (i : Int) + 1 := wrap64 (by omega)
    simp only [h1, decide_true, if_true, e, Int.toNat_natCast, tollhouselaw10_From, Option.bind_some, List.length_cons, List.length_nil]
    simp only [List.length_nil, Nat.zero_add] at ha
    rw [if_pos ⟨by omega, trivial⟩, if_pos (by omega)]
  · intro acc
    have h1 : ¬ ((s.Conds.length : Int) < (s.Conds.length : Int)) := by omega
    simp [h1]

/-! ### lists that are compared -/
theorem loop_eq {α : Type} [DecidableEq α] (a b : List α) (z : α) (hl : a.length = b.length) {B : Int → Option (Int ⊕ (Bool ⊕ Unit))}
    (hB : ∀ i : Nat, i < a.length → B (i : Int) = if a.getD i z = b.getD i z then some (.inl ((i : Int) + 1)) else some (.inr (.inl false))) (hE : B (a.length : Int) = some (.inr (.inr ()))) :
    loopM B 0 = some (if a = b then .inr () else .inl false) := by
  have key : ∀ k, k ≤ a.length → a.take (a.length - k) = b.take (a.length - k) → loopM B ((a.length - k : Nat) : Int) = some (if a = b then .inr () else .inl false) := by
    intro k
    induction k with
    | zero =>
      intro _ h
      rw [Nat.sub_zero, List.take_length] at h
      have : a = b := by rw [h, hl, List.take_length]
      rw [loopM_done (t := .inr ()) (by simpa using hE), if_pos this]
    | succ k ih =>
      intro hk h
      have hi : a.length - (k + 1) < a.length := by omega
      have h1 := hB (a.length - (k + 1)) hi
      by_cases he : a.getD (a.length - (k + 1)) z = b.getD (a.length - (k + 1)) z
      · rw [if_pos he] at h1
        rw [loopM_next h1]
        have e : ((a.length - (k + 1) : Nat) : Int) + 1 = ((a.length - k : Nat) : Int) := by omega
        rw [e]
        refine ih (by omega) ?_
        have e2 : a.length - k = a.length - (k + 1) + 1 := by omega
        rw [e2, take_next (z := z) hi, take_next (z := z) (by omega), h, he]
      · rw [if_neg he] at h1
        rw [loopM_done h1, if_neg (fun h => he (by rw [h]))]
  have := key a.length (Nat.le_refl _) (by simp)
  simpa using this
theorem same_eq (a b : List (List UInt8)) (hl : a.length ≤ 1000) : tollhouselaw31_same a b = some (decide (a = b)) := by
  unfold tollhouselaw31_same
  by_cases h : a.length = b.length
  · have e : ((a.length : Int) = (b.length : Int)) := by omega
    simp only [e, decide_true, Bool.not_true, Bool.false_eq_true, if_false]
    rw [loop_eq a b [] h]
    · by_cases hab : a = b
      · simp [hab]
      · simp [hab]
    · intro i hi
      have h1 : ((i : Int) < (b.length : Int)) := by omega
      have e : IntKind.wrap .i64 ((i : Int) + 1) = (i : Int) + 1 := wrap64 (by omega)
      simp only [h1, decide_true, if_true, e, Int.toNat_natCast]
      rw [if_pos ⟨by omega, trivial⟩, if_pos ⟨by omega, trivial⟩]
      by_cases he : a.getD i [] = b.getD i []
      · simp only [he, decide_true, Bool.not_true, Bool.false_eq_true, if_false, if_true]
      · simp only [he, decide_false, Bool.not_false, if_true, if_false]
    · have h1 : ¬ ((b.length : Int) < (b.length : Int)) := by omega
      simp [h]
  · have e : ¬ ((a.length : Int) = (b.length : Int)) := by omega
    have hab : ¬ a = b := fun h' => h (by rw [h'])
    simp only [e, decide_false, Bool.not_false, if_true, hab]
theorem Same_eq (a b : S_tollhouseref12_State) (hl : a.Conds.length ≤ 1000) : tollhouseref12_Same a b = some (decide (a = b)) := by
  unfold tollhouseref12_Same
  have hab : a = b ↔ a.Channel = b.Channel ∧ a.Round = b.Round ∧ a.Moved = b.Moved ∧ a.Taken = b.Taken ∧ a.Conds = b.Conds := by
    cases a; cases b; simp
  by_cases h1 : a.Channel = b.Channel
  · by_cases h2 : a.Round = b.Round
    · by_cases h3 : a.Moved = b.Moved
      · by_cases h4 : a.Taken = b.Taken
        · by_cases h5 : a.Conds.length = b.Conds.length
          · have e : ((a.Conds.length : Int) = (b.Conds.length : Int)) := by omega
            simp only [h1, h2, h3, h4, e, decide_true, Bool.not_true, Bool.false_eq_true, if_false, Option.bind_some]
            rw [loop_eq a.Conds b.Conds zS_tollhouseref10_Cond h5]
            · by_cases h6 : a.Conds = b.Conds
              · have : a = b := hab.2 ⟨h1, h2, h3, h4, h6⟩
                simp only [h6, this, if_true, Option.bind_some, decide_true]
              · have : ¬ a = b := fun h => h6 (by rw [h])
                simp only [h6, this, if_false, Option.bind_some, decide_false]
            · intro i hi
              have h1 : ((i : Int) < (b.Conds.length : Int)) := by omega
              have e : IntKind.wrap .i64 ((i : Int) + 1) = (i : Int) + 1 := wrap64 (by omega)
              simp only [h1, decide_true, if_true, e, Int.toNat_natCast]
              rw [if_pos ⟨by omega, trivial⟩, if_pos ⟨by omega, trivial⟩]
              by_cases he : a.Conds.getD i zS_tollhouseref10_Cond = b.Conds.getD i zS_tollhouseref10_Cond
              · simp only [he, decide_true, Bool.not_true, Bool.false_eq_true, if_false, if_true]
              · simp only [he, decide_false, Bool.not_false, if_true, if_false]
            · have h1 : ¬ ((b.Conds.length : Int) < (b.Conds.length : Int)) := by omega
              simp [h5]
          · have e : ¬ ((a.Conds.length : Int) = (b.Conds.length : Int)) := by omega
            have : ¬ a = b := fun h => h5 (by rw [h])
            simp only [h1, h2, h3, h4, e, this, decide_true, decide_false, Bool.not_true, Bool.not_false, Bool.false_eq_true, if_false, if_true, Option.bind_some]
        · have : ¬ a = b := fun h => h4 (by rw [h])
          simp only [h1, h2, h3, h4, this, decide_true, decide_false, Bool.not_true, Bool.not_false, Bool.false_eq_true, if_false, if_true, Option.bind_some]
      · have : ¬ a = b := fun h => h3 (by rw [h])
        simp only [h1, h2, h3, this, decide_true, decide_false, Bool.not_true, Bool.not_false, Bool.false_eq_true, if_false, if_true, Option.bind_some]
    · have : ¬ a = b := fun h => h2 (by rw [h])
      simp only [h1, h2, this, decide_true, decide_false, Bool.not_true, Bool.not_false, Bool.false_eq_true, if_false, if_true, Option.bind_some]
  · have : ¬ a = b := fun h => h1 (by rw [h])
    simp only [h1, this, decide_true, decide_false, Bool.not_true, Bool.not_false, Bool.false_eq_true, if_false, if_true, Option.bind_some]

/-! ### numbers as words -/
def joinL (sep : List UInt8) : List (List UInt8) → List UInt8
  | [] => []
  | x :: l => x ++ l.flatMap fun y => sep ++ y
theorem loop_flat {α β : Type} {B : Int × List β → Option ((Int × List β) ⊕ List β)} (xs : List α) (z : α) (f : α → List β) (acc0 : List β)
    (hB : ∀ (i : Nat) (acc : List β), i < xs.length → acc = acc0 ++ (xs.take i).flatMap f → B ((i : Int), acc) = some (.inl ((i : Int) + 1, acc ++ f (xs.getD i z))))
    (hE : ∀ acc, B ((xs.length : Int), acc) = some (.inr acc)) : loopM B (0, acc0) = some (acc0 ++ xs.flatMap f) := by
  have := loop_seq (body := B) xs.length (fun i => ((i : Int), acc0 ++ (xs.take i).flatMap f)) (acc0 ++ xs.flatMap f) (fun i hi => ?_) (by simp only [List.take_length]; exact hE _)
  · simpa using this
  · have h := hB i (acc0 ++ (xs.take i).flatMap f) hi rfl
    rw [h, take_next (z := z) hi]
    simp
theorem flat_len {α β : Type} {f : α → List β} {m : Nat} : ∀ (xs : List α), (∀ x ∈ xs, (f x).length ≤ m) → (xs.flatMap f).length ≤ xs.length * m
  | [], _ => by simp
  | x :: xs, h => by
    have h1 := h x (by simp)
    have h2 := flat_len xs (fun y hy => h y (List.mem_cons_of_mem _ hy))
    simp only [List.flatMap_cons, List.length_append, List.length_cons, Nat.succ_mul]
    omega
theorem sum_bind {B : Int × Int → Option ((Int × Int) ⊕ Int)} {k : Int → Option (List UInt8)} {r : List UInt8} {c0 : Int} (xs : List (List UInt8)) (h3 : xs.length ≤ 3) (hl : ∀ x ∈ xs, x.length ≤ 30) (h0 : 0 ≤ c0 ∧ c0 ≤ 10)
    (hB : ∀ (i : Nat) (n : Int), i < xs.length → 0 ≤ n ∧ n ≤ 1000 → (xs.getD i []).length ≤ 30 → B ((i : Int), n) = some (.inl ((i : Int) + 1, n + ((xs.getD i []).length : Int))))
    (hE : ∀ n, B ((xs.length : Int), n) = some (.inr n)) (hk : ∀ N : Int, 0 ≤ N ∧ N ≤ 1000 → k N = some r) : (loopM B (0, c0)).bind k = some r := by
  have key : ∀ m, m ≤ xs.length → ∀ n : Int, 0 ≤ n ∧ n ≤ 10 + 30 * ((xs.length - m : Nat) : Int) → ∃ N, loopM B (((xs.length - m : Nat) : Int), n) = some N ∧ 0 ≤ N ∧ N ≤ 1000 := by
    intro m
    induction m with
    | zero => intro _ n hn; exact ⟨n, loopM_done (by simpa using hE n), hn.1, by omega⟩
    | succ m ih =>
      intro hm n hn
      have hi : xs.length - (m + 1) < xs.length := by omega
      have hx : (xs.getD (xs.length - (m + 1)) []).length ≤ 30 := by
        rw [List.getD_eq_getElem?_getD, List.getElem?_eq_getElem hi]
        exact hl _ (List.getElem_mem hi)
      have h1 := hB (xs.length - (m + 1)) n hi (by omega) hx
      rw [loopM_next h1]
      have e : ((xs.length - (m + 1) : Nat) : Int) + 1 = ((xs.length - m : Nat) : Int) := by omega
      rw [e]
      exact ih (by omega) _ (by omega)
  obtain ⟨N, h1, h2⟩ := key xs.length (Nat.le_refl _) c0 (by omega)
  rw [Nat.sub_self] at h1
  rw [show (loopM B (0, c0)) = some N from h1]
  exact hk N h2
theorem flat_bind {B : Int × List UInt8 → Option ((Int × List UInt8) ⊕ List UInt8)} {k : List UInt8 → Option (List UInt8)} {r : List UInt8} {acc0 : List UInt8} (xs : List (List UInt8)) (h3 : xs.length ≤ 3) (hl : ∀ x ∈ xs, x.length ≤ 30) (h0 : acc0.length ≤ 30)
    (hB : ∀ (i : Nat) (acc : List UInt8), i < xs.length → acc.length ≤ 1000 → (xs.getD i []).length ≤ 30 → B ((i : Int), acc) = some (.inl ((i : Int) + 1, acc ++ ([32] ++ xs.getD i []))))
    (hE : ∀ acc, B ((xs.length : Int), acc) = some (.inr acc)) (hk : k (acc0 ++ xs.flatMap fun y => [32] ++ y) = some r) : (loopM B (0, acc0)).bind k = some r := by
  rw [loop_flat xs [] (fun y => [32] ++ y) acc0]
  · exact hk
  · intro i acc hi ha
    have hx : (xs.getD i []).length ≤ 30 := by
      rw [List.getD_eq_getElem?_getD, List.getElem?_eq_getElem hi]
      exact hl _ (List.getElem_mem hi)
    refine hB i acc hi ?_ hx
    rw [ha, List.length_append]
    have := flat_len (f := fun y : List UInt8 => [32] ++ y) (m := 31) (xs.take i) (fun x hx => by
      have := hl x (List.mem_of_mem_take hx)
      simp; omega)
    simp only [List.length_take] at this
    have h5 : min i xs.length * 31 ≤ 3 * 31 := Nat.mul_le_mul_right _ (by omega)
    omega
  · exact hE
theorem Join_eq (xs : List (List UInt8)) (h : xs.length ≤ 3) (hl : ∀ x ∈ xs, x.length ≤ 30) : strings_Join xs [32] = some (joinL [32] xs) := by
  have core : ∀ (xs : List (List UInt8)) (a b : List UInt8) (l : List (List UInt8)), xs = a :: b :: l → xs.length ≤ 3 → (∀ x ∈ xs, x.length ≤ 30) → strings_Join xs [32] = some (joinL [32] xs) := by
    intro xs a b l hx h hl
    have hlen : xs.length = l.length + 2 := by rw [hx]; rfl
    have h1 : ¬ ((xs.length : Int) = 0) := by omega
    have h2 : ¬ ((xs.length : Int) = 1) := by omega
    have hw : IntKind.wrap .i64 ((xs.length : Int) - 1) = (xs.length : Int) - 1 := wrap64 (by omega)
    have hw2 : IntKind.wrap .i64 ((([32] : List UInt8).length : Int) * ((xs.length : Int) - 1)) = (xs.length : Int) - 1 := by rw [wrap64 (by simp; omega)]; simp
    have hw3 : IntKind.wrap .i64 (0 + ((xs.length : Int) - 1)) = (xs.length : Int) - 1 := by rw [wrap64 (by omega)]; omega
    have hd : ¬ ((([32] : List UInt8).length : Int) ≥ IntKind.wrap .i64 (Int.tdiv 9223372036854775807 ((xs.length : Int) - 1))) := by
      have : (xs.length : Int) - 1 = 1 ∨ (xs.length : Int) - 1 = 2 := by omega
      rcases this with e | e <;> rw [e] <;> decide
    have hs : ((([32] : List UInt8).length : Int) > 0) := by decide
    have hne : ((xs.length : Int) - 1) ≠ 0 := by omega
    unfold strings_Join
    simp only [h1, h2, hs, hw, hw2, hw3, hd, hne, decide_true, decide_false, Bool.false_eq_true, if_false, if_true, Option.bind_some, ne_eq, not_false_eq_true]
    refine sum_bind xs h hl (by omega) ?_ ?_ ?_
    · intro i n hi hn hx
      have h5 : ((i : Int) < (xs.length : Int)) := by omega
      have e : IntKind.wrap .i64 ((i : Int) + 1) = (i : Int) + 1 := wrap64 (by omega)
      have e2 : IntKind.wrap .i64 (9223372036854775807 - n) = 9223372036854775807 - n := wrap64 (by omega)
      have e3 : IntKind.wrap .i64 (n + ((xs.getD i []).length : Int)) = n + ((xs.getD i []).length : Int) := wrap64 (by omega)
      have e4 : ¬ (((xs.getD i []).length : Int) > 9223372036854775807 - n) := by omega
      simp only [h5, decide_true, if_true, Int.toNat_natCast, e, e2, e3, e4, decide_false, Bool.false_eq_true, if_false]
      rw [if_pos ⟨by omega, trivial⟩]
    · intro n
      have h5 : ¬ ((xs.length : Int) < (xs.length : Int)) := by omega
      simp only [h5, decide_false, Bool.false_eq_true, if_false]
    · intro N hN
      have e0 : xs.getD (0 : Int).toNat [] = a := by rw [hx]; rfl
      have e1 : xs.drop (1 : Int).toNat = b :: l := by rw [hx]; rfl
      have ha : a.length ≤ 30 := hl a (by rw [hx]; simp)
      rw [if_pos (by omega), if_pos (by omega), e0, e1, List.nil_append, if_pos (by simp; omega), if_pos (by omega)]
      refine flat_bind (b :: l) (by rw [hx] at h; simp at h ⊢; omega) (fun x hx' => hl x (by rw [hx]; exact List.mem_cons_of_mem _ hx')) ha ?_ ?_ ?_
      · intro i acc hi hacc hx'
        have h5 : ((i : Int) < ((b :: l).length : Int)) := by omega
        have e : IntKind.wrap .i64 ((i : Int) + 1) = (i : Int) + 1 := wrap64 (by
          have : (b :: l).length ≤ 3 := by rw [hx] at h; simp at h ⊢; omega
          omega)
        simp only [h5, decide_true, if_true, Int.toNat_natCast, e]
        rw [if_pos ⟨by omega, trivial⟩, if_pos (by simp only [List.length_cons, List.length_nil]; omega), if_pos (by simp only [List.length_append, List.length_cons, List.length_nil]; omega), List.append_assoc]
      · intro acc
        have h5 : ¬ (((b :: l).length : Int) < ((b :: l).length : Int)) := by omega
        simp only [h5, decide_false, Bool.false_eq_true, if_false]
      · rw [hx]; rfl
  match xs, h, hl with
  | [], _, _ => simp [strings_Join, joinL]
  | [a], _, _ => simp [strings_Join, joinL]
  | a :: b :: l, h, hl => exact core _ a b l rfl h hl
theorem Fmt_eq {n : Int} (h : 0 ≤ n ∧ n < 18446744073709551616) : strconv_FormatUint n 10 = some (Lib.decDigits n.toNat) := by
  unfold strconv_FormatUint
  rw [if_pos ⟨rfl, h.1, h.2⟩]
theorem num_eq (l : List Int) (h : l.length ≤ 3) (hl : ∀ n ∈ l, 0 ≤ n ∧ n < 18446744073709551616) : report_num l = some (joinL [32] (l.map fun n => Lib.decDigits n.toNat)) := by
  unfold report_num
  rw [loop_map l 0 (fun n => Lib.decDigits n.toNat) []]
  · simp only [Option.bind_some, List.nil_append]
    rw [Join_eq _ (by simpa using h) (fun x hx => by
      obtain ⟨n, hn, rfl⟩ := List.mem_map.1 hx
      have := decDigits_len (u := n.toNat) (by have := hl n hn; omega)
      omega)]
    rfl
  · intro i acc hi ha
    have h1 : ((i : Int) < (l.length : Int)) := by omega
    have e : IntKind.wrap .i64 ((i : Int) + 1) = (i : Int) + 1 := wrap64 (by omega)
    have hn : 0 ≤ l.getD i 0 ∧ l.getD i 0 < 18446744073709551616 := by
      rw [List.getD_eq_getElem?_getD, List.getElem?_eq_getElem hi]
      exact hl _ (List.getElem_mem hi)
    simp only [h1, decide_true, if_true, e, Int.toNat_natCast, Fmt_eq hn, Option.bind_some, List.length_cons, List.length_nil]
    simp only [List.length_nil, Nat.zero_add] at ha
    rw [if_pos ⟨by omega, trivial⟩, if_pos (by omega)]
  · intro acc
    have h1 : ¬ ((l.length : Int) < (l.length : Int)) := by omega
    simp [h1]

/-! ### hex -/
def hexD : List UInt8 := [48, 49, 50, 51, 52, 53, 54, 55, 56, 57, 97, 98, 99, 100, 101, 102]
def hexOf (c : Int) : List UInt8 := [hexD.getD (c.toNat / 16) 0, hexD.getD (c.toNat % 16) 0]
theorem byteAll {p : Int → Prop} (h : ∀ n : Fin 256, p (n.val : Int)) (c : Int) (hc : 0 ≤ c ∧ c < 256) : p c := by
  have := h ⟨c.toNat, by omega⟩
  rwa [show ((⟨c.toNat, by omega⟩ : Fin 256).val : Int) = c by simp; omega] at this
theorem shr4 (c : Int) (hc : 0 ≤ c ∧ c < 256) : shrI .u8 c 4 = c / 16 := byteAll (p := fun c => shrI .u8 c 4 = c / 16) (by decide +kernel) c hc
theorem and15 (c : Int) (hc : 0 ≤ c ∧ c < 256) : bitAnd .u8 c 15 = c % 16 := byteAll (p := fun c => bitAnd .u8 c 15 = c % 16) (by decide +kernel) c hc
theorem hexD_lt (n : Nat) (h : n < 16) : ((hexD.getD n 0).toNat : Int) < 256 := by
  have := (hexD.getD n 0).toNat_lt; omega
theorem hexD_back (n : Nat) : UInt8.ofNat ((hexD.getD n 0).toNat : Int).toNat = hexD.getD n 0 := by simp
theorem hexD_noBlank (n : Nat) (h : n < 16) : hexD.getD n 0 ≠ 32 := by
  have : ∀ k : Fin 16, hexD.getD k.val 0 ≠ 32 := by decide
  exact this ⟨n, h⟩
theorem hexD_inj {m n : Nat} (hm : m < 16) (hn : n < 16) (h : hexD.getD m 0 = hexD.getD n 0) : m = n := by
  have : ∀ j k : Fin 16, hexD.getD j.val 0 = hexD.getD k.val 0 → j = k := by decide
  have := this ⟨m, hm⟩ ⟨n, hn⟩ h
  simpa using this
theorem short_eq (d : List Int) (h : ∀ c ∈ d, 0 ≤ c ∧ c < 256) : report_short d = some ((d.take 4).flatMap hexOf) := by
  unfold report_short
  have h4 : (4 : Int).toNat = 4 := rfl
  simp only [h4]
  rw [loop_flat (d.take 4) 0 hexOf []]
  · rfl
  · intro i acc hi ha
    have hl : (d.take 4).length ≤ 4 := by simp; omega
    have hc : 0 ≤ (d.take 4).getD i 0 ∧ (d.take 4).getD i 0 < 256 := by
      rw [List.getD_eq_getElem?_getD, List.getElem?_eq_getElem hi]
      exact h _ (List.mem_of_mem_take (List.getElem_mem hi))
    have hal : acc.length ≤ 8 := by
      rw [ha, List.nil_append]
      have := flat_len (f := hexOf) (m := 2) ((d.take 4).take i) (fun _ _ => by simp [hexOf])
      simp only [List.length_take] at this
      omega
    have h1 : ((i : Int) < ((d.take 4).length : Int)) := by omega
    have e : IntKind.wrap .i64 ((i : Int) + 1) = (i : Int) + 1 := wrap64 (by omega)
    simp only [h1, decide_true, if_true, e, Int.toNat_natCast, shr4 _ hc, and15 _ hc]
    generalize (d.take 4).getD i 0 = c at hc
    have e1 : (c / 16).toNat = c.toNat / 16 := by omega
    have e2 : (c % 16).toNat = c.toNat % 16 := by omega
    have k1 : c.toNat / 16 < 16 := by omega
    have k2 : c.toNat % 16 < 16 := by omega
    have hx : ∀ n, ([48, 49, 50, 51, 52, 53, 54, 55, 56, 57, 97, 98, 99, 100, 101, 102] : List UInt8).getD n 0 = hexD.getD n 0 := fun _ => rfl
    simp only [e1, e2, hx]
    have b1 := hexD_lt _ k1
    have b2 := hexD_lt _ k2
    rw [if_pos ⟨by omega, trivial⟩, if_pos ⟨by omega, by simp only [List.length_cons, List.length_nil]; omega⟩, if_pos ⟨by omega, b1, by omega⟩, if_pos ⟨by omega, by simp only [List.length_cons, List.length_nil]; omega⟩,
      if_pos ⟨by omega, b2, by simp only [List.length_append, List.length_cons, List.length_nil]; omega⟩]
    simp only [hexD_back, UInt8.ofNat_toNat, hexOf, List.append_assoc, List.cons_append, List.nil_append]
  · intro acc
    have h1 : ¬ (((d.take 4).length : Int) < ((d.take 4).length : Int)) := by omega
    simp only [h1, decide_false, Bool.false_eq_true, if_false]
theorem Short_eq (d : List Int) (hl : d.length = 32) (h : ∀ c ∈ d, 0 ≤ c ∧ c < 256) : tollhouseref31_Short d = some ((d.take 4).flatMap hexOf) := by
  unfold tollhouseref31_Short
  have h4 : (d.take 4).length = 4 := by simp; omega
  rw [loop_flat (d.take 4) 0 hexOf []]
  · rfl
  · intro i acc hi ha
    have hc : 0 ≤ (d.take 4).getD i 0 ∧ (d.take 4).getD i 0 < 256 := by
      rw [List.getD_eq_getElem?_getD, List.getElem?_eq_getElem hi]
      exact h _ (List.mem_of_mem_take (List.getElem_mem hi))
    have hg : d.getD i 0 = (d.take 4).getD i 0 := by
      simp only [List.getD_eq_getElem?_getD, List.getElem?_take]
      rw [if_pos (by omega)]
    have hal : acc.length ≤ 8 := by
      rw [ha, List.nil_append]
      have := flat_len (f := hexOf) (m := 2) ((d.take 4).take i) (fun _ _ => by simp [hexOf])
      simp only [List.length_take] at this
      omega
    have h1 : ((i : Int) < 4) := by omega
    have e : IntKind.wrap .i64 ((i : Int) + 1) = (i : Int) + 1 := wrap64 (by omega)
    simp only [h1, decide_true, if_true, e, Int.toNat_natCast, hg]
    generalize (d.take 4).getD i 0 = c at hc
    have t1 : Int.tdiv c 16 = c / 16 := Int.tdiv_eq_ediv_of_nonneg hc.1
    have t2 : Int.tmod c 16 = c % 16 := Int.tmod_eq_emod_of_nonneg hc.1
    have t3 : IntKind.wrap .u8 (c / 16) = c / 16 := by rw [IntKind.wrap_u8]; omega
    have e1 : (c / 16).toNat = c.toNat / 16 := by omega
    have e2 : (c % 16).toNat = c.toNat % 16 := by omega
    have hx : ∀ n, ([48, 49, 50, 51, 52, 53, 54, 55, 56, 57, 97, 98, 99, 100, 101, 102] : List UInt8).getD n 0 = hexD.getD n 0 := fun _ => rfl
    have eb : bytesOf [((hexD.getD (c.toNat / 16) 0).toNat : Int), ((hexD.getD (c.toNat % 16) 0).toNat : Int)] = hexOf c := by
      simp only [bytesOf, List.map_cons, List.map_nil, hexD_back, hexOf]
    simp only [t1, t2, t3, e1, e2, hx, eb]
    rw [if_pos (by omega), if_pos ⟨by omega, by simp only [List.length_cons, List.length_nil]; omega⟩, if_pos (by omega), if_pos ⟨by omega, by simp only [List.length_cons, List.length_nil]; omega⟩, if_pos (by simp only [hexOf, List.length_cons, List.length_nil]; omega)]
  · intro acc
    have h1 : ¬ (((d.take 4).length : Int) < 4) := by omega
    simp only [h1, decide_false, Bool.false_eq_true, if_false]
theorem hexOf_inj {a b : Int} (ha : 0 ≤ a ∧ a < 256) (hb : 0 ≤ b ∧ b < 256) (h : hexOf a = hexOf b) : a = b := by
  simp only [hexOf, List.cons.injEq, and_true] at h
  have h1 := hexD_inj (by omega) (by omega) h.1
  have h2 := hexD_inj (by omega) (by omega) h.2
  omega
theorem hexs_inj : ∀ {a b : List Int}, (∀ c ∈ a, 0 ≤ c ∧ c < 256) → (∀ c ∈ b, 0 ≤ c ∧ c < 256) → a.length = b.length → a.flatMap hexOf = b.flatMap hexOf → a = b
  | [], [], _, _, _, _ => rfl
  | [], _ :: _, _, _, hl, _ => by simp at hl
  | _ :: _, [], _, _, hl, _ => by simp at hl
  | x :: a, y :: b, ha, hb, hl, h => by
    simp only [List.flatMap_cons] at h
    have h' := List.append_inj h (by simp [hexOf])
    rw [hexOf_inj (ha x (by simp)) (hb y (by simp)) h'.1, hexs_inj (fun c hc => ha c (List.mem_cons_of_mem _ hc)) (fun c hc => hb c (List.mem_cons_of_mem _ hc)) (by simpa using hl) h'.2]
theorem noBlank_hex (d : List Int) (h : ∀ c ∈ d, 0 ≤ c ∧ c < 256) : noBlank (d.flatMap hexOf) := by
  intro c hc
  obtain ⟨x, hx, hcx⟩ := List.mem_flatMap.1 hc
  have := h x hx
  simp only [hexOf, List.mem_cons, List.not_mem_nil, or_false] at hcx
  rcases hcx with rfl | rfl
  · exact hexD_noBlank _ (by omega)
  · exact hexD_noBlank _ (by omega)

/-! ### lines -/
theorem num1 {n : Int} (h : 0 ≤ n ∧ n < 18446744073709551616) : report_num [n] = some (Lib.decDigits n.toNat) := by
  rw [num_eq [n] (by simp) (by simpa using h)]; simp [joinL]
theorem num2 {m n : Int} (hm : 0 ≤ m ∧ m < 18446744073709551616) (hn : 0 ≤ n ∧ n < 18446744073709551616) : report_num [m, n] = some ((Lib.decDigits m.toNat ++ [32]) ++ Lib.decDigits n.toNat) := by
  rw [num_eq [m, n] (by simp) (by
    intro x hx
    simp only [List.mem_cons, List.not_mem_nil, or_false] at hx
    rcases hx with rfl | rfl <;> assumption)]
  simp [joinL]
theorem num3 {m n k : Int} (hm : 0 ≤ m ∧ m < 18446744073709551616) (hn : 0 ≤ n ∧ n < 18446744073709551616) (hk : 0 ≤ k ∧ k < 18446744073709551616) :
    report_num [m, n, k] = some ((((Lib.decDigits m.toNat ++ [32]) ++ Lib.decDigits n.toNat) ++ [32]) ++ Lib.decDigits k.toNat) := by
  rw [num_eq [m, n, k] (by simp) (by
    intro x hx
    simp only [List.mem_cons, List.not_mem_nil, or_false] at hx
    rcases hx with rfl | rfl | rfl <;> assumption)]
  simp [joinL]
theorem two_eq {l : List Int} {m n : Int} (hl : l = [m, n]) (hm : 0 ≤ m ∧ m < 18446744073709551616) (hn : 0 ≤ n ∧ n < 18446744073709551616) : tollhouseref31_two l = some ((Lib.decDigits m.toNat ++ [32]) ++ Lib.decDigits n.toNat) := by
  subst hl
  have l1 := decDigits_len (u := m.toNat) (by omega)
  have l2 := decDigits_len (u := n.toNat) (by omega)
  unfold tollhouseref31_two
  have e0 : ([m, n].getD (0 : Int).toNat 0) = m := rfl
  have e1 : ([m, n].getD (1 : Int).toNat 0) = n := rfl
  rw [e0, e1, Num_eq hm, Num_eq hn]
  simp only [Option.bind_some]
  rw [if_pos (by simp only [List.length_cons, List.length_nil]; omega), if_pos (by simp only [List.length_append, List.length_cons, List.length_nil]; omega)]

structure CondOk (c : S_tollhouseref10_Cond) : Prop where
  id : 0 ≤ c.Id ∧ c.Id < 18446744073709551616
  by' : -9223372036854775808 ≤ c.By ∧ c.By ≤ 9223372036854775807
  amount : 0 ≤ c.Amount ∧ c.Amount < 18446744073709551616
  len : c.Hash.length = 32
  hash : ∀ x ∈ c.Hash, 0 ≤ x ∧ x < 256
  expiry : 0 ≤ c.Expiry ∧ c.Expiry < 18446744073709551616
structure StateOk (s : S_tollhouseref12_State) : Prop where
  channel : 0 ≤ s.Channel ∧ s.Channel < 4294967296
  round : 0 ≤ s.Round ∧ s.Round < 18446744073709551616
  moved : s.Moved.length = 2 ∧ ∀ x ∈ s.Moved, 0 ≤ x ∧ x < 18446744073709551616
  taken : s.Taken.length = 2 ∧ ∀ x ∈ s.Taken, 0 ≤ x ∧ x < 18446744073709551616
  conds : ∀ c ∈ s.Conds, CondOk c
def payLine (c : S_tollhouseref10_Cond) : List UInt8 :=
  ((((((((([112, 97, 121, 109, 101, 110, 116, 32] : List UInt8) ++ Lib.decDigits c.Id.toNat) ++ ([32, 98, 121, 32] : List UInt8)) ++ Lib.itoa c.By) ++ ([32, 111, 102, 32] : List UInt8)) ++ Lib.decDigits c.Amount.toNat) ++ ([32, 102, 111, 114, 32] : List UInt8)) ++ (c.Hash.take 4).flatMap hexOf) ++ ([32, 117, 112, 32, 116, 111, 32] : List UInt8)) ++ Lib.decDigits c.Expiry.toNat
def headLine (ch r a b c d : Int) : List UInt8 :=
  ((((((([99, 104, 97, 110, 110, 101, 108, 32] : List UInt8) ++ Lib.decDigits ch.toNat) ++ ([32, 114, 111, 117, 110, 100, 32] : List UInt8)) ++ Lib.decDigits r.toNat) ++ ([32, 109, 111, 118, 101, 100, 32] : List UInt8)) ++ ((Lib.decDigits a.toNat ++ [32]) ++ Lib.decDigits b.toNat)) ++ ([32, 116, 97, 107, 101, 110, 32] : List UInt8)) ++ ((Lib.decDigits c.toNat ++ [32]) ++ Lib.decDigits d.toNat)
theorem hex_len (d : List Int) : ((d.take 4).flatMap hexOf).length ≤ 8 := by
  have := flat_len (f := hexOf) (m := 2) (d.take 4) (fun _ _ => by simp [hexOf])
  simp only [List.length_take] at this
  omega
theorem Payment_eq {c : S_tollhouseref10_Cond} (h : CondOk c) : tollhouseref31_Payment c = some (payLine c) := by
  have l1 := decDigits_len (u := c.Id.toNat) (by have := h.id; omega)
  have l2 := itoa_len h.by'.1 h.by'.2
  have l3 := decDigits_len (u := c.Amount.toNat) (by have := h.amount; omega)
  have l4 := hex_len c.Hash
  have l5 := decDigits_len (u := c.Expiry.toNat) (by have := h.expiry; omega)
  unfold tollhouseref31_Payment
  simp only [Num_eq h.id, Int_eq h.by', Num_eq h.amount, Short_eq _ h.len h.hash, Num_eq h.expiry, Option.bind_some]
  repeat rw [if_pos (by simp only [List.length_append, List.length_cons, List.length_nil]; omega)]
  rfl
theorem refState_eq {s : S_tollhouseref12_State} (h : StateOk s) {a b c d : Int} (hm : s.Moved = [a, b]) (ht : s.Taken = [c, d]) (hn : s.Conds.length ≤ 40) : tollhouseref31_State s = some (headLine s.Channel s.Round a b c d :: s.Conds.map payLine) := by
  have ha : 0 ≤ a ∧ a < 18446744073709551616 := h.moved.2 a (by rw [hm]; simp)
  have hb : 0 ≤ b ∧ b < 18446744073709551616 := h.moved.2 b (by rw [hm]; simp)
  have hc : 0 ≤ c ∧ c < 18446744073709551616 := h.taken.2 c (by rw [ht]; simp)
  have hd : 0 ≤ d ∧ d < 18446744073709551616 := h.taken.2 d (by rw [ht]; simp)
  have hch := h.channel
  have hr := h.round
  have l1 := decDigits_len (u := s.Channel.toNat) (by omega)
  have l2 := decDigits_len (u := s.Round.toNat) (by omega)
  have l3 := decDigits_len (u := a.toNat) (by omega)
  have l4 := decDigits_len (u := b.toNat) (by omega)
  have l5 := decDigits_len (u := c.toNat) (by omega)
  have l6 := decDigits_len (u := d.toNat) (by omega)
  have ec : IntKind.wrap .u64 s.Channel = s.Channel := wrapu64 (by omega)
  unfold tollhouseref31_State
  simp only [ec, Num_eq (n := s.Channel) (by omega), Num_eq hr, two_eq hm ha hb, two_eq ht hc hd, Option.bind_some]
  repeat rw [if_pos (by simp only [List.length_append, List.length_cons, List.length_nil]; omega)]
  rw [loop_map s.Conds zS_tollhouseref10_Cond payLine]
  · rfl
  · intro i acc hi hacc
    have h1 : ((i : Int) < (s.Conds.length : Int)) := by omega
    have e : IntKind.wrap .i64 ((i : Int) + 1) = (i : Int) + 1 := wrap64 (by omega)
    have hok : CondOk (s.Conds.getD i zS_tollhouseref10_Cond) := by
      rw [List.getD_eq_getElem?_getD, List.getElem?_eq_getElem hi]
      exact h.conds _ (List.getElem_mem hi)
    simp only [List.length_cons, List.length_nil] at hacc
    simp only [h1, decide_true, if_true, e, Int.toNat_natCast, Payment_eq hok, Option.bind_some, List.length_cons, List.length_nil]
    rw [if_pos ⟨by omega, trivial⟩, if_pos (by omega)]
  · intro acc
    have h1 : ¬ ((s.Conds.length : Int) < (s.Conds.length : Int)) := by omega
    simp [h1]
theorem Itoa_eq {n : Int} (h : -9223372036854775808 ≤ n ∧ n ≤ 9223372036854775807) : strconv_Itoa n = some (Lib.itoa n) := by
  unfold strconv_Itoa
  rw [if_pos h]
abbrev toC (c : S_tollhouseref10_Cond) : S_api_Cond := { Id := c.Id, By := c.By, Amount := c.Amount, Hash := c.Hash, Expiry := c.Expiry }
abbrev toS (s : S_tollhouseref12_State) : S_api_State := { Channel := s.Channel, Round := s.Round, Moved := s.Moved, Taken := s.Taken, Conds := s.Conds.map toC }
theorem State_eq {s : S_tollhouseref12_State} (h : StateOk s) {a b c d : Int} (hm : s.Moved = [a, b]) (ht : s.Taken = [c, d]) (hn : s.Conds.length ≤ 40) : report_State (toS s) = some (headLine s.Channel s.Round a b c d :: s.Conds.map payLine) := by
  have ha : 0 ≤ a ∧ a < 18446744073709551616 := h.moved.2 a (by rw [hm]; simp)
  have hb : 0 ≤ b ∧ b < 18446744073709551616 := h.moved.2 b (by rw [hm]; simp)
  have hc : 0 ≤ c ∧ c < 18446744073709551616 := h.taken.2 c (by rw [ht]; simp)
  have hd : 0 ≤ d ∧ d < 18446744073709551616 := h.taken.2 d (by rw [ht]; simp)
  have hch := h.channel
  have hr := h.round
  have l1 := decDigits_len (u := s.Channel.toNat) (by omega)
  have l2 := decDigits_len (u := s.Round.toNat) (by omega)
  have l3 := decDigits_len (u := a.toNat) (by omega)
  have l4 := decDigits_len (u := b.toNat) (by omega)
  have l5 := decDigits_len (u := c.toNat) (by omega)
  have l6 := decDigits_len (u := d.toNat) (by omega)
  have ec : IntKind.wrap .u64 s.Channel = s.Channel := wrapu64 (by omega)
  unfold report_State
  simp only [ec, num1 (n := s.Channel) (by omega), num1 hr, hm, ht, num2 ha hb, num2 hc hd, Option.bind_some]
  repeat rw [if_pos (by simp only [List.length_append, List.length_cons, List.length_nil]; omega)]
  have hlm : (s.Conds.map toC).length = s.Conds.length := by simp
  have hmap : s.Conds.map payLine = (s.Conds.map toC).map fun c => payLine { Id := c.Id, By := c.By, Amount := c.Amount, Hash := c.Hash, Expiry := c.Expiry } := by
    rw [List.map_map]; rfl
  rw [hmap, loop_map (s.Conds.map toC) zS_api_Cond (fun c => payLine { Id := c.Id, By := c.By, Amount := c.Amount, Hash := c.Hash, Expiry := c.Expiry })]
  · rfl
  · intro i acc hi hacc
    have h1 : ((i : Int) < ((s.Conds.map toC).length : Int)) := by omega
    have e : IntKind.wrap .i64 ((i : Int) + 1) = (i : Int) + 1 := wrap64 (by omega)
    obtain ⟨q, hq, hok⟩ : ∃ q : S_tollhouseref10_Cond, (s.Conds.map toC).getD i zS_api_Cond = toC q ∧ CondOk q := by
      rw [List.getD_eq_getElem?_getD, List.getElem?_eq_getElem hi]
      exact ⟨s.Conds[i]'(by omega), by simp, h.conds _ (List.getElem_mem _)⟩
    have m1 := decDigits_len (u := q.Id.toNat) (by have := hok.id; omega)
    have m2 := itoa_len hok.by'.1 hok.by'.2
    have m3 := decDigits_len (u := q.Amount.toNat) (by have := hok.amount; omega)
    have m4 := hex_len q.Hash
    have m5 := decDigits_len (u := q.Expiry.toNat) (by have := hok.expiry; omega)
    simp only [List.length_cons, List.length_nil] at hacc
    simp only [h1, decide_true, if_true, e, Int.toNat_natCast, hq, num1 hok.id, Itoa_eq hok.by', num1 hok.amount, short_eq _ hok.hash, num1 hok.expiry, Option.bind_some]
    rw [if_pos ⟨by omega, trivial⟩]
    repeat rw [if_pos (by simp only [List.length_append, List.length_cons, List.length_nil]; omega)]
    rfl
  · intro acc
    have h1 : ¬ (((s.Conds.map toC).length : Int) < ((s.Conds.map toC).length : Int)) := by omega
    simp only [h1, decide_false, Bool.false_eq_true, if_false]
end Go.Proofs.X
