/- The typed walk, part R: the plain side: loops by their states; numerals; lines that are cut at blanks. -/
import Derived.Test.YtknffjhclhgoiaaDoorTwQ
import Derived.Lib.ItoaNum
set_option linter.unusedVariables false
set_option linter.unusedSimpArgs false
namespace Go.Tw
open Go

/-- A loop by its states. -/
theorem loop_seq {σ τ : Type} {body : σ → Option (σ ⊕ τ)} (n : Nat) (S : Nat → σ) (t : τ) (step : ∀ i, i < n → body (S i) = some (.inl (S (i + 1)))) (stop : body (S n) = some (.inr t)) : loopM body (S 0) = some t := by
  have : ∀ k, k ≤ n → loopM body (S (n - k)) = some t := by
    intro k
    induction k with
    | zero => intro _; exact loopM_done stop
    | succ k ih =>
      intro hk
      rw [loopM_next (step (n - (k + 1)) (by omega)), show n - (k + 1) + 1 = n - k by omega]
      exact ih (by omega)
  have := this n (Nat.le_refl _)
  rwa [Nat.sub_self] at this
theorem wrap64 {x : Int} (h : -9223372036854775808 ≤ x ∧ x ≤ 9223372036854775807) : IntKind.wrap .i64 x = x := by rw [IntKind.wrap_i64]; omega
theorem wrapu64 {x : Int} (h : 0 ≤ x ∧ x ≤ 18446744073709551615) : IntKind.wrap .u64 x = x := by rw [IntKind.wrap_u64]; omega
theorem take_next {α : Type} {xs : List α} {i : Nat} {z : α} (h : i < xs.length) : xs.take (i + 1) = xs.take i ++ [xs.getD i z] := by
  rw [List.take_add_one, List.getElem?_eq_getElem h]
  simp [List.getD, List.getElem?_eq_getElem h]

/-! ### numerals -/
def digitsOk (l : List UInt8) : Prop := ∀ c ∈ l, 48 ≤ c.toNat ∧ c.toNat ≤ 57
def valOf (l : List UInt8) : Nat := l.foldl (fun n c => n * 10 + (c.toNat - 48)) 0
theorem valOf_cat (l : List UInt8) (c : UInt8) : valOf (l ++ [c]) = valOf l * 10 + (c.toNat - 48) := by simp [valOf]
theorem digit_nat {d : Nat} (h : d < 10) : (UInt8.ofNat (48 + d)).toNat = 48 + d := by rw [UInt8.toNat_ofNat']; omega
theorem decDigits_ok (u : Nat) : digitsOk (Lib.decDigits u) ∧ valOf (Lib.decDigits u) = u := by
  induction u using Nat.strongRecOn with
  | _ u ih =>
    rw [Lib.decDigits]
    split
    · rename_i h
      refine ⟨fun c hc => ?_, ?_⟩
      · simp only [List.mem_singleton] at hc
        subst hc
        rw [digit_nat h]; omega
      · simp only [valOf, List.foldl_cons, List.foldl_nil]
        rw [digit_nat h]; omega
    · rename_i h
      obtain ⟨h1, h2⟩ := ih (u / 10) (by omega)
      have hd : u % 10 < 10 := Nat.mod_lt _ (by omega)
      refine ⟨fun c hc => ?_, ?_⟩
      · rcases List.mem_append.1 hc with hc | hc
        · exact h1 c hc
        · simp only [List.mem_singleton] at hc
          subst hc
          rw [digit_nat hd]; omega
      · rw [valOf_cat, h2, digit_nat hd]; omega
theorem decDigits_inj {u v : Nat} (h : Lib.decDigits u = Lib.decDigits v) : u = v := by
  rw [← (decDigits_ok u).2, ← (decDigits_ok v).2, h]
theorem decDigits_len {u : Nat} (h : u < 18446744073709551616) : (Lib.decDigits u).length ≤ 20 := by
  rw [Lib.decDigits_length]
  by_cases h0 : 1 ≤ u
  · have := Lib.numDigits_eq u h0 h; split at this <;> omega
  · have : u = 0 := by omega
    subst this
    rw [Lib.nDigits_small (by omega)]; omega
theorem itoa_inj {m n : Int} (h : Lib.itoa m = Lib.itoa n) : m = n := by
  have hd : ∀ (u : Nat) (l : List UInt8), Lib.decDigits u = 45 :: l → False := by
    intro u l e
    have := (decDigits_ok u).1 45 (by rw [e]; simp)
    simp at this
  unfold Lib.itoa at h
  split at h <;> split at h
  · have := decDigits_inj (List.cons.inj h).2; omega
  · exact (hd _ _ h.symm).elim
  · exact (hd _ _ h).elim
  · have := decDigits_inj h; omega
theorem itoa_len {n : Int} (h0 : -9223372036854775808 ≤ n) (h1 : n ≤ 9223372036854775807) : (Lib.itoa n).length ≤ 21 := by
  unfold Lib.itoa
  split
  · have := decDigits_len (u := n.natAbs) (by omega); simp; omega
  · have := decDigits_len (u := n.toNat) (by omega); omega

/-! ### lines that are cut at blanks -/
def noBlank (l : List UInt8) : Prop := ∀ c ∈ l, c ≠ 32
theorem noBlank_dec (u : Nat) : noBlank (Lib.decDigits u) := by
  intro c hc e
  have := (decDigits_ok u).1 c hc
  subst e
  simp at this
theorem noBlank_itoa (n : Int) : noBlank (Lib.itoa n) := by
  unfold Lib.itoa
  split
  · intro c hc e
    rcases List.mem_cons.1 hc with h | h
    · subst e; simp at h
    · exact noBlank_dec _ c h e
  · exact noBlank_dec _
theorem cut_blank {a b r s : List UInt8} (ha : noBlank a) (hb : noBlank b) (h : a ++ 32 :: r = b ++ 32 :: s) : a = b ∧ r = s := by
  induction a generalizing b with
  | nil =>
    cases b with
    | nil => simpa using h
    | cons c b => simp at h; exact absurd h.1.symm (hb c (by simp))
  | cons c a ih =>
    cases b with
    | nil => simp at h; exact absurd h.1 (ha c (by simp))
    | cons d b =>
      simp only [List.cons_append, List.cons.injEq] at h
      obtain ⟨h1, h2⟩ := ih (fun x hx => ha x (List.mem_cons_of_mem _ hx)) (fun x hx => hb x (List.mem_cons_of_mem _ hx)) h.2
      exact ⟨by rw [h.1, h1], h2⟩
end Go.Tw
