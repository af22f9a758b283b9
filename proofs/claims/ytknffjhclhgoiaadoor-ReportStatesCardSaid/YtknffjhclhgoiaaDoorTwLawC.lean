/- Part of the proof of a law of this seat: TwLawC. No condition. -/
import Derived.Test.YtknffjhclhgoiaaDoorTwLawB
set_option linter.unusedVariables false
set_option linter.unusedSimpArgs false
namespace Go.Proofs.X
open Go Go.Tw Go.Proofs

theorem head_inj {ch r a b c d ch' r' a' b' c' d' : Int} (h0 : 0 ≤ ch ∧ 0 ≤ r ∧ 0 ≤ a ∧ 0 ≤ b ∧ 0 ≤ c ∧ 0 ≤ d) (h1 : 0 ≤ ch' ∧ 0 ≤ r' ∧ 0 ≤ a' ∧ 0 ≤ b' ∧ 0 ≤ c' ∧ 0 ≤ d') (h : headLine ch r a b c d = headLine ch' r' a' b' c' d') :
    ch = ch' ∧ r = r' ∧ a = a' ∧ b = b' ∧ c = c' ∧ d = d' := by
  simp only [headLine, List.append_assoc, List.cons_append, List.nil_append, List.cons.injEq, true_and] at h
  obtain ⟨e1, h⟩ := cut_blank (noBlank_dec _) (noBlank_dec _) h
  simp only [List.cons.injEq, true_and] at h
  obtain ⟨e2, h⟩ := cut_blank (noBlank_dec _) (noBlank_dec _) h
  simp only [List.cons.injEq, true_and] at h
  obtain ⟨e3, h⟩ := cut_blank (noBlank_dec _) (noBlank_dec _) h
  obtain ⟨e4, h⟩ := cut_blank (noBlank_dec _) (noBlank_dec _) h
  simp only [List.cons.injEq, true_and] at h
  obtain ⟨e5, h⟩ := cut_blank (noBlank_dec _) (noBlank_dec _) h
  have e1 := decDigits_inj e1
  have e2 := decDigits_inj e2
  have e3 := decDigits_inj e3
  have e4 := decDigits_inj e4
  have e5 := decDigits_inj e5
  have e6 := decDigits_inj h
  omega
theorem pay_inj {c d : S_tollhouseref10_Cond} (hc : CondOk c) (hd : CondOk d) (h : payLine c = payLine d) : c.Id = d.Id ∧ c.By = d.By ∧ c.Amount = d.Amount ∧ c.Hash.take 4 = d.Hash.take 4 ∧ c.Expiry = d.Expiry := by
  have b1 : ∀ x ∈ c.Hash.take 4, 0 ≤ x ∧ x < 256 := fun x hx => hc.hash x (List.mem_of_mem_take hx)
  have b2 : ∀ x ∈ d.Hash.take 4, 0 ≤ x ∧ x < 256 := fun x hx => hd.hash x (List.mem_of_mem_take hx)
  simp only [payLine, List.append_assoc, List.cons_append, List.nil_append, List.cons.injEq, true_and] at h
  obtain ⟨e1, h⟩ := cut_blank (noBlank_dec _) (noBlank_dec _) h
  simp only [List.cons.injEq, true_and] at h
  obtain ⟨e2, h⟩ := cut_blank (noBlank_itoa _) (noBlank_itoa _) h
  simp only [List.cons.injEq, true_and] at h
  obtain ⟨e3, h⟩ := cut_blank (noBlank_dec _) (noBlank_dec _) h
  simp only [List.cons.injEq, true_and] at h
  obtain ⟨e4, h⟩ := cut_blank (noBlank_hex _ b1) (noBlank_hex _ b2) h
  simp only [List.cons.injEq, true_and] at h
  have e1 := decDigits_inj e1
  have e3 := decDigits_inj e3
  have e5 := decDigits_inj h
  have k1 := hc.id
  have k2 := hd.id
  have k3 := hc.amount
  have k4 := hd.amount
  have k5 := hc.expiry
  have k6 := hd.expiry
  refine ⟨by omega, itoa_inj e2, by omega, hexs_inj b1 b2 (by simp [hc.len, hd.len]) e4, by omega⟩
abbrev zap1 (c : S_tollhouseref10_Cond) : S_tollhouseref10_Cond := { c with Hash := List.replicate 32 0 }
def zap (l : List S_tollhouseref10_Cond) (i : Nat) : List S_tollhouseref10_Cond := (l.take i).map zap1 ++ l.drop i
theorem zap_len (l : List S_tollhouseref10_Cond) (i : Nat) : (zap l i).length = l.length := by
  simp [zap]; omega
theorem zap_get (l : List S_tollhouseref10_Cond) (i : Nat) (z : S_tollhouseref10_Cond) (hi : i < l.length) : (zap l i).getD i z = l.getD i z := by
  simp only [zap, List.getD_eq_getElem?_getD]
  rw [List.getElem?_append_right (by simp; omega)]
  simp only [List.length_map, List.length_take, List.getElem?_drop]
  congr 2
  omega
theorem zap_set (l : List S_tollhouseref10_Cond) (i : Nat) (z : S_tollhouseref10_Cond) (hi : i < l.length) : (zap l i).set i (zap1 (l.getD i z)) = zap l (i + 1) := by
  have hl : ((l.take i).map zap1).length = i := by simp; omega
  have hd : l.drop i = l.getD i z :: l.drop (i + 1) := by
    rw [← List.getElem_cons_drop (h := hi)]
    simp [List.getD, List.getElem?_eq_getElem hi]
  unfold zap
  rw [take_next (z := z) hi, hd, List.set_append_right _ _ (by omega), hl, Nat.sub_self, List.set_cons_zero]
  simp
theorem zap_all {l m : List S_tollhouseref10_Cond} (hl : ∀ c ∈ l, CondOk c) (hm : ∀ c ∈ m, CondOk c) (h : l.map payLine = m.map payLine) : l.map zap1 = m.map zap1 ∧ ∀ i z, ((l.getD i z).Hash).take 4 = ((m.getD i z).Hash).take 4 := by
  induction l generalizing m with
  | nil =>
    cases m with
    | nil => simp
    | cons _ _ => simp at h
  | cons c l ih =>
    cases m with
    | nil => simp at h
    | cons d m =>
      simp only [List.map_cons, List.cons.injEq] at h
      obtain ⟨h1, h2⟩ := ih (fun x hx => hl x (List.mem_cons_of_mem _ hx)) (fun x hx => hm x (List.mem_cons_of_mem _ hx)) h.2
      obtain ⟨p1, p2, p3, p4, p5⟩ := pay_inj (hl c (by simp)) (hm d (by simp)) h.1
      constructor
      · simp only [List.map_cons, h1, List.cons.injEq, and_true]
        simp only [zap1, p1, p2, p3, p5]
      · intro i z
        cases i with
        | zero => simpa using p4
        | succ i => simpa using h2 i z
theorem awake_eq : tollhouselaw31_awake = some true := by
  unfold tollhouselaw31_awake
  have hz : StateOk { zS_tollhouseref12_State with Channel := 3 } := ⟨by decide, by decide, ⟨rfl, by
    intro x hx
    have : x = 0 := by simpa [zS_tollhouseref12_State] using hx
    subst this; decide⟩, ⟨rfl, by
    intro x hx
    have : x = 0 := by simpa [zS_tollhouseref12_State] using hx
    subst this; decide⟩, by intro c hc; cases hc⟩
  have h1 : pact_New 3 = some (toS { zS_tollhouseref12_State with Channel := 3 }) := rfl
  have h2 := State_eq hz (a := 0) (b := 0) (c := 0) (d := 0) rfl rfl (by decide)
  rw [h1, Option.bind_some, h2, Option.bind_some, same_eq _ _ (by simp [zS_tollhouseref12_State]), Option.bind_some]
  congr 1
  rw [decide_eq_true_iff]
  have e3 : Lib.decDigits (3 : Int).toNat = [51] := Lib.decDigits_one (i := 3) (by omega)
  have e0 : Lib.decDigits (0 : Int).toNat = [48] := Lib.decDigits_one (i := 0) (by omega)
  show headLine 3 0 0 0 0 0 :: [] = _
  simp only [headLine, e3, e0]
  rfl
end Go.Proofs.X
