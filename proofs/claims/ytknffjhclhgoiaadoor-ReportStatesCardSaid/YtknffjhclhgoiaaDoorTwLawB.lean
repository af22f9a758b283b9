/- Part of the proof of a law of this seat: TwLawB. No condition. -/
import Derived.Test.YtknffjhclhgoiaaDoorTwLaw
set_option linter.unusedVariables false
set_option linter.unusedSimpArgs false
namespace Go.Proofs.X
open Go Go.Tw Go.Proofs

structure OpOk (o : S_tollhouseref12_Op) : Prop where
  kind : -9223372036854775808 ≤ o.Kind ∧ o.Kind ≤ 9223372036854775807
  amount : 0 ≤ o.Amount ∧ o.Amount < 18446744073709551616
  cond : CondOk o.Cond
  id : 0 ≤ o.Id ∧ o.Id < 18446744073709551616
abbrev toO (o : S_tollhouseref12_Op) : S_pact_Op := { Kind := o.Kind, Amount := o.Amount, Cond := toC o.Cond, Id := o.Id }
theorem Op_eq (o : S_tollhouseref12_Op) : tollhouselaw12_Op o = some (toO o) := rfl
theorem word_of (n : Int) (h : 0 ≤ n ∧ n < 6) : report_word tab0 n = some (tab0.getD n.toNat []) := by
  unfold report_word
  have h1 : ¬ n < 0 := by omega
  have hl : (tab0.length : Int) = 6 := rfl
  have h2 : ¬ n ≥ 6 := by omega
  simp only [h1, hl, h2, decide_false, Bool.false_eq_true, if_false, Option.bind_some]
  rw [if_pos h]
theorem word_out (n : Int) (h : n < 0 ∨ 6 ≤ n) (h2 : -9223372036854775808 ≤ n ∧ n ≤ 9223372036854775807) : report_word tab0 n = some (Lib.itoa n) := by
  unfold report_word
  have hl : (tab0.length : Int) = 6 := rfl
  rcases h with h | h
  · simp only [h, hl, decide_true, if_true, Option.bind_some, Itoa_eq h2]
  · have h1 : ¬ n < 0 := by omega
    have h3 : n ≥ 6 := h
    simp only [h1, hl, h3, decide_true, decide_false, Bool.false_eq_true, if_false, if_true, Option.bind_some, Itoa_eq h2]
theorem Wish_eq {o : S_tollhouseref12_Op} (h : OpOk o) : report_Wish (toO o) = tollhouseref31_Wish o ∧ ∃ l, tollhouseref31_Wish o = some l := by
  have l1 := decDigits_len (u := o.Amount.toNat) (by have := h.amount; omega)
  have l2 := decDigits_len (u := o.Id.toNat) (by have := h.id; omega)
  have l3 := decDigits_len (u := o.Cond.Id.toNat) (by have := h.cond.id; omega)
  have l4 := decDigits_len (u := o.Cond.Amount.toNat) (by have := h.cond.amount; omega)
  have l5 := decDigits_len (u := o.Cond.Expiry.toNat) (by have := h.cond.expiry; omega)
  have l6 := hex_len o.Cond.Hash
  have hk := h.kind
  have n1 := num1 h.amount
  have n2 := num1 h.id
  have n3 := num3 h.cond.id h.cond.amount h.cond.expiry
  have n4 := short_eq o.Cond.Hash h.cond.hash
  have n5 := Short_eq o.Cond.Hash h.cond.len h.cond.hash
  have m1 := Num_eq h.amount
  have m2 := Num_eq h.id
  have m3 := Num_eq h.cond.id
  have m4 := Num_eq h.cond.amount
  have m5 := Num_eq h.cond.expiry
  unfold report_Wish tollhouseref31_Wish
  simp only
  by_cases k0 : o.Kind = 0
  · have e : report_word tab0 0 = some [112, 97, 115, 115] := word_of 0 (by omega)
    simp only [k0, e, Option.bind_some]
    simp
  by_cases k1 : o.Kind = 1
  · have e : report_word tab0 1 = some [112, 97, 121] := word_of 1 (by omega)
    simp only [k1, e, n1, m1, Option.bind_some]
    simp only [Int.reduceEq, eq_self, Bool.false_eq_true, decide_true, decide_false, if_true, if_false, Option.bind_some]
    repeat rw [if_pos (by simp only [List.length_append, List.length_cons, List.length_nil]; omega)]
    exact ⟨by simp, _, rfl⟩
  by_cases k2 : o.Kind = 2
  · have e : report_word tab0 2 = some [108, 111, 99, 107] := word_of 2 (by omega)
    simp only [k2, e, n3, n4, n5, m3, m4, m5, Option.bind_some]
    simp only [Int.reduceEq, eq_self, Bool.false_eq_true, decide_true, decide_false, if_true, if_false, Option.bind_some]
    repeat rw [if_pos (by simp only [List.length_append, List.length_cons, List.length_nil]; omega)]
    exact ⟨by simp, _, rfl⟩
  by_cases k3 : o.Kind = 3
  · have e : report_word tab0 3 = some [100, 111, 110, 101] := word_of 3 (by omega)
    simp only [k3, e, n2, m2, Option.bind_some]
    simp only [Int.reduceEq, eq_self, Bool.false_eq_true, decide_true, decide_false, if_true, if_false, Option.bind_some]
    repeat rw [if_pos (by simp only [List.length_append, List.length_cons, List.length_nil]; omega)]
    exact ⟨by simp, _, rfl⟩
  by_cases k4 : o.Kind = 4
  · have e : report_word tab0 4 = some [117, 110, 100, 111] := word_of 4 (by omega)
    simp only [k4, e, n2, m2, Option.bind_some]
    simp only [Int.reduceEq, eq_self, Bool.false_eq_true, decide_true, decide_false, if_true, if_false, Option.bind_some]
    repeat rw [if_pos (by simp only [List.length_append, List.length_cons, List.length_nil]; omega)]
    exact ⟨by simp, _, rfl⟩
  by_cases k5 : o.Kind = 5
  · have e : report_word tab0 5 = some [116, 97, 107, 101] := word_of 5 (by omega)
    simp only [k5, e, n1, m1, Option.bind_some]
    simp only [Int.reduceEq, eq_self, Bool.false_eq_true, decide_true, decide_false, if_true, if_false, Option.bind_some]
    repeat rw [if_pos (by simp only [List.length_append, List.length_cons, List.length_nil]; omega)]
    exact ⟨by simp, _, rfl⟩
  · have e := word_out o.Kind (by omega) hk
    simp only [e, Int_eq hk, k0, k1, k2, k3, k4, k5, decide_false, Bool.false_eq_true, if_false, Option.bind_some]
    exact ⟨trivial, _, rfl⟩
end Go.Proofs.X
