/- Part of the proof of a law of this seat: TwLawD. No condition. -/
import Derived.Test.YtknffjhclhgoiaaDoorTwLawC
set_option linter.unusedVariables false
set_option linter.unusedSimpArgs false
namespace Go.Proofs.X
open Go Go.Tw Go.Proofs

theorem two_of {l : List Int} (h : l.length = 2) : ∃ a b, l = [a, b] := by
  match l, h with
  | [a, b], _ => exact ⟨a, b, rfl⟩
theorem back_eq (s : S_tollhouseref12_State) (hn : s.Conds.length ≤ 40) : tollhouselaw12_From (toS s) = some s := by
  rw [From_eq _ (by simpa using hn)]
  cases s
  simp only [List.map_map, Option.some.injEq, S_tollhouseref12_State.mk.injEq, true_and]
  exact (List.map_congr_left (fun c _ => by cases c; rfl)).trans (List.map_id _)
theorem zap_bind {B : Int × List S_tollhouseref10_Cond × List S_tollhouseref10_Cond → Option ((Int × List S_tollhouseref10_Cond × List S_tollhouseref10_Cond) ⊕ (Bool ⊕ (List S_tollhouseref10_Cond × List S_tollhouseref10_Cond)))}
    {k : Bool ⊕ (List S_tollhouseref10_Cond × List S_tollhouseref10_Cond) → Option Bool} {r : Bool} {l m : List S_tollhouseref10_Cond} (hlm : l.length = m.length)
    (hB : ∀ i : Nat, i < l.length → B ((i : Int), zap m i, zap l i) = some (.inl ((i : Int) + 1, zap m (i + 1), zap l (i + 1)))) (hE : B ((l.length : Int), zap m l.length, zap l l.length) = some (.inr (.inr (zap m l.length, zap l l.length))))
    (hk : k (.inr (m.map zap1, l.map zap1)) = some r) : (loopM B (0, m, l)).bind k = some r := by
  have := loop_seq (body := B) l.length (fun i => ((i : Int), zap m i, zap l i)) (.inr (zap m l.length, zap l l.length)) (fun i hi => by rw [hB i hi]; rfl) hE
  have e0 : ∀ x : List S_tollhouseref10_Cond, zap x 0 = x := fun x => by simp [zap]
  have e1 : zap l l.length = l.map zap1 := by simp [zap]
  have e2 : zap m l.length = m.map zap1 := by rw [hlm]; simp [zap]
  simp only [e0, e1, e2] at this
  rw [show (loopM B (0, m, l)) = some (.inr (m.map zap1, l.map zap1)) from this]
  exact hk
theorem law_ReportStates {s t : S_tollhouseref12_State} {o : S_tollhouseref12_Op} (hs : StateOk s) (ht : StateOk t) (ho : OpOk o) : tollhouselaw31_ReportStates s t o = some true := by
  unfold tollhouselaw31_ReportStates
  by_cases h1 : (s.Conds.length : Int) > 40
  · simp only [h1, decide_true, if_true, Option.bind_some, awake_eq]
  by_cases h2 : (t.Conds.length : Int) > 40
  · simp only [h1, h2, decide_true, decide_false, Bool.false_eq_true, if_true, if_false, Option.bind_some, awake_eq]
  have n1 : s.Conds.length ≤ 40 := by omega
  have n2 : t.Conds.length ≤ 40 := by omega
  obtain ⟨a, b, hm⟩ := two_of hs.moved.1
  obtain ⟨c, d, hk⟩ := two_of hs.taken.1
  obtain ⟨a', b', hm'⟩ := two_of ht.moved.1
  obtain ⟨c', d', hk'⟩ := two_of ht.taken.1
  have To1 := To_eq s n1
  have To2 := To_eq t n2
  have L1 := State_eq hs hm hk n1
  have L2 := State_eq ht hm' hk' n2
  have R1 := refState_eq hs hm hk n1
  obtain ⟨W1, wl, W2⟩ := Wish_eq ho
  have B1 := back_eq s n1
  have B2 := back_eq t n2
  have S1 := same_eq (headLine s.Channel s.Round a b c d :: s.Conds.map payLine) (headLine s.Channel s.Round a b c d :: s.Conds.map payLine) (by simp; omega)
  have S2 := same_eq (headLine s.Channel s.Round a b c d :: s.Conds.map payLine) (headLine t.Channel t.Round a' b' c' d' :: t.Conds.map payLine) (by simp; omega)
  simp only [h1, h2, decide_false, Bool.false_eq_true, if_false, Option.bind_some, To1, To2, L1, L2, R1, S1, decide_true, Bool.not_true, Op_eq, W1, W2]
  simp only [Bool.false_eq_true, if_false, S2, Option.bind_some]
  by_cases he : (headLine s.Channel s.Round a b c d :: s.Conds.map payLine) = (headLine t.Channel t.Round a' b' c' d' :: t.Conds.map payLine)
  · simp only [he, decide_true, Bool.not_true, Bool.false_eq_true, if_false, B1, B2, Option.bind_some]
    obtain ⟨hh, hp⟩ := List.cons.inj he
    have ka := hs.moved.2 a (by rw [hm]; simp)
    have kb := hs.moved.2 b (by rw [hm]; simp)
    have kc := hs.taken.2 c (by rw [hk]; simp)
    have kd := hs.taken.2 d (by rw [hk]; simp)
    have ka' := ht.moved.2 a' (by rw [hm']; simp)
    have kb' := ht.moved.2 b' (by rw [hm']; simp)
    have kc' := ht.taken.2 c' (by rw [hk']; simp)
    have kd' := ht.taken.2 d' (by rw [hk']; simp)
    obtain ⟨q1, q2, q3, q4, q5, q6⟩ := head_inj ⟨hs.channel.1, hs.round.1, ka.1, kb.1, kc.1, kd.1⟩ ⟨ht.channel.1, ht.round.1, ka'.1, kb'.1, kc'.1, kd'.1⟩ hh
    have hlen : s.Conds.length = t.Conds.length := by simpa using congrArg List.length hp
    obtain ⟨z1, z2⟩ := zap_all hs.conds ht.conds hp
    refine zap_bind (l := s.Conds) (m := t.Conds) hlen ?_ ?_ ?_
    · intro i hi
      have g1 := zap_get s.Conds i zS_tollhouseref10_Cond hi
      have g2 := zap_get t.Conds i zS_tollhouseref10_Cond (by omega)
      have g3 := zap_set s.Conds i zS_tollhouseref10_Cond hi
      have g4 := zap_set t.Conds i zS_tollhouseref10_Cond (by omega)
      have k1 := zap_len s.Conds i
      have k2 := zap_len t.Conds i
      have c1 : ((i : Int) < (s.Conds.length : Int)) := by omega
      have e : IntKind.wrap .i64 ((i : Int) + 1) = (i : Int) + 1 := wrap64 (by omega)
      simp only [c1, decide_true, if_true, e, Int.toNat_natCast, g1, g2, z2 i zS_tollhouseref10_Cond, Bool.not_true, Bool.false_eq_true, if_false, k1, k2, ← hlen]
      rw [if_pos ⟨by omega, trivial⟩, if_pos ⟨by omega, trivial⟩, if_pos ⟨by omega, trivial⟩, if_pos ⟨by omega, trivial⟩]
      rw [show ({ s.Conds.getD i zS_tollhouseref10_Cond with Hash := List.replicate 32 0 } : S_tollhouseref10_Cond) = zap1 (s.Conds.getD i zS_tollhouseref10_Cond) from rfl, g3,
        show ({ t.Conds.getD i zS_tollhouseref10_Cond with Hash := List.replicate 32 0 } : S_tollhouseref10_Cond) = zap1 (t.Conds.getD i zS_tollhouseref10_Cond) from rfl, g4]
    · have c1 : ¬ ((s.Conds.length : Int) < (s.Conds.length : Int)) := by omega
      simp only [c1, decide_false, Bool.false_eq_true, if_false]
    · have hst : ({ s with Conds := s.Conds.map zap1 } : S_tollhouseref12_State) = { t with Conds := t.Conds.map zap1 } := by
        cases s; cases t
        simp only at *
        subst q1 q2
        rw [hm, hk, hm', hk', q3, q4, q5, q6, z1]
      simp only [awake_eq, Option.bind_some, if_true, hst]
      rw [Same_eq _ _ (by simp; omega)]
      simp
  · have hne : ¬ s = t := by
      intro e
      apply he
      subst e
      rw [hm] at hm'
      rw [hk] at hk'
      simp only [List.cons.injEq, and_true] at hm' hk'
      rw [hm'.1, hm'.2, hk'.1, hk'.2]
    simp only [he, decide_false, Bool.not_false, if_true, awake_eq, Option.bind_some, Same_eq s t (by omega), hne]
end Go.Proofs.X
