/- Part of the proof of a law of this seat: TwCard. No condition. -/
import Derived.Test.YtknffjhclhgoiaaDoorTwLawD
import Derived.Test.YtknffjhclhgoiaaDoorTwS
import Derived.Test.YtknffjhclhgoiaaDoorCards
import Derived.Test.YtknffjhclhgoiaaDoorTie
import Derived.WalkKit
import Derived.ProofKit
import Derived.OpenShut
import Derived.Deep.DeepHandedRow
set_option linter.unusedVariables false
set_option linter.unusedSimpArgs false
namespace Go.Proofs.X
open Go Go.Tw Go.Proofs

theorem rHash : Reads Tryd.prog 28 (cArr 32 (cInt .u8)) (fun xs => xs.length = 32 ∧ ∀ x ∈ xs, IntKind.u8.min ≤ x ∧ x ≤ IntKind.u8.max) := reads_arr Tryd.underlying28 (by kernel_rfl) (by kernel_rfl) (reads_int Tryd.underlying5)
theorem rPair : Reads Tryd.prog 24 (cArr 2 (cInt .u64)) (fun xs => xs.length = 2 ∧ ∀ x ∈ xs, IntKind.u64.min ≤ x ∧ x ≤ IntKind.u64.max) := reads_arr Tryd.underlying24 (by kernel_rfl) (by kernel_rfl) (reads_int Tryd.underlying23)
theorem u64_ok {x : Int} (h : IntKind.u64.min ≤ x ∧ x ≤ IntKind.u64.max) : 0 ≤ x ∧ x < 18446744073709551616 := by
  simp [IntKind.min, IntKind.max, IntKind.signed, IntKind.bits] at h; omega
theorem i64_ok {x : Int} (h : IntKind.i64.min ≤ x ∧ x ≤ IntKind.i64.max) : -9223372036854775808 ≤ x ∧ x ≤ 9223372036854775807 := by
  simp [IntKind.min, IntKind.max, IntKind.signed, IntKind.bits] at h; omega
theorem u32_ok {x : Int} (h : IntKind.u32.min ≤ x ∧ x ≤ IntKind.u32.max) : 0 ≤ x ∧ x < 4294967296 := by
  simp [IntKind.min, IntKind.max, IntKind.signed, IntKind.bits] at h; omega
theorem u8_ok {x : Int} (h : IntKind.u8.min ≤ x ∧ x ≤ IntKind.u8.max) : 0 ≤ x ∧ x < 256 := by
  simp [IntKind.min, IntKind.max, IntKind.signed, IntKind.bits] at h; omega
theorem rCond : Reads Tryd.prog 30 cS_tollhouseref10_Cond CondOk :=
  Reads.imp (reads_struct (g := gS_tollhouseref10_Cond) (b := bS_tollhouseref10_Cond) Tryd.underlying30 (by kernel_rfl)
    (readsF_cons rfl (by kernel_rfl) (reads_int Tryd.underlying23) (readsF_cons rfl (by kernel_rfl) (reads_int Tryd.underlying3) (readsF_cons rfl (by kernel_rfl) (reads_int Tryd.underlying23) (readsF_cons rfl (by kernel_rfl) rHash (readsF_last rfl (by kernel_rfl) (reads_int Tryd.underlying23))))))
    (fun p => ⟨p.1, p.2.1, p.2.2.1, p.2.2.2.1, p.2.2.2.2⟩) (fun _ => rfl))
  (fun x h => ⟨u64_ok h.1, i64_ok h.2.1, u64_ok h.2.2.1, h.2.2.2.1.1, fun y hy => u8_ok (h.2.2.2.1.2 y hy), u64_ok h.2.2.2.2⟩)
theorem rState : Reads Tryd.prog 27 cS_tollhouseref12_State StateOk :=
  Reads.imp (reads_struct (g := gS_tollhouseref12_State) (b := bS_tollhouseref12_State) Tryd.underlying27 (by kernel_rfl)
    (readsF_cons rfl (by kernel_rfl) (reads_int Tryd.underlying22) (readsF_cons rfl (by kernel_rfl) (reads_int Tryd.underlying23) (readsF_cons rfl (by kernel_rfl) rPair (readsF_cons rfl (by kernel_rfl) rPair (readsF_last rfl (by kernel_rfl) (reads_slice Tryd.underlying25 (by kernel_rfl) (by kernel_rfl) rCond))))))
    (fun p => ⟨p.1, p.2.1, p.2.2.1, p.2.2.2.1, p.2.2.2.2⟩) (fun _ => rfl))
  (fun x h => ⟨u32_ok h.1, u64_ok h.2.1, ⟨h.2.2.1.1, fun y hy => u64_ok (h.2.2.1.2 y hy)⟩, ⟨h.2.2.2.1.1, fun y hy => u64_ok (h.2.2.2.1.2 y hy)⟩, h.2.2.2.2⟩)
theorem rOp : Reads Tryd.prog 32 cS_tollhouseref12_Op OpOk :=
  Reads.imp (reads_struct (g := gS_tollhouseref12_Op) (b := bS_tollhouseref12_Op) Tryd.underlying32 (by kernel_rfl)
    (readsF_cons rfl (by kernel_rfl) (reads_int Tryd.underlying3) (readsF_cons rfl (by kernel_rfl) (reads_int Tryd.underlying23) (readsF_cons rfl (by kernel_rfl) rCond (readsF_last rfl (by kernel_rfl) (reads_int Tryd.underlying23)))))
    (fun p => ⟨p.1, p.2.1, p.2.2.1, p.2.2.2⟩) (fun _ => rfl))
  (fun x h => ⟨i64_ok h.1, u64_ok h.2.1, h.2.2.1, u64_ok h.2.2.2⟩)

end Go.Proofs.X
namespace Go.Proofs.YtknffjhclhgoiaaDoor.reportStates
open Go.ChangeShapes Go.WideShapes Go.ChangeAt Go.RowKit Go.Tw Go.Proofs.X

theorem laidOut : laidOutB Tryd.prog = true := by kernel_rfl
theorem own : ownKnob Tryd.prog.godebug = none := by kernel_rfl
theorem table2 {W : World} (h : laidMetH Tryd.prog Rows.reportStatesRow.laid W) : tabAt noDirt W 2 tab2_cells := by
  obtain ⟨ps, hv, _⟩ : laidMet Tryd.prog Rows.reportStatesRow.laid W := h
  obtain ⟨g, t, cs, fuel, p, h1, h2, h3, h4⟩ := laid_get (n := "internal/strconv.uint64pow10") (dd := Rows.laid_internal_strconv_uint64pow10) hv (List.Mem.tail _ (List.Mem.tail _ (List.Mem.head _)))
  obtain rfl : g = 2 := Option.some.inj (h1.symm.trans (by kernel_rfl))
  obtain rfl : t = 246 := Option.some.inj (h2.symm.trans (by kernel_rfl))
  exact tab_of_var h1 h3 (Lib.cells_of_tab (k := .u64) (zs := Lib.pow10Tab) Tryd.underlying246 Tryd.underlying23 (by kernel_rfl) (by kernel_rfl) h4)
theorem table0 {W : World} (h : laidMetH Tryd.prog Rows.reportStatesRow.laid W) : tabAt noDirt W 0 tab0_cells := by
  obtain ⟨ps, hv, _⟩ : laidMet Tryd.prog Rows.reportStatesRow.laid W := h
  obtain ⟨g, t, cs, fuel, p, h1, h2, h3, h4⟩ := laid_get (n := "tollhouse/report.wishes") (dd := Rows.laid_tollhouse_report_wishes) hv (List.Mem.tail _ (List.Mem.tail _ (List.Mem.tail _ (List.Mem.head _))))
  obtain rfl : g = 0 := Option.some.inj (h1.symm.trans (by kernel_rfl))
  obtain rfl : t = 127 := Option.some.inj (h2.symm.trans (by kernel_rfl))
  exact tab_of_var h1 h3 (cells_of_strs (zs := tab0) Tryd.underlying127 Tryd.underlying9 (by kernel_rfl) (by kernel_rfl) h4)

set_option maxRecDepth 100000 in
/-- WHAT THE WALK AND THE PLAIN LAW GIVE, FOR EVERY ARGUMENT AND EVERY WORLD THAT HOLDS THE TABLES. -/
theorem contract (H : Type) (enc : TypeId × Value → H) (W : World) (base : Nat) (args : Array Value) (ds gs : List (DataW H)) (before : List MemPlace)
    (hval : ∀ (j : Nat) t v, Tryd.f3.params[j]? = some t → args[j]? = some v → Value.okWide Tryd.prog W .any base t v)
    (hW : DataW.Whole enc Tryd.prog Tryd.f3.params.toList Rows.reportStatesSpec.vars false W args.toList ds gs before) (hL : laidMetH Tryd.prog Rows.reportStatesRow.laid W) :
    Calls Tryd.prog 3 args W fun e W' => ∃ v, e = .returned v ∧ Rows.reportStatesSpec.post enc Tryd.prog Tryd.f3 false true false false W args v W' := by
  have hW' := hW
  obtain ⟨p, q, hA0, hV, rfl, hfz, hnd⟩ := hW
  have hA : DataW.TrodAll enc Tryd.prog W 0 (fun _ => true) true Tryd.f3.params.toList args.toList ds p := hA0
  rw [Tryd.params3] at hA hval
  obtain ⟨v0, vs0, d0, ds0, p0, q0, hargs, rfl, rfl, h0, r0⟩ := trodAll_cons hA
  obtain ⟨v1, vs1, d1, ds1, p1, q1, rfl, rfl, rfl, h1, r1⟩ := trodAll_cons r0
  obtain ⟨v2, vs2, d2, ds2, p2, q2, rfl, rfl, rfl, h2, r2⟩ := trodAll_cons r1
  obtain ⟨rfl, rfl, rfl⟩ := trodAll_nil r2
  obtain rfl : args = #[v0, v1, v2] := by cases args; simp_all
  obtain ⟨rfl, rfl⟩ := trodVars_none hV
  clear hA0
  simp only [List.append_nil] at hW'
  have g0 : ∃ cs, v0 = .agg cs := by
    have := hval 0 27 v0 rfl rfl
    unfold Value.okWide at this
    rw [Tryd.underlying27] at this
    exact this.imp fun _ h => h.1
  have g1 : ∃ cs, v1 = .agg cs := by
    have := hval 1 27 v1 rfl rfl
    unfold Value.okWide at this
    rw [Tryd.underlying27] at this
    exact this.imp fun _ h => h.1
  have g2 : ∃ cs, v2 = .agg cs := by
    have := hval 2 32 v2 rfl rfl
    unfold Value.okWide at this
    rw [Tryd.underlying32] at this
    exact this.imp fun _ h => h.1
  obtain ⟨f0, e0⟩ := h0
  obtain ⟨f1, e1⟩ := h1
  obtain ⟨f2, e2⟩ := h2
  obtain ⟨s, hs1, hs2⟩ := rState H enc W 0 _ true f0 _ _ _ e0
  obtain ⟨t, ht1, ht2⟩ := rState H enc W 0 _ true f1 _ _ _ e1
  obtain ⟨o, ho1, ho2⟩ := rOp H enc W 0 _ true f2 _ _ _ e2
  have walk := tollhouselaw31_ReportStates_ok (D := noDirt) (w := W) (val_agg g0 rfl hs1) (val_agg g1 rfl ht1) (val_agg g2 rfl ho1) (fun _ h => h.elim) (table0 hL) (table2 hL) (law_ReportStates hs2 ht2 ho2)
  have hlt : ∀ x ∈ p0 ++ (p1 ++ (p2 ++ [])), x.block < W.heap.size := fun x hx => by simpa using hW'.lt x (by simpa using hx)
  refine walk.mono fun e W' hr => ?_
  obtain ⟨v, rfl, hb, hv⟩ := hr
  rw [cPlain_val.1 hv]
  refine ⟨_, rfl, _, _, _, [], p0 ++ (p1 ++ (p2 ++ [])), [], hW', ?_, ?_, rfl, hb.frame _, fun h => by cases h⟩
  · exact trodAll_cons_mk (shut_bool Tryd.underlying4 _) trodAll_mk0
  · refine trodAll_cons_mk (Below.trod laidOut (by kernel_rfl) (of_decide_eq_true (by kernel_rfl)) ⟨f0, e0⟩ hb (fun x hx => hlt x (by simp [hx]))) ?_
    refine trodAll_cons_mk (Below.trod laidOut (by kernel_rfl) (of_decide_eq_true (by kernel_rfl)) ⟨f1, e1⟩ hb (fun x hx => hlt x (by simp [hx]))) ?_
    exact trodAll_cons_mk (Below.trod laidOut (by kernel_rfl) (of_decide_eq_true (by kernel_rfl)) ⟨f2, e2⟩ hb (fun x hx => hlt x (by simp [hx]))) trodAll_mk0

def zState : List Value := [.int .u32 0, .int .u64 0, .int .u64 0, .int .u64 0, .int .u64 0, .int .u64 0, .slice none 0 0]
def zCond : List Value := [.int .u64 0, .int .i64 0, .int .u64 0] ++ (List.replicate 32 (.int .u8 0) ++ [.int .u64 0])
def zOp : List Value := [.int .i64 0, .int .u64 0] ++ (zCond ++ [.int .u64 0])
def zArgs : Array Value := #[.agg zState.toArray, .agg zState.toArray, .agg zOp.toArray]
def dState {H : Type} : DataW H := .agg [.lit (.int .u32 0), .lit (.int .u64 0), .agg [.lit (.int .u64 0), .lit (.int .u64 0)], .agg [.lit (.int .u64 0), .lit (.int .u64 0)], .nil]
def dCond {H : Type} : DataW H := .agg [.lit (.int .u64 0), .lit (.int .i64 0), .lit (.int .u64 0), .agg (List.replicate 32 (.lit (.int .u8 0))), .lit (.int .u64 0)]
def dOp {H : Type} : DataW H := .agg [.lit (.int .i64 0), .lit (.int .u64 0), dCond, .lit (.int .u64 0)]
def lay (i : Nat) (cells : Array Value) (h : Array Obj) : Array Obj := h.modify i fun
  | .cells _ t frozen => .cells cells t frozen
  | o => o
/-- A WORLD FOR THE WITNESS: the settled one, the tables holding what their initialisers lay. -/
noncomputable def laidWorld (os : Os) : World :=
  { World.holding Tryd.prog os ⟨#[], #[], []⟩ with heap := lay 5 tab5_cells.toArray (lay 4 tab4_cells.toArray (lay 2 tab2_cells.toArray (lay 0 tab0_cells.toArray (World.holding Tryd.prog os ⟨#[], #[], []⟩).heap))) }
theorem laid_met (os : Os) : laidMet Tryd.prog Rows.reportStatesRow.laid ((laidWorld os).forCall (fun _ _ => 0) ⟨#[], zArgs, []⟩).memory :=
  laidMet_of_run' 8 (by kernel_rfl) (by kernel_rfl)
theorem reads (os : Os) {H : Type} (enc : TypeId × Value → H) : ∃ places, DataW.whole enc Tryd.prog ((laidWorld os).forCall (fun _ _ => 0) ⟨#[], zArgs, []⟩).memory Tryd.f3.params.toList Rows.reportStatesSpec.vars false zArgs.toList 8 = some ([dState, dState, dOp], [], places) :=
  ⟨[], by kernel_rfl⟩
set_option maxRecDepth 100000 in
theorem lifted (os : Os) (started : os.Started) (H : Type) (enc : TypeId × Value → H) (F : Stop.Interp) :
    ReturnsInHanded {} Tryd.checked os 3 .any ((OpenSpec.ofChange Rows.reportStatesSpec).preRow enc Tryd.prog Tryd.f3 Rows.reportStatesRow.domain false Rows.reportStatesRow.laid) (((OpenSpec.ofChange Rows.reportStatesSpec).at F).post enc Tryd.prog Tryd.f3 false true false false) := by
  obtain ⟨places, hx⟩ := reads os enc
  refine returnsInHanded_of_row (C := Tryd.checked) (s := OpenSpec.ofChange Rows.reportStatesSpec) own started (by kernel_rfl) Tryd.func3
    (witness_row_at (enc := enc) (C := Tryd.checked) false (laidWorld os) zArgs rfl (by kernel_rfl) (by kernel_rfl) (by kernel_rfl)
      (OpenSpec.preRow_of_cond 8 hx (by kernel_rfl) (fun k hk => by cases hk) (by kernel_rfl) (laid_met os))) ?_
  intro W base args ds gs before hval hW _ _ _ hL _ _
  exact contract H enc W base args ds gs before hval hW hL
theorem said : Rows.ReportStatesSaid :=
  OpenClaim.holds_of_cond 3 Tryd.f3 rfl rfl rfl rfl rfl rfl rfl ⟨rfl, rfl, rfl, rfl, rfl⟩ rfl rfl rfl rfl rfl (by kernel_rfl) Tryd.func3 (by kernel_rfl)
    (of_decide_eq_true (by kernel_rfl)) (by unfold Func.isWrapper; first | (rw [if_pos (by decide +kernel)]; kernel_rfl) | (rw [if_neg (by decide +kernel)]; exact ⟨rfl, rfl⟩))
    (fun os started H enc _ F => by rw [OpenClaim.pre_eq_preRow]; exact lifted os started H enc F)
theorem plain (f : FuncId) (fn : Func) (hf : Tryd.pinned.checked.prog.funcNamed "tollhouse/tollhouselaw31.ReportStates" = some f) (hfn : Tryd.pinned.checked.prog.funcs[f]? = some fn) :
    false = Tryd.pinned.checked.prog.looks [] ∧ ∀ (j : Nat) t, fn.params[j]? = some t → Tryd.pinned.checked.prog.wantsStandIn t = false := by
  obtain rfl : f = 3 := Option.some.inj ((show Tryd.prog.funcNamed "tollhouse/tollhouselaw31.ReportStates" = some 3 by kernel_rfl).symm.trans hf) |>.symm
  obtain rfl : fn = Tryd.f3 := (Option.some.inj (Tryd.func3.symm.trans hfn)).symm
  refine ⟨by kernel_rfl, fun j t ht => ?_⟩
  rw [Tryd.params3] at ht
  have ht' : t = 27 ∨ t = 32 := by
    have := Array.mem_of_getElem? ht
    simp at this
    omega
  rcases ht' with rfl | rfl
  · exact (show Tryd.prog.wantsStandIn 27 = false by kernel_rfl)
  · exact (show Tryd.prog.wantsStandIn 32 = false by kernel_rfl)
theorem card : Rows.ReportStatesCardSaid :=
  Claim7.holds_tied_plain_at .later [] _ _ _ _ said (fun _ h => by cases h) (by kernel_rfl) (fun _ h => by cases h) reportStates_row_tie rfl ⟨rfl, rfl⟩ (by kernel_rfl) rfl plain (by kernel_rfl)
end Go.Proofs.YtknffjhclhgoiaaDoor.reportStates
