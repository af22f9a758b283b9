/- Part of the proof of a law of this seat: TwX. No condition. -/
import Derived.Test.YtknffjhclhgoiaaDoorTwXb
import Derived.Test.YtknffjhclhgoiaaDoorTwQ
import Derived.Lib.ItoaNum
import Derived.Test.YtknffjhclhgoiaaDoorTwY
import Derived.Test.YtknffjhclhgoiaaDoorProg
set_option linter.unusedVariables false
set_option linter.unusedSimpArgs false
namespace Go.Proofs.X
open Go Go.Tw Go.Proofs
/-- tollhouse/tollhouselaw12.From -/
noncomputable def tollhouselaw12_From (x0 : S_api_State) : Option S_tollhouseref12_State :=
  ((loopM (fun (s408 : Int × (List S_tollhouseref10_Cond)) => match s408 with | (s46, s49) => ((if decide (s46 < (x0.Conds.length : Int)) then (if (0 : Int) ≤ s46 ∧ s46 < (x0.Conds.length : Int) then ((tollhouselaw10_From (x0.Conds.getD (s46 : Int).toNat zS_api_Cond)).bind fun y323 => (if (s49.length + [y323].length) * 64 ≤ 140737488355328 then some (.inl (IntKind.wrap .i64 (s46 + 1), s49 ++ [y323])) else none)) else none) else some (.inr s49)) : Option ((Int × (List S_tollhouseref10_Cond)) ⊕ ((List S_tollhouseref10_Cond))))) (0, ([] : (List S_tollhouseref10_Cond)))).bind fun s277 => some ({ ({ zS_tollhouseref12_State with Channel := x0.Channel, Round := x0.Round, Moved := x0.Moved, Taken := x0.Taken } : S_tollhouseref12_State) with Conds := s277 }))
set_option maxRecDepth 100000 in
set_option maxHeartbeats 8000000 in
theorem tollhouselaw12_From_ok {D : Dirty} {w : World} {v0 : Value} {x0 : S_api_State} {r : S_tollhouseref12_State} (h0 : cS_api_State.val D w v0 x0) (hD : ∀ k, D k → k < w.heap.size) (hr : tollhouselaw12_From x0 = some r) :
    Calls Tryd.prog 16 [v0].toArray w (Ret cS_tollhouseref12_State D w r) := by
  refine calls_start (n := 31) Tryd.func16 rfl rfl ?_
  have S := St.start (w := w) (args := [v0].toArray) 31 rfl hD
  replace S := S.arg 0 rfl (val_dirt0 h0)
  unfold tollhouselaw12_From at hr
  refine wp_seq_k (fun K1 hK1 => ?_)
  refine wp_region_lit ?_
  refine op_boxr S rfl (S.at 0 rfl) cS_api_State_flat (fun a2 w4 S3 => ?_)
  clear S
  refine op_alloc S3 rfl Tryd.zeroValue27 zS_tollhouseref12_State_ok (fun b5 a6 w7 S8 => ?_)
  clear S3 a2 w4
  refine wpList_nil ?_
  refine hK1 _ _ ?_
  clear hK1 K1
  refine wp_seq_k (fun K9 hK9 => ?_)
  refine wp_region_lit ?_
  refine op_fieldAddrr S8 rfl (S8.at 1 rfl) Tryd.underlying38 rfl Tryd.sizeOf22 rfl LS_api_State_Channel rfl (fun a10 S11 => ?_)
  clear S8 a6
  refine op_loadr S11 rfl (S11.at 0 rfl) Tryd.isAgg22 Tryd.sizeOf22 (fun a12 S13 => ?_)
  clear S11 a10
  refine op_fieldAddrr S13 rfl (S13.at 3 rfl) Tryd.underlying38 rfl Tryd.sizeOf23 rfl LS_api_State_Round rfl (fun a14 S15 => ?_)
  clear S13 a12
  refine op_loadr S15 rfl (S15.at 0 rfl) Tryd.isAgg23 Tryd.sizeOf23 (fun a16 S17 => ?_)
  clear S15 a14
  refine op_fieldAddrr S17 rfl (S17.at 5 rfl) Tryd.underlying38 rfl Tryd.sizeOf24 rfl LS_api_State_Moved rfl (fun a18 S19 => ?_)
  clear S17 a16
  refine op_loadr S19 rfl (S19.at 0 rfl) Tryd.isAgg24 Tryd.sizeOf24 (fun a20 S21 => ?_)
  clear S19 a18
  refine op_fieldAddrr S21 rfl (S21.at 7 rfl) Tryd.underlying38 rfl Tryd.sizeOf24 rfl LS_api_State_Taken rfl (fun a22 S23 => ?_)
  clear S21 a20
  refine op_loadr S23 rfl (S23.at 0 rfl) Tryd.isAgg24 Tryd.sizeOf24 (fun a24 S25 => ?_)
  clear S23 a22
  refine op_build (y := mkS_tollhouseref12_State_r4 ({ zS_tollhouseref12_State with Channel := x0.Channel, Round := x0.Round, Moved := x0.Moved, Taken := x0.Taken } : S_tollhouseref12_State) (.slice none 0 0)) S25 rfl rfl Tryd.underlying27 Tryd.zeroValue27 zS_tollhouseref12_State_r4_ok places27 (.cons (S25.at 6 rfl) (cInt_flat _) LS_tollhouseref12_State_r4_Channel rfl (.cons (S25.at 4 rfl) (cInt_flat _) LS_tollhouseref12_State_r4_Round rfl (.cons (S25.at 2 rfl) (cArr_flat (cInt_flat _)) LS_tollhouseref12_State_r4_Moved rfl (.cons (S25.at 0 rfl) (cArr_flat (cInt_flat _)) LS_tollhouseref12_State_r4_Taken rfl .nil)))) (fun a26 S27 => ?_)
  clear S25 a24
  refine op_alloc S27 rfl Tryd.zeroValue27 zS_tollhouseref12_State_r4_ok (fun b28 a29 w30 S31 => ?_)
  clear S27 a26 w7
  have S32 := S31.newrow cS_tollhouseref10_Cond 30
  clear S31
  refine op_store S32 1 rfl (S32.raw 0 rfl) (S32.at 1 rfl) (Lens.id _) cS_tollhouseref12_State_r4_flat Tryd.sizeOf27 (fun w34 S35 => ?_)
  clear S32 w30
  refine wpList_nil ?_
  refine hK9 _ _ ?_
  clear hK9 K9
  refine wp_seq_k (fun K36 hK36 => ?_)
  refine wp_seq_k (fun K37 hK37 => ?_)
  refine wp_region_lit ?_
  refine op_fieldAddrr S35 rfl (S35.at 11 rfl) Tryd.underlying38 rfl Tryd.sizeOf36 rfl LS_api_State_Conds rfl (fun a38 S39 => ?_)
  clear S35 a29
  refine op_loadr S39 rfl (S39.at 0 rfl) Tryd.isAgg36 Tryd.sizeOf36 (fun a40 S41 => ?_)
  clear S39 a38
  refine op_len S41 rfl (S41.at 0 rfl) Tryd.underlying36 (fun a42 S43 => ?_)
  clear S41 a40
  refine op_move S43 rfl (cPlain_mk (f := Value.int .i64) 0) (fun a44 S45 => ?_)
  clear S43 a42
  refine wpList_nil ?_
  refine hK37 _ _ ?_
  clear hK37 K37
  refine wp_block ?_
  refine wp_q (fun Q273 hQ273 => ?_)
  have X283 : ∀ (s277 : (List S_tollhouseref10_Cond)) (v278 : Value) (a280 : Act) (w281 : World), St 31 (fun _ => False) D w a280 w281 [Res.row v278 30 cS_tollhouseref10_Cond s277, Res.box b28 27 cS_tollhouseref12_State_r4 (mkS_tollhouseref12_State_r4 ({ zS_tollhouseref12_State with Channel := x0.Channel, Round := x0.Round, Moved := x0.Moved, Taken := x0.Taken } : S_tollhouseref12_State) v278), Res.box b5 27 cS_tollhouseref12_State zS_tollhouseref12_State] [⟨3, Value, cRaw, ptr b28 0⟩, ⟨2, Value, cRaw, ptr b5 0⟩] → (some ({ ({ zS_tollhouseref12_State with Channel := x0.Channel, Round := x0.Round, Moved := x0.Moved, Taken := x0.Taken } : S_tollhouseref12_State) with Conds := s277 }) : Option (S_tollhouseref12_State)) = some r → Q273 (.exit 0) a280 w281 := by
    intro s277 v278 a280 w281 S279 hr282
    refine hQ273 _ _ _ ?_
    clear hQ273
    refine hK36 _ _ ?_
    clear hK36 K36
    refine wp_seq_k (fun K284 hK284 => ?_)
    refine wp_region_lit ?_
    have S285 := S279.settle 0 0 rfl rfl (convS_tollhouseref12_State_r4 (mkS_tollhouseref12_State_r4 ({ zS_tollhouseref12_State with Channel := x0.Channel, Round := x0.Round, Moved := x0.Moved, Taken := x0.Taken } : S_tollhouseref12_State) v278) s277)
    clear S279
    refine op_load S285 rfl 0 rfl (S285.raw 0 rfl) (Lens.id _) Tryd.isAgg27 Tryd.sizeOf27 (u := { ({ zS_tollhouseref12_State with Channel := x0.Channel, Round := x0.Round, Moved := x0.Moved, Taken := x0.Taken } : S_tollhouseref12_State) with Conds := s277 }) rfl (fun a286 S287 => ?_)
    clear S285 a280
    refine op_store S287 1 rfl (S287.raw 2 rfl) (S287.at 0 rfl) (Lens.id _) cS_tollhouseref12_State_flat Tryd.sizeOf27 (fun w288 S289 => ?_)
    clear S287 w281
    refine wpList_nil ?_
    refine hK284 _ _ ?_
    clear hK284 K284
    refine wp_ret ?_
    cases hr282
    exact retc S289 rfl (cellv S289 2 1 rfl rfl Tryd.isAgg27 Tryd.sizeOf27)  
  obtain ⟨t274, hr276, h275⟩ := bind_some hr
  clear hr
  have S409 := S45.pick [0, 1, 2, 4, 14]
  clear S45
  refine wp_loopM (fun (s408 : Int × (List S_tollhouseref10_Cond)) a292 w293 => match s408 with | (s46, s49) => ∃ v50 : Value, St 31 (fun _ => False) D w a292 w293 [Res.row v50 30 cS_tollhouseref10_Cond s49, Res.box b28 27 cS_tollhouseref12_State_r4 (mkS_tollhouseref12_State_r4 ({ zS_tollhouseref12_State with Channel := x0.Channel, Round := x0.Round, Moved := x0.Moved, Taken := x0.Taken } : S_tollhouseref12_State) v50), Res.box b5 27 cS_tollhouseref12_State zS_tollhouseref12_State] [⟨18, Int, (cInt .i64), s46⟩, ⟨17, Int, (cInt .i64), (x0.Conds.length : Int)⟩, ⟨16, (List S_api_Cond), (cSlice cS_api_Cond), x0.Conds⟩, ⟨3, Value, cRaw, ptr b28 0⟩, ⟨2, Value, cRaw, ptr b5 0⟩]) ?_ (0, ([] : (List S_tollhouseref10_Cond))) ?_ hr276
  · intro s408 a292 w293 x290 S410 hr294
    obtain ⟨s46, s49⟩ := s408
    obtain ⟨v50, S291⟩ := S410
    replace S291 : St 31 (fun _ => False) D w a292 w293 [Res.row v50 30 cS_tollhouseref10_Cond s49, Res.box b28 27 cS_tollhouseref12_State_r4 (mkS_tollhouseref12_State_r4 ({ zS_tollhouseref12_State with Channel := x0.Channel, Round := x0.Round, Moved := x0.Moved, Taken := x0.Taken } : S_tollhouseref12_State) v50), Res.box b5 27 cS_tollhouseref12_State zS_tollhouseref12_State] [⟨18, Int, (cInt .i64), s46⟩, ⟨17, Int, (cInt .i64), (x0.Conds.length : Int)⟩, ⟨16, (List S_api_Cond), (cSlice cS_api_Cond), x0.Conds⟩, ⟨3, Value, cRaw, ptr b28 0⟩, ⟨2, Value, cRaw, ptr b5 0⟩] := S291
    refine wp_seq_k (fun K295 hK295 => ?_)
    refine wp_region_lit ?_
    refine op_lss S291 rfl (S291.int 0 rfl) (S291.int 1 rfl) (fun a296 S297 => ?_)
    clear S291 a292
    refine wpList_nil ?_
    refine hK295 _ _ ?_
    clear hK295 K295
    refine wp_seq_k (fun K298 hK298 => ?_)
    rcases cond_some hr294 with ⟨b299, hr300⟩ | ⟨b299, hr301⟩
    · clear hr294
      refine c_true (S297.bool 0 rfl) b299 ?_
      refine wp_skip ?_
      refine hK298 _ _ ?_
      clear hK298 K298
      refine wp_seq_k (fun K302 hK302 => ?_)
      refine wp_block ?_
      refine wp_seq_k (fun K303 hK303 => ?_)
      refine wp_region_lit ?_
      obtain ⟨g304, hr305⟩ := guard_some hr300
      clear hr300
      refine op_indexAddr (z0 := zS_api_Cond) S297 rfl (S297.at 3 rfl) (S297.int 1 rfl) g304 Tryd.underlying36 Tryd.sizeOf46 (fun a306 S307 => ?_)
      clear S297 a296
      refine op_loadr S307 rfl (S307.at 0 rfl) Tryd.isAgg46 Tryd.sizeOf46 (fun a308 S309 => ?_)
      clear S307 a306
      refine op_alloc S309 rfl Tryd.zeroValue46 zS_api_Cond_ok (fun b310 a311 w312 S313 => ?_)
      clear S309 a308 w293
      refine op_store S313 0 rfl (S313.raw 0 rfl) (S313.at 1 rfl) (Lens.id _) cS_api_Cond_flat Tryd.sizeOf46 (fun w314 S315 => ?_)
      clear S313 w312
      have S316 := S315.freeze 0 0 rfl rfl
      clear S315
      refine wpList_nil ?_
      refine hK303 _ _ ?_
      clear hK303 K303
      obtain ⟨y323, h324, hr325⟩ := bind_some hr305
      clear hr305
      have hsh332 := S316.shape 0 rfl
      refine wp_drawn follows_mixed [[], [0], [], [2], [2, 3], [0, 1, 2, 3, 4], [0, 1, 2, 3, 4, 5], [0, 1, 2, 3, 4, 5, 6]] [none, none, none, none, none] 5 rfl rfl 0 rfl (fun i p => List.getD [[⟨22, Value, cRaw, ptr b28 6⟩], [⟨23, Value, cRaw, v50⟩], [⟨24, S_api_Cond, cS_api_Cond, x0.Conds.getD (s46 : Int).toNat zS_api_Cond⟩], [⟨25, S_tollhouseref10_Cond, cS_tollhouseref10_Cond, y323⟩], [⟨26, (List S_tollhouseref10_Cond), (cSlice cS_tollhouseref10_Cond), [y323]⟩]] i []) (fun _ _ _ => []) (fun _ => (0, undef)) S316 rfl (fun _ => rfl) (Obs.cons ?_ (Obs.cons ?_ (Obs.cons ?_ (Obs.cons ?_ (Obs.cons ?_ Obs.nil))))) ?_
      · intro f340 X333 Y334 a336 w337 hX335 S338
        have S339 : St 31 (fun _ => False) D w a336 w337 ([Res.row v50 30 cS_tollhouseref10_Cond s49, Res.box b28 27 cS_tollhouseref12_State_r4 (mkS_tollhouseref12_State_r4 ({ zS_tollhouseref12_State with Channel := x0.Channel, Round := x0.Round, Moved := x0.Moved, Taken := x0.Taken } : S_tollhouseref12_State) v50), Res.box b5 27 cS_tollhouseref12_State zS_tollhouseref12_State] ++ Y334) ([⟨5, S_api_Cond, cRef cS_api_Cond, x0.Conds.getD (s46 : Int).toNat zS_api_Cond⟩, ⟨21, S_api_Cond, cS_api_Cond, x0.Conds.getD (s46 : Int).toNat zS_api_Cond⟩, ⟨20, S_api_Cond, cRef cS_api_Cond, x0.Conds.getD (s46 : Int).toNat zS_api_Cond⟩, ⟨19, Bool, cBool, decide (s46 < (x0.Conds.length : Int))⟩, ⟨18, Int, (cInt .i64), s46⟩, ⟨17, Int, (cInt .i64), (x0.Conds.length : Int)⟩, ⟨16, (List S_api_Cond), (cSlice cS_api_Cond), x0.Conds⟩, ⟨3, Value, cRaw, ptr b28 0⟩, ⟨2, Value, cRaw, ptr b5 0⟩] ++ X333) := S338
        clear S338
        refine op_fieldAddr (o' := 6) S339 (okX rfl (hX335 _ rfl)) (S339.raw 7 rfl) Tryd.underlying27 rfl Tryd.sizeOf25 rfl rfl (fun a341 S342 => ?_)
        clear S339 a336
        exact wpList_nil ⟨rfl, (0, undef), S342⟩
      · intro f350 X343 Y344 a346 w347 hX345 S348
        have S349 : St 31 (fun _ => False) D w a346 w347 ([Res.row v50 30 cS_tollhouseref10_Cond s49, Res.box b28 27 cS_tollhouseref12_State_r4 (mkS_tollhouseref12_State_r4 ({ zS_tollhouseref12_State with Channel := x0.Channel, Round := x0.Round, Moved := x0.Moved, Taken := x0.Taken } : S_tollhouseref12_State) v50), Res.box b5 27 cS_tollhouseref12_State zS_tollhouseref12_State] ++ Y344) ([⟨22, Value, cRaw, ptr b28 6⟩, ⟨5, S_api_Cond, cRef cS_api_Cond, x0.Conds.getD (s46 : Int).toNat zS_api_Cond⟩, ⟨21, S_api_Cond, cS_api_Cond, x0.Conds.getD (s46 : Int).toNat zS_api_Cond⟩, ⟨20, S_api_Cond, cRef cS_api_Cond, x0.Conds.getD (s46 : Int).toNat zS_api_Cond⟩, ⟨19, Bool, cBool, decide (s46 < (x0.Conds.length : Int))⟩, ⟨18, Int, (cInt .i64), s46⟩, ⟨17, Int, (cInt .i64), (x0.Conds.length : Int)⟩, ⟨16, (List S_api_Cond), (cSlice cS_api_Cond), x0.Conds⟩, ⟨3, Value, cRaw, ptr b28 0⟩, ⟨2, Value, cRaw, ptr b5 0⟩] ++ X343) := S348
        clear S348
        refine op_loadcell S349 (okX rfl (hX345 _ rfl)) 1 rfl (S349.raw 0 rfl) LS_tollhouseref12_State_r4_Conds Tryd.isAgg25 Tryd.sizeOf25 (u := v50) rfl (fun a351 S352 => ?_)
        clear S349 a346
        exact wpList_nil ⟨rfl, (0, undef), S352⟩
      · intro f360 X353 Y354 a356 w357 hX355 S358
        have S359 : St 31 (fun _ => False) D w a356 w357 ([Res.row v50 30 cS_tollhouseref10_Cond s49, Res.box b28 27 cS_tollhouseref12_State_r4 (mkS_tollhouseref12_State_r4 ({ zS_tollhouseref12_State with Channel := x0.Channel, Round := x0.Round, Moved := x0.Moved, Taken := x0.Taken } : S_tollhouseref12_State) v50), Res.box b5 27 cS_tollhouseref12_State zS_tollhouseref12_State] ++ Y354) ([⟨5, S_api_Cond, cRef cS_api_Cond, x0.Conds.getD (s46 : Int).toNat zS_api_Cond⟩, ⟨21, S_api_Cond, cS_api_Cond, x0.Conds.getD (s46 : Int).toNat zS_api_Cond⟩, ⟨20, S_api_Cond, cRef cS_api_Cond, x0.Conds.getD (s46 : Int).toNat zS_api_Cond⟩, ⟨19, Bool, cBool, decide (s46 < (x0.Conds.length : Int))⟩, ⟨18, Int, (cInt .i64), s46⟩, ⟨17, Int, (cInt .i64), (x0.Conds.length : Int)⟩, ⟨16, (List S_api_Cond), (cSlice cS_api_Cond), x0.Conds⟩, ⟨3, Value, cRaw, ptr b28 0⟩, ⟨2, Value, cRaw, ptr b5 0⟩] ++ X353) := S358
        clear S358
        refine op_loadr S359 (okX rfl (hX355 _ rfl)) (S359.at 0 rfl) Tryd.isAgg46 Tryd.sizeOf46 (fun a361 S362 => ?_)
        clear S359 a356
        exact wpList_nil ⟨rfl, (0, undef), S362⟩
      · intro f370 X363 Y364 a366 w367 hX365 S368
        have S369 : St 31 (fun _ => False) D w a366 w367 ([Res.row v50 30 cS_tollhouseref10_Cond s49, Res.box b28 27 cS_tollhouseref12_State_r4 (mkS_tollhouseref12_State_r4 ({ zS_tollhouseref12_State with Channel := x0.Channel, Round := x0.Round, Moved := x0.Moved, Taken := x0.Taken } : S_tollhouseref12_State) v50), Res.box b5 27 cS_tollhouseref12_State zS_tollhouseref12_State] ++ Y364) ([⟨24, S_api_Cond, cS_api_Cond, x0.Conds.getD (s46 : Int).toNat zS_api_Cond⟩, ⟨5, S_api_Cond, cRef cS_api_Cond, x0.Conds.getD (s46 : Int).toNat zS_api_Cond⟩, ⟨21, S_api_Cond, cS_api_Cond, x0.Conds.getD (s46 : Int).toNat zS_api_Cond⟩, ⟨20, S_api_Cond, cRef cS_api_Cond, x0.Conds.getD (s46 : Int).toNat zS_api_Cond⟩, ⟨19, Bool, cBool, decide (s46 < (x0.Conds.length : Int))⟩, ⟨18, Int, (cInt .i64), s46⟩, ⟨17, Int, (cInt .i64), (x0.Conds.length : Int)⟩, ⟨16, (List S_api_Cond), (cSlice cS_api_Cond), x0.Conds⟩, ⟨3, Value, cRaw, ptr b28 0⟩, ⟨2, Value, cRaw, ptr b5 0⟩] ++ X363) := S368
        clear S368
        refine op_call S369 (okX rfl (hX365 _ rfl)) Tryd.call49 (tollhouselaw10_From_ok (S369.at 0 rfl) S369.dirty_lt h324) (fun a371 w373 S372 => ?_)
        clear S369 a366 w367
        exact wpList_nil ⟨rfl, (0, undef), S372⟩
      · intro f381 X374 Y375 a377 w378 hX376 S379
        have S380 : St 31 (fun _ => False) D w a377 w378 ([Res.row v50 30 cS_tollhouseref10_Cond s49, Res.box b28 27 cS_tollhouseref12_State_r4 (mkS_tollhouseref12_State_r4 ({ zS_tollhouseref12_State with Channel := x0.Channel, Round := x0.Round, Moved := x0.Moved, Taken := x0.Taken } : S_tollhouseref12_State) v50), Res.box b5 27 cS_tollhouseref12_State zS_tollhouseref12_State] ++ Y375) ([⟨24, S_api_Cond, cS_api_Cond, x0.Conds.getD (s46 : Int).toNat zS_api_Cond⟩, ⟨25, S_tollhouseref10_Cond, cS_tollhouseref10_Cond, y323⟩, ⟨5, S_api_Cond, cRef cS_api_Cond, x0.Conds.getD (s46 : Int).toNat zS_api_Cond⟩, ⟨21, S_api_Cond, cS_api_Cond, x0.Conds.getD (s46 : Int).toNat zS_api_Cond⟩, ⟨20, S_api_Cond, cRef cS_api_Cond, x0.Conds.getD (s46 : Int).toNat zS_api_Cond⟩, ⟨19, Bool, cBool, decide (s46 < (x0.Conds.length : Int))⟩, ⟨18, Int, (cInt .i64), s46⟩, ⟨17, Int, (cInt .i64), (x0.Conds.length : Int)⟩, ⟨16, (List S_api_Cond), (cSlice cS_api_Cond), x0.Conds⟩, ⟨3, Value, cRaw, ptr b28 0⟩, ⟨2, Value, cRaw, ptr b5 0⟩] ++ X374) := S379
        clear S379
        refine op_lit S380 (okX rfl (hX376 _ rfl)) cS_tollhouseref10_Cond_flat Tryd.underlying25 Tryd.sizeOf30 Tryd.zeroValue30 rfl rfl rfl (.cons (S380.at 1 rfl) (.nil _)) (fun a382 w384 S383 => ?_)
        clear S380 a377 w378
        exact wpList_nil ⟨rfl, (0, undef), S383⟩
      · intro f389 a385 w386 _ S387
        have S388 : St 31 (fun _ => False) D w a385 w386 [Res.row v50 30 cS_tollhouseref10_Cond s49, Res.box b28 27 cS_tollhouseref12_State_r4 (mkS_tollhouseref12_State_r4 ({ zS_tollhouseref12_State with Channel := x0.Channel, Round := x0.Round, Moved := x0.Moved, Taken := x0.Taken } : S_tollhouseref12_State) v50), Res.box b5 27 cS_tollhouseref12_State zS_tollhouseref12_State] [⟨26, (List S_tollhouseref10_Cond), (cSlice cS_tollhouseref10_Cond), [y323]⟩, ⟨25, S_tollhouseref10_Cond, cS_tollhouseref10_Cond, y323⟩, ⟨24, S_api_Cond, cS_api_Cond, x0.Conds.getD (s46 : Int).toNat zS_api_Cond⟩, ⟨23, Value, cRaw, v50⟩, ⟨22, Value, cRaw, ptr b28 6⟩, ⟨5, S_api_Cond, cRef cS_api_Cond, x0.Conds.getD (s46 : Int).toNat zS_api_Cond⟩, ⟨21, S_api_Cond, cS_api_Cond, x0.Conds.getD (s46 : Int).toNat zS_api_Cond⟩, ⟨20, S_api_Cond, cRef cS_api_Cond, x0.Conds.getD (s46 : Int).toNat zS_api_Cond⟩, ⟨19, Bool, cBool, decide (s46 < (x0.Conds.length : Int))⟩, ⟨18, Int, (cInt .i64), s46⟩, ⟨17, Int, (cInt .i64), (x0.Conds.length : Int)⟩, ⟨16, (List S_api_Cond), (cSlice cS_api_Cond), x0.Conds⟩, ⟨3, Value, cRaw, ptr b28 0⟩, ⟨2, Value, cRaw, ptr b5 0⟩] := S387
        clear S387 S316
        obtain ⟨g390, hr391⟩ := guard_some hr325
        clear hr325
        refine op_append S388 rfl 0 rfl (S388.raw 3 rfl) (S388.at 0 rfl) cS_tollhouseref10_Cond_flat Tryd.underlying25 info30 rfl rfl rfl g390 (fun v392 a393 w394 S395 => ?_)
        clear S388 a385 w386
        refine op_fieldAddr (o' := 6) S395 rfl (S395.raw 13 rfl) Tryd.underlying27 rfl Tryd.sizeOf25 rfl rfl (fun a396 S397 => ?_)
        clear S395 a393
        refine op_store S397 1 rfl (S397.raw 0 rfl) (rowcell S397 0 rfl (S397.raw 1 rfl)) LS_tollhouseref12_State_r4_Conds cCell_flat Tryd.sizeOf25 (fun w398 S399 => ?_)
        clear S397 w394
        refine wpList_nil ?_
        refine hK302 _ _ ?_
        clear hK302 K302
        refine wp_region_lit ?_
        refine op_add S399 rfl (S399.int 11 rfl) rfl (fun a400 S401 => ?_)
        clear S399 a396
        have S402 := S401.erase 12
        clear S401
        refine op_move S402 rfl (S402.at 0 rfl) (fun a403 S404 => ?_)
        clear S402 a400
        refine wpList_nil ?_
        have S405 := S404.pick [0, 13, 14, 15, 16]
        clear S404
        cases hr391
        exact ⟨rfl, v392, S405⟩
    · clear hr294
      refine c_false (S297.bool 0 rfl) b299 ?_
      refine wp_exit ?_
      have S406 := S297.pick [4, 5]
      clear S297
      cases hr301
      intro h407
      refine ⟨(by intro h; cases h), ?_⟩
      exact X283 s49 v50 _ _ S406 (by subst h407; exact h275)
  · exact ⟨(.slice none 0 0), S409⟩
set_option maxRecDepth 100000 in
set_option maxHeartbeats 8000000 in
theorem tollhouselaw12_From_own {D : Dirty} {w : World} {v0 : Value} {x0 : S_api_State} {r : S_tollhouseref12_State} (h0 : cS_api_State.val D w v0 x0) (hD : ∀ k, D k → k < w.heap.size) (hr : tollhouselaw12_From x0 = some r) :
    Calls Tryd.prog 16 [v0].toArray w (RetOwn cS_tollhouseref12_State_r4 (mkS_tollhouseref12_State_r4 r) 30 cS_tollhouseref10_Cond r.Conds D w) := by
  refine calls_start (n := 31) Tryd.func16 rfl rfl ?_
  have S := St.start (w := w) (args := [v0].toArray) 31 rfl hD
  replace S := S.arg 0 rfl (val_dirt0 h0)
  unfold tollhouselaw12_From at hr
  refine wp_seq_k (fun K1 hK1 => ?_)
  refine wp_region_lit ?_
  refine op_boxr S rfl (S.at 0 rfl) cS_api_State_flat (fun a2 w4 S3 => ?_)
  clear S
  refine op_alloc S3 rfl Tryd.zeroValue27 zS_tollhouseref12_State_r4_ok (fun b5 a6 w7 S8 => ?_)
  clear S3 a2 w4
  refine wpList_nil ?_
  refine hK1 _ _ ?_
  clear hK1 K1
  refine wp_seq_k (fun K9 hK9 => ?_)
  refine wp_region_lit ?_
  refine op_fieldAddrr S8 rfl (S8.at 1 rfl) Tryd.underlying38 rfl Tryd.sizeOf22 rfl LS_api_State_Channel rfl (fun a10 S11 => ?_)
  clear S8 a6
  refine op_loadr S11 rfl (S11.at 0 rfl) Tryd.isAgg22 Tryd.sizeOf22 (fun a12 S13 => ?_)
  clear S11 a10
  refine op_fieldAddrr S13 rfl (S13.at 3 rfl) Tryd.underlying38 rfl Tryd.sizeOf23 rfl LS_api_State_Round rfl (fun a14 S15 => ?_)
  clear S13 a12
  refine op_loadr S15 rfl (S15.at 0 rfl) Tryd.isAgg23 Tryd.sizeOf23 (fun a16 S17 => ?_)
  clear S15 a14
  refine op_fieldAddrr S17 rfl (S17.at 5 rfl) Tryd.underlying38 rfl Tryd.sizeOf24 rfl LS_api_State_Moved rfl (fun a18 S19 => ?_)
  clear S17 a16
  refine op_loadr S19 rfl (S19.at 0 rfl) Tryd.isAgg24 Tryd.sizeOf24 (fun a20 S21 => ?_)
  clear S19 a18
  refine op_fieldAddrr S21 rfl (S21.at 7 rfl) Tryd.underlying38 rfl Tryd.sizeOf24 rfl LS_api_State_Taken rfl (fun a22 S23 => ?_)
  clear S21 a20
  refine op_loadr S23 rfl (S23.at 0 rfl) Tryd.isAgg24 Tryd.sizeOf24 (fun a24 S25 => ?_)
  clear S23 a22
  refine op_build (y := mkS_tollhouseref12_State_r4 ({ zS_tollhouseref12_State with Channel := x0.Channel, Round := x0.Round, Moved := x0.Moved, Taken := x0.Taken } : S_tollhouseref12_State) (.slice none 0 0)) S25 rfl rfl Tryd.underlying27 Tryd.zeroValue27 zS_tollhouseref12_State_r4_ok places27 (.cons (S25.at 6 rfl) (cInt_flat _) LS_tollhouseref12_State_r4_Channel rfl (.cons (S25.at 4 rfl) (cInt_flat _) LS_tollhouseref12_State_r4_Round rfl (.cons (S25.at 2 rfl) (cArr_flat (cInt_flat _)) LS_tollhouseref12_State_r4_Moved rfl (.cons (S25.at 0 rfl) (cArr_flat (cInt_flat _)) LS_tollhouseref12_State_r4_Taken rfl .nil)))) (fun a26 S27 => ?_)
  clear S25 a24
  refine op_alloc S27 rfl Tryd.zeroValue27 zS_tollhouseref12_State_r4_ok (fun b28 a29 w30 S31 => ?_)
  clear S27 a26 w7
  have S32 := S31.newrow cS_tollhouseref10_Cond 30
  clear S31
  refine op_store S32 1 rfl (S32.raw 0 rfl) (S32.at 1 rfl) (Lens.id _) cS_tollhouseref12_State_r4_flat Tryd.sizeOf27 (fun w34 S35 => ?_)
  clear S32 w30
  refine wpList_nil ?_
  refine hK9 _ _ ?_
  clear hK9 K9
  refine wp_seq_k (fun K36 hK36 => ?_)
  refine wp_seq_k (fun K37 hK37 => ?_)
  refine wp_region_lit ?_
  refine op_fieldAddrr S35 rfl (S35.at 11 rfl) Tryd.underlying38 rfl Tryd.sizeOf36 rfl LS_api_State_Conds rfl (fun a38 S39 => ?_)
  clear S35 a29
  refine op_loadr S39 rfl (S39.at 0 rfl) Tryd.isAgg36 Tryd.sizeOf36 (fun a40 S41 => ?_)
  clear S39 a38
  refine op_len S41 rfl (S41.at 0 rfl) Tryd.underlying36 (fun a42 S43 => ?_)
  clear S41 a40
  refine op_move S43 rfl (cPlain_mk (f := Value.int .i64) 0) (fun a44 S45 => ?_)
  clear S43 a42
  refine wpList_nil ?_
  refine hK37 _ _ ?_
  clear hK37 K37
  refine wp_block ?_
  refine wp_q (fun Q273 hQ273 => ?_)
  have X283 : ∀ (s277 : (List S_tollhouseref10_Cond)) (v278 : Value) (a280 : Act) (w281 : World), St 31 (fun _ => False) D w a280 w281 [Res.row v278 30 cS_tollhouseref10_Cond s277, Res.box b28 27 cS_tollhouseref12_State_r4 (mkS_tollhouseref12_State_r4 ({ zS_tollhouseref12_State with Channel := x0.Channel, Round := x0.Round, Moved := x0.Moved, Taken := x0.Taken } : S_tollhouseref12_State) v278), Res.box b5 27 cS_tollhouseref12_State_r4 (mkS_tollhouseref12_State_r4 zS_tollhouseref12_State (.slice none 0 0))] [⟨3, Value, cRaw, ptr b28 0⟩, ⟨2, Value, cRaw, ptr b5 0⟩] → (some ({ ({ zS_tollhouseref12_State with Channel := x0.Channel, Round := x0.Round, Moved := x0.Moved, Taken := x0.Taken } : S_tollhouseref12_State) with Conds := s277 }) : Option (S_tollhouseref12_State)) = some r → Q273 (.exit 0) a280 w281 := by
    intro s277 v278 a280 w281 S279 hr282
    refine hQ273 _ _ _ ?_
    clear hQ273
    refine hK36 _ _ ?_
    clear hK36 K36
    refine wp_seq_k (fun K284 hK284 => ?_)
    refine wp_region_lit ?_
    refine op_load S279 rfl 1 rfl (S279.raw 0 rfl) (Lens.id _) Tryd.isAgg27 Tryd.sizeOf27 (u := mkS_tollhouseref12_State_r4 ({ zS_tollhouseref12_State with Channel := x0.Channel, Round := x0.Round, Moved := x0.Moved, Taken := x0.Taken } : S_tollhouseref12_State) v278) rfl (fun a285 S286 => ?_)
    clear S279 a280
    refine op_store S286 2 rfl (S286.raw 2 rfl) (S286.at 0 rfl) (Lens.id _) cS_tollhouseref12_State_r4_flat Tryd.sizeOf27 (fun w287 S288 => ?_)
    clear S286 w281
    refine wpList_nil ?_
    refine hK284 _ _ ?_
    clear hK284 K284
    refine wp_ret ?_
    cases hr282
    exact retown (mkS_tollhouseref12_State_r4 ({ ({ zS_tollhouseref12_State with Channel := x0.Channel, Round := x0.Round, Moved := x0.Moved, Taken := x0.Taken } : S_tollhouseref12_State) with Conds := s277 })) S288 rfl 2 2 0 rfl rfl rfl Tryd.isAgg27 Tryd.sizeOf27 rfl
  obtain ⟨t274, hr276, h275⟩ := bind_some hr
  clear hr
  have S408 := S45.pick [0, 1, 2, 4, 14]
  clear S45
  refine wp_loopM (fun (s407 : Int × (List S_tollhouseref10_Cond)) a291 w292 => match s407 with | (s46, s49) => ∃ v50 : Value, St 31 (fun _ => False) D w a291 w292 [Res.row v50 30 cS_tollhouseref10_Cond s49, Res.box b28 27 cS_tollhouseref12_State_r4 (mkS_tollhouseref12_State_r4 ({ zS_tollhouseref12_State with Channel := x0.Channel, Round := x0.Round, Moved := x0.Moved, Taken := x0.Taken } : S_tollhouseref12_State) v50), Res.box b5 27 cS_tollhouseref12_State_r4 (mkS_tollhouseref12_State_r4 zS_tollhouseref12_State (.slice none 0 0))] [⟨18, Int, (cInt .i64), s46⟩, ⟨17, Int, (cInt .i64), (x0.Conds.length : Int)⟩, ⟨16, (List S_api_Cond), (cSlice cS_api_Cond), x0.Conds⟩, ⟨3, Value, cRaw, ptr b28 0⟩, ⟨2, Value, cRaw, ptr b5 0⟩]) ?_ (0, ([] : (List S_tollhouseref10_Cond))) ?_ hr276
  · intro s407 a291 w292 x289 S409 hr293
    obtain ⟨s46, s49⟩ := s407
    obtain ⟨v50, S290⟩ := S409
    replace S290 : St 31 (fun _ => False) D w a291 w292 [Res.row v50 30 cS_tollhouseref10_Cond s49, Res.box b28 27 cS_tollhouseref12_State_r4 (mkS_tollhouseref12_State_r4 ({ zS_tollhouseref12_State with Channel := x0.Channel, Round := x0.Round, Moved := x0.Moved, Taken := x0.Taken } : S_tollhouseref12_State) v50), Res.box b5 27 cS_tollhouseref12_State_r4 (mkS_tollhouseref12_State_r4 zS_tollhouseref12_State (.slice none 0 0))] [⟨18, Int, (cInt .i64), s46⟩, ⟨17, Int, (cInt .i64), (x0.Conds.length : Int)⟩, ⟨16, (List S_api_Cond), (cSlice cS_api_Cond), x0.Conds⟩, ⟨3, Value, cRaw, ptr b28 0⟩, ⟨2, Value, cRaw, ptr b5 0⟩] := S290
    refine wp_seq_k (fun K294 hK294 => ?_)
    refine wp_region_lit ?_
    refine op_lss S290 rfl (S290.int 0 rfl) (S290.int 1 rfl) (fun a295 S296 => ?_)
    clear S290 a291
    refine wpList_nil ?_
    refine hK294 _ _ ?_
    clear hK294 K294
    refine wp_seq_k (fun K297 hK297 => ?_)
    rcases cond_some hr293 with ⟨b298, hr299⟩ | ⟨b298, hr300⟩
    · clear hr293
      refine c_true (S296.bool 0 rfl) b298 ?_
      refine wp_skip ?_
      refine hK297 _ _ ?_
      clear hK297 K297
      refine wp_seq_k (fun K301 hK301 => ?_)
      refine wp_block ?_
      refine wp_seq_k (fun K302 hK302 => ?_)
      refine wp_region_lit ?_
      obtain ⟨g303, hr304⟩ := guard_some hr299
      clear hr299
      refine op_indexAddr (z0 := zS_api_Cond) S296 rfl (S296.at 3 rfl) (S296.int 1 rfl) g303 Tryd.underlying36 Tryd.sizeOf46 (fun a305 S306 => ?_)
      clear S296 a295
      refine op_loadr S306 rfl (S306.at 0 rfl) Tryd.isAgg46 Tryd.sizeOf46 (fun a307 S308 => ?_)
      clear S306 a305
      refine op_alloc S308 rfl Tryd.zeroValue46 zS_api_Cond_ok (fun b309 a310 w311 S312 => ?_)
      clear S308 a307 w292
      refine op_store S312 0 rfl (S312.raw 0 rfl) (S312.at 1 rfl) (Lens.id _) cS_api_Cond_flat Tryd.sizeOf46 (fun w313 S314 => ?_)
      clear S312 w311
      have S315 := S314.freeze 0 0 rfl rfl
      clear S314
      refine wpList_nil ?_
      refine hK302 _ _ ?_
      clear hK302 K302
      obtain ⟨y322, h323, hr324⟩ := bind_some hr304
      clear hr304
      have hsh331 := S315.shape 0 rfl
      refine wp_drawn follows_mixed [[], [0], [], [2], [2, 3], [0, 1, 2, 3, 4], [0, 1, 2, 3, 4, 5], [0, 1, 2, 3, 4, 5, 6]] [none, none, none, none, none] 5 rfl rfl 0 rfl (fun i p => List.getD [[⟨22, Value, cRaw, ptr b28 6⟩], [⟨23, Value, cRaw, v50⟩], [⟨24, S_api_Cond, cS_api_Cond, x0.Conds.getD (s46 : Int).toNat zS_api_Cond⟩], [⟨25, S_tollhouseref10_Cond, cS_tollhouseref10_Cond, y322⟩], [⟨26, (List S_tollhouseref10_Cond), (cSlice cS_tollhouseref10_Cond), [y322]⟩]] i []) (fun _ _ _ => []) (fun _ => (0, undef)) S315 rfl (fun _ => rfl) (Obs.cons ?_ (Obs.cons ?_ (Obs.cons ?_ (Obs.cons ?_ (Obs.cons ?_ Obs.nil))))) ?_
      · intro f339 X332 Y333 a335 w336 hX334 S337
        have S338 : St 31 (fun _ => False) D w a335 w336 ([Res.row v50 30 cS_tollhouseref10_Cond s49, Res.box b28 27 cS_tollhouseref12_State_r4 (mkS_tollhouseref12_State_r4 ({ zS_tollhouseref12_State with Channel := x0.Channel, Round := x0.Round, Moved := x0.Moved, Taken := x0.Taken } : S_tollhouseref12_State) v50), Res.box b5 27 cS_tollhouseref12_State_r4 (mkS_tollhouseref12_State_r4 zS_tollhouseref12_State (.slice none 0 0))] ++ Y333) ([⟨5, S_api_Cond, cRef cS_api_Cond, x0.Conds.getD (s46 : Int).toNat zS_api_Cond⟩, ⟨21, S_api_Cond, cS_api_Cond, x0.Conds.getD (s46 : Int).toNat zS_api_Cond⟩, ⟨20, S_api_Cond, cRef cS_api_Cond, x0.Conds.getD (s46 : Int).toNat zS_api_Cond⟩, ⟨19, Bool, cBool, decide (s46 < (x0.Conds.length : Int))⟩, ⟨18, Int, (cInt .i64), s46⟩, ⟨17, Int, (cInt .i64), (x0.Conds.length : Int)⟩, ⟨16, (List S_api_Cond), (cSlice cS_api_Cond), x0.Conds⟩, ⟨3, Value, cRaw, ptr b28 0⟩, ⟨2, Value, cRaw, ptr b5 0⟩] ++ X332) := S337
        clear S337
        refine op_fieldAddr (o' := 6) S338 (okX rfl (hX334 _ rfl)) (S338.raw 7 rfl) Tryd.underlying27 rfl Tryd.sizeOf25 rfl rfl (fun a340 S341 => ?_)
        clear S338 a335
        exact wpList_nil ⟨rfl, (0, undef), S341⟩
      · intro f349 X342 Y343 a345 w346 hX344 S347
        have S348 : St 31 (fun _ => False) D w a345 w346 ([Res.row v50 30 cS_tollhouseref10_Cond s49, Res.box b28 27 cS_tollhouseref12_State_r4 (mkS_tollhouseref12_State_r4 ({ zS_tollhouseref12_State with Channel := x0.Channel, Round := x0.Round, Moved := x0.Moved, Taken := x0.Taken } : S_tollhouseref12_State) v50), Res.box b5 27 cS_tollhouseref12_State_r4 (mkS_tollhouseref12_State_r4 zS_tollhouseref12_State (.slice none 0 0))] ++ Y343) ([⟨22, Value, cRaw, ptr b28 6⟩, ⟨5, S_api_Cond, cRef cS_api_Cond, x0.Conds.getD (s46 : Int).toNat zS_api_Cond⟩, ⟨21, S_api_Cond, cS_api_Cond, x0.Conds.getD (s46 : Int).toNat zS_api_Cond⟩, ⟨20, S_api_Cond, cRef cS_api_Cond, x0.Conds.getD (s46 : Int).toNat zS_api_Cond⟩, ⟨19, Bool, cBool, decide (s46 < (x0.Conds.length : Int))⟩, ⟨18, Int, (cInt .i64), s46⟩, ⟨17, Int, (cInt .i64), (x0.Conds.length : Int)⟩, ⟨16, (List S_api_Cond), (cSlice cS_api_Cond), x0.Conds⟩, ⟨3, Value, cRaw, ptr b28 0⟩, ⟨2, Value, cRaw, ptr b5 0⟩] ++ X342) := S347
        clear S347
        refine op_loadcell S348 (okX rfl (hX344 _ rfl)) 1 rfl (S348.raw 0 rfl) LS_tollhouseref12_State_r4_Conds Tryd.isAgg25 Tryd.sizeOf25 (u := v50) rfl (fun a350 S351 => ?_)
        clear S348 a345
        exact wpList_nil ⟨rfl, (0, undef), S351⟩
      · intro f359 X352 Y353 a355 w356 hX354 S357
        have S358 : St 31 (fun _ => False) D w a355 w356 ([Res.row v50 30 cS_tollhouseref10_Cond s49, Res.box b28 27 cS_tollhouseref12_State_r4 (mkS_tollhouseref12_State_r4 ({ zS_tollhouseref12_State with Channel := x0.Channel, Round := x0.Round, Moved := x0.Moved, Taken := x0.Taken } : S_tollhouseref12_State) v50), Res.box b5 27 cS_tollhouseref12_State_r4 (mkS_tollhouseref12_State_r4 zS_tollhouseref12_State (.slice none 0 0))] ++ Y353) ([⟨5, S_api_Cond, cRef cS_api_Cond, x0.Conds.getD (s46 : Int).toNat zS_api_Cond⟩, ⟨21, S_api_Cond, cS_api_Cond, x0.Conds.getD (s46 : Int).toNat zS_api_Cond⟩, ⟨20, S_api_Cond, cRef cS_api_Cond, x0.Conds.getD (s46 : Int).toNat zS_api_Cond⟩, ⟨19, Bool, cBool, decide (s46 < (x0.Conds.length : Int))⟩, ⟨18, Int, (cInt .i64), s46⟩, ⟨17, Int, (cInt .i64), (x0.Conds.length : Int)⟩, ⟨16, (List S_api_Cond), (cSlice cS_api_Cond), x0.Conds⟩, ⟨3, Value, cRaw, ptr b28 0⟩, ⟨2, Value, cRaw, ptr b5 0⟩] ++ X352) := S357
        clear S357
        refine op_loadr S358 (okX rfl (hX354 _ rfl)) (S358.at 0 rfl) Tryd.isAgg46 Tryd.sizeOf46 (fun a360 S361 => ?_)
        clear S358 a355
        exact wpList_nil ⟨rfl, (0, undef), S361⟩
      · intro f369 X362 Y363 a365 w366 hX364 S367
        have S368 : St 31 (fun _ => False) D w a365 w366 ([Res.row v50 30 cS_tollhouseref10_Cond s49, Res.box b28 27 cS_tollhouseref12_State_r4 (mkS_tollhouseref12_State_r4 ({ zS_tollhouseref12_State with Channel := x0.Channel, Round := x0.Round, Moved := x0.Moved, Taken := x0.Taken } : S_tollhouseref12_State) v50), Res.box b5 27 cS_tollhouseref12_State_r4 (mkS_tollhouseref12_State_r4 zS_tollhouseref12_State (.slice none 0 0))] ++ Y363) ([⟨24, S_api_Cond, cS_api_Cond, x0.Conds.getD (s46 : Int).toNat zS_api_Cond⟩, ⟨5, S_api_Cond, cRef cS_api_Cond, x0.Conds.getD (s46 : Int).toNat zS_api_Cond⟩, ⟨21, S_api_Cond, cS_api_Cond, x0.Conds.getD (s46 : Int).toNat zS_api_Cond⟩, ⟨20, S_api_Cond, cRef cS_api_Cond, x0.Conds.getD (s46 : Int).toNat zS_api_Cond⟩, ⟨19, Bool, cBool, decide (s46 < (x0.Conds.length : Int))⟩, ⟨18, Int, (cInt .i64), s46⟩, ⟨17, Int, (cInt .i64), (x0.Conds.length : Int)⟩, ⟨16, (List S_api_Cond), (cSlice cS_api_Cond), x0.Conds⟩, ⟨3, Value, cRaw, ptr b28 0⟩, ⟨2, Value, cRaw, ptr b5 0⟩] ++ X362) := S367
        clear S367
        refine op_call S368 (okX rfl (hX364 _ rfl)) Tryd.call49 (tollhouselaw10_From_ok (S368.at 0 rfl) S368.dirty_lt h323) (fun a370 w372 S371 => ?_)
        clear S368 a365 w366
        exact wpList_nil ⟨rfl, (0, undef), S371⟩
      · intro f380 X373 Y374 a376 w377 hX375 S378
        have S379 : St 31 (fun _ => False) D w a376 w377 ([Res.row v50 30 cS_tollhouseref10_Cond s49, Res.box b28 27 cS_tollhouseref12_State_r4 (mkS_tollhouseref12_State_r4 ({ zS_tollhouseref12_State with Channel := x0.Channel, Round := x0.Round, Moved := x0.Moved, Taken := x0.Taken } : S_tollhouseref12_State) v50), Res.box b5 27 cS_tollhouseref12_State_r4 (mkS_tollhouseref12_State_r4 zS_tollhouseref12_State (.slice none 0 0))] ++ Y374) ([⟨24, S_api_Cond, cS_api_Cond, x0.Conds.getD (s46 : Int).toNat zS_api_Cond⟩, ⟨25, S_tollhouseref10_Cond, cS_tollhouseref10_Cond, y322⟩, ⟨5, S_api_Cond, cRef cS_api_Cond, x0.Conds.getD (s46 : Int).toNat zS_api_Cond⟩, ⟨21, S_api_Cond, cS_api_Cond, x0.Conds.getD (s46 : Int).toNat zS_api_Cond⟩, ⟨20, S_api_Cond, cRef cS_api_Cond, x0.Conds.getD (s46 : Int).toNat zS_api_Cond⟩, ⟨19, Bool, cBool, decide (s46 < (x0.Conds.length : Int))⟩, ⟨18, Int, (cInt .i64), s46⟩, ⟨17, Int, (cInt .i64), (x0.Conds.length : Int)⟩, ⟨16, (List S_api_Cond), (cSlice cS_api_Cond), x0.Conds⟩, ⟨3, Value, cRaw, ptr b28 0⟩, ⟨2, Value, cRaw, ptr b5 0⟩] ++ X373) := S378
        clear S378
        refine op_lit S379 (okX rfl (hX375 _ rfl)) cS_tollhouseref10_Cond_flat Tryd.underlying25 Tryd.sizeOf30 Tryd.zeroValue30 rfl rfl rfl (.cons (S379.at 1 rfl) (.nil _)) (fun a381 w383 S382 => ?_)
        clear S379 a376 w377
        exact wpList_nil ⟨rfl, (0, undef), S382⟩
      · intro f388 a384 w385 _ S386
        have S387 : St 31 (fun _ => False) D w a384 w385 [Res.row v50 30 cS_tollhouseref10_Cond s49, Res.box b28 27 cS_tollhouseref12_State_r4 (mkS_tollhouseref12_State_r4 ({ zS_tollhouseref12_State with Channel := x0.Channel, Round := x0.Round, Moved := x0.Moved, Taken := x0.Taken } : S_tollhouseref12_State) v50), Res.box b5 27 cS_tollhouseref12_State_r4 (mkS_tollhouseref12_State_r4 zS_tollhouseref12_State (.slice none 0 0))] [⟨26, (List S_tollhouseref10_Cond), (cSlice cS_tollhouseref10_Cond), [y322]⟩, ⟨25, S_tollhouseref10_Cond, cS_tollhouseref10_Cond, y322⟩, ⟨24, S_api_Cond, cS_api_Cond, x0.Conds.getD (s46 : Int).toNat zS_api_Cond⟩, ⟨23, Value, cRaw, v50⟩, ⟨22, Value, cRaw, ptr b28 6⟩, ⟨5, S_api_Cond, cRef cS_api_Cond, x0.Conds.getD (s46 : Int).toNat zS_api_Cond⟩, ⟨21, S_api_Cond, cS_api_Cond, x0.Conds.getD (s46 : Int).toNat zS_api_Cond⟩, ⟨20, S_api_Cond, cRef cS_api_Cond, x0.Conds.getD (s46 : Int).toNat zS_api_Cond⟩, ⟨19, Bool, cBool, decide (s46 < (x0.Conds.length : Int))⟩, ⟨18, Int, (cInt .i64), s46⟩, ⟨17, Int, (cInt .i64), (x0.Conds.length : Int)⟩, ⟨16, (List S_api_Cond), (cSlice cS_api_Cond), x0.Conds⟩, ⟨3, Value, cRaw, ptr b28 0⟩, ⟨2, Value, cRaw, ptr b5 0⟩] := S386
        clear S386 S315
        obtain ⟨g389, hr390⟩ := guard_some hr324
        clear hr324
        refine op_append S387 rfl 0 rfl (S387.raw 3 rfl) (S387.at 0 rfl) cS_tollhouseref10_Cond_flat Tryd.underlying25 info30 rfl rfl rfl g389 (fun v391 a392 w393 S394 => ?_)
        clear S387 a384 w385
        refine op_fieldAddr (o' := 6) S394 rfl (S394.raw 13 rfl) Tryd.underlying27 rfl Tryd.sizeOf25 rfl rfl (fun a395 S396 => ?_)
        clear S394 a392
        refine op_store S396 1 rfl (S396.raw 0 rfl) (rowcell S396 0 rfl (S396.raw 1 rfl)) LS_tollhouseref12_State_r4_Conds cCell_flat Tryd.sizeOf25 (fun w397 S398 => ?_)
        clear S396 w393
        refine wpList_nil ?_
        refine hK301 _ _ ?_
        clear hK301 K301
        refine wp_region_lit ?_
        refine op_add S398 rfl (S398.int 11 rfl) rfl (fun a399 S400 => ?_)
        clear S398 a395
        have S401 := S400.erase 12
        clear S400
        refine op_move S401 rfl (S401.at 0 rfl) (fun a402 S403 => ?_)
        clear S401 a399
        refine wpList_nil ?_
        have S404 := S403.pick [0, 13, 14, 15, 16]
        clear S403
        cases hr390
        exact ⟨rfl, v391, S404⟩
    · clear hr293
      refine c_false (S296.bool 0 rfl) b298 ?_
      refine wp_exit ?_
      have S405 := S296.pick [4, 5]
      clear S296
      cases hr300
      intro h406
      refine ⟨(by intro h; cases h), ?_⟩
      exact X283 s49 v50 _ _ S405 (by subst h406; exact h275)
  · exact ⟨(.slice none 0 0), S408⟩
/-- tollhouse/tollhouselaw31.ReportStates -/
noncomputable def tollhouselaw31_ReportStates (x0 : S_tollhouseref12_State) (x1 : S_tollhouseref12_State) (x2 : S_tollhouseref12_Op) : Option Bool :=
  (((if decide ((x0.Conds.length : Int) > 40) then some true else some (decide ((x1.Conds.length : Int) > 40))) : Option (Bool)).bind fun s48 => (if s48 then ((tollhouselaw31_awake).bind fun y59 => some y59) else ((tollhouselaw12_To x0).bind fun y70 => ((report_State y70).bind fun y76 => ((tollhouselaw12_To x1).bind fun y131 => ((report_State y131).bind fun y137 => ((((tollhouseref31_State x0).bind fun y1966 => ((tollhouselaw31_same y76 y1966).bind fun y1972 => (if !y1972 then some true else ((tollhouselaw12_Op x2).bind fun y2093 => ((report_Wish y2093).bind fun y2099 => ((tollhouseref31_Wish x2).bind fun y2216 => some (!decide (y2099 = y2216)))))))) : Option (Bool)).bind fun s412 => (if s412 then some false else ((tollhouselaw31_same y76 y137).bind fun y431 => (if !y431 then ((((tollhouselaw31_awake).bind fun y492 => (if y492 then ((tollhouseref12_Same x0 x1).bind fun y507 => some (!y507)) else some false)) : Option (Bool)).bind fun s482 => some s482) else ((tollhouselaw12_To x0).bind fun y536 => ((tollhouselaw12_From y536).bind fun y542 => ((tollhouselaw12_To x1).bind fun y552 => ((tollhouselaw12_From y552).bind fun y558 => ((loopM (fun (s1956 : Int × (List S_tollhouseref10_Cond) × (List S_tollhouseref10_Cond)) => match s1956 with | (s685, s689, s691) => ((if decide (s685 < (y542.Conds.length : Int)) then (if (0 : Int) ≤ s685 ∧ s685 < (s691.length : Int) then (if (0 : Int) ≤ s685 ∧ s685 < (s689.length : Int) then (if !decide ((((s691.getD (s685 : Int).toNat zS_tollhouseref10_Cond).Hash).take 4) = (((s689.getD (s685 : Int).toNat zS_tollhouseref10_Cond).Hash).take 4)) then some (.inr (.inl false)) else (if (0 : Int) ≤ s685 ∧ s685 < (s691.length : Int) then (if (0 : Int) ≤ s685 ∧ s685 < (s689.length : Int) then some (.inl (IntKind.wrap .i64 (s685 + 1), s689.set (s685 : Int).toNat ({ s689.getD (s685 : Int).toNat zS_tollhouseref10_Cond with Hash := (List.replicate 32 0) }), s691.set (s685 : Int).toNat ({ s691.getD (s685 : Int).toNat zS_tollhouseref10_Cond with Hash := (List.replicate 32 0) }))) else none) else none)) else none) else none) else some (.inr (.inr (s689, s691)))) : Option ((Int × (List S_tollhouseref10_Cond) × (List S_tollhouseref10_Cond)) ⊕ ((Bool) ⊕ ((List S_tollhouseref10_Cond) × (List S_tollhouseref10_Cond)))))) (0, y558.Conds, y542.Conds)).bind fun | (.inl z) => some z | (.inr (s1459, s1461)) => ((((tollhouselaw31_awake).bind fun y1516 => (if y1516 then ((tollhouseref12_Same ({ y542 with Conds := s1461 }) ({ y558 with Conds := s1459 })).bind fun y1533 => some y1533) else some false)) : Option (Bool)).bind fun s1506 => some s1506))))))))))))))))
set_option maxRecDepth 100000 in
set_option maxHeartbeats 8000000 in
theorem tollhouselaw31_ReportStates_ok {D : Dirty} {w : World} {v0 : Value} {v1 : Value} {v2 : Value} {x0 : S_tollhouseref12_State} {x1 : S_tollhouseref12_State} {x2 : S_tollhouseref12_Op} {r : Bool} (h0 : cS_tollhouseref12_State.val D w v0 x0) (h1 : cS_tollhouseref12_State.val D w v1 x1) (h2 : cS_tollhouseref12_Op.val D w v2 x2) (hD : ∀ k, D k → k < w.heap.size) (hT0 : tabAt D w 0 tab0_cells) (hT2 : tabAt D w 2 tab2_cells) (hr : tollhouselaw31_ReportStates x0 x1 x2 = some r) :
    Calls Tryd.prog 3 [v0, v1, v2].toArray w (Ret cBool D w r) := by
  refine calls_start (n := 101) Tryd.func3 rfl rfl ?_
  have S := St.start (w := w) (args := [v0, v1, v2].toArray) 101 rfl hD
  replace S := S.arg 0 rfl (val_dirt0 h0)
  replace S := S.arg 1 rfl (val_dirt0 h1)
  replace S := S.arg 2 rfl (val_dirt0 h2)
  unfold tollhouselaw31_ReportStates at hr
  refine wp_seq_k (fun K1 hK1 => ?_)
  refine wp_region_lit ?_
  refine op_boxr S rfl (S.at 2 rfl) cS_tollhouseref12_State_flat (fun a2 w4 S3 => ?_)
  clear S
  refine op_boxr S3 rfl (S3.at 2 rfl) cS_tollhouseref12_State_flat (fun a5 w7 S6 => ?_)
  clear S3 a2 w4
  refine op_boxr S6 rfl (S6.at 2 rfl) cS_tollhouseref12_Op_flat (fun a8 w10 S9 => ?_)
  clear S6 a5 w7
  refine op_assign S9 rfl (cPlain_mk (f := Value.bool) false) (fun a11 S12 => ?_)
  clear S9 a8
  refine wpList_nil ?_
  refine hK1 _ _ ?_
  clear hK1 K1
  refine wp_seq_k (fun K13 hK13 => ?_)
  refine wp_seq_k (fun K14 hK14 => ?_)
  refine wp_k (fun K49 hK49 => ?_)
  have X50 : ∀ (s48 : Bool) (a52 : Act) (w53 : World), St 101 (fun _ => False) D w a52 w53 [] [⟨21, Bool, cBool, s48⟩, ⟨5, S_tollhouseref12_Op, cRef cS_tollhouseref12_Op, x2⟩, ⟨4, S_tollhouseref12_State, cRef cS_tollhouseref12_State, x1⟩, ⟨3, S_tollhouseref12_State, cRef cS_tollhouseref12_State, x0⟩] → ((if s48 then ((tollhouselaw31_awake).bind fun y59 => some y59) else ((tollhouselaw12_To x0).bind fun y70 => ((report_State y70).bind fun y76 => ((tollhouselaw12_To x1).bind fun y131 => ((report_State y131).bind fun y137 => ((((tollhouseref31_State x0).bind fun y1966 => ((tollhouselaw31_same y76 y1966).bind fun y1972 => (if !y1972 then some true else ((tollhouselaw12_Op x2).bind fun y2093 => ((report_Wish y2093).bind fun y2099 => ((tollhouseref31_Wish x2).bind fun y2216 => some (!decide (y2099 = y2216)))))))) : Option (Bool)).bind fun s412 => (if s412 then some false else ((tollhouselaw31_same y76 y137).bind fun y431 => (if !y431 then ((((tollhouselaw31_awake).bind fun y492 => (if y492 then ((tollhouseref12_Same x0 x1).bind fun y507 => some (!y507)) else some false)) : Option (Bool)).bind fun s482 => some s482) else ((tollhouselaw12_To x0).bind fun y536 => ((tollhouselaw12_From y536).bind fun y542 => ((tollhouselaw12_To x1).bind fun y552 => ((tollhouselaw12_From y552).bind fun y558 => ((loopM (fun (s1956 : Int × (List S_tollhouseref10_Cond) × (List S_tollhouseref10_Cond)) => match s1956 with | (s685, s689, s691) => ((if decide (s685 < (y542.Conds.length : Int)) then (if (0 : Int) ≤ s685 ∧ s685 < (s691.length : Int) then (if (0 : Int) ≤ s685 ∧ s685 < (s689.length : Int) then (if !decide ((((s691.getD (s685 : Int).toNat zS_tollhouseref10_Cond).Hash).take 4) = (((s689.getD (s685 : Int).toNat zS_tollhouseref10_Cond).Hash).take 4)) then some (.inr (.inl false)) else (if (0 : Int) ≤ s685 ∧ s685 < (s691.length : Int) then (if (0 : Int) ≤ s685 ∧ s685 < (s689.length : Int) then some (.inl (IntKind.wrap .i64 (s685 + 1), s689.set (s685 : Int).toNat ({ s689.getD (s685 : Int).toNat zS_tollhouseref10_Cond with Hash := (List.replicate 32 0) }), s691.set (s685 : Int).toNat ({ s691.getD (s685 : Int).toNat zS_tollhouseref10_Cond with Hash := (List.replicate 32 0) }))) else none) else none)) else none) else none) else some (.inr (.inr (s689, s691)))) : Option ((Int × (List S_tollhouseref10_Cond) × (List S_tollhouseref10_Cond)) ⊕ ((Bool) ⊕ ((List S_tollhouseref10_Cond) × (List S_tollhouseref10_Cond)))))) (0, y558.Conds, y542.Conds)).bind fun | (.inl z) => some z | (.inr (s1459, s1461)) => ((((tollhouselaw31_awake).bind fun y1516 => (if y1516 then ((tollhouseref12_Same ({ y542 with Conds := s1461 }) ({ y558 with Conds := s1459 })).bind fun y1533 => some y1533) else some false)) : Option (Bool)).bind fun s1506 => some s1506))))))))))))))) : Option (Bool)) = some r → K49 a52 w53 := by
    intro s48 a52 w53 S51 hr54
    refine hK49 _ _ ?_
    clear hK49
    refine hK14 _ _ ?_
    clear hK14 K14
    rcases cond_some hr54 with ⟨b55, hr56⟩ | ⟨b55, hr57⟩
    · clear hr54
      refine c_true (S51.bool 0 rfl) b55 ?_
      refine wp_seq_k (fun K58 hK58 => ?_)
      refine wp_region_lit ?_
      obtain ⟨y59, h60, hr61⟩ := bind_some hr56
      clear hr56
      refine op_call S51 rfl Tryd.call7 (tollhouselaw31_awake_ok  S51.dirty_lt (S51.tab hT2) h60) (fun a62 w64 S63 => ?_)
      clear S51 a52 w53
      refine op_assign S63 rfl (S63.at 0 rfl) (fun a65 S66 => ?_)
      clear S63 a62
      refine wpList_nil ?_
      refine hK58 _ _ ?_
      clear hK58 K58
      refine wp_ret ?_
      cases hr61
      exact ret1 S66 rfl 0 rfl
    · clear hr54
      refine c_false (S51.bool 0 rfl) b55 ?_
      refine wp_skip ?_
      refine hK13 _ _ ?_
      clear hK13 K13
      refine wp_seq_k (fun K67 hK67 => ?_)
      obtain ⟨y70, h71, hr72⟩ := bind_some hr57
      clear hr57
      obtain ⟨y76, h77, hr78⟩ := bind_some hr72
      clear hr72
      refine wp_drawn follows_mixed [[], [0], [0, 1], [], [0, 1, 2, 3], [0, 1, 2, 3, 4], [0, 1, 2, 3, 4, 5], [0, 1, 2, 3, 4, 5, 6]] [none, none, none, none] 4 rfl rfl 0 rfl (fun i p => List.getD [[⟨23, S_tollhouseref12_State, cS_tollhouseref12_State, x0⟩], [⟨24, S_api_State, cS_api_State, y70⟩], [⟨25, (List (List UInt8)), (cSlice cStr), y76⟩], [⟨26, S_tollhouseref12_State, cS_tollhouseref12_State, x1⟩]] i []) (fun _ _ _ => []) (fun _ => (0, undef)) S51 rfl (fun _ => rfl) (Obs.cons ?_ (Obs.cons ?_ (Obs.cons ?_ (Obs.cons ?_ Obs.nil)))) ?_
      · intro f91 X84 Y85 a87 w88 hX86 S89
        have S90 : St 101 (fun _ => False) D w a87 w88 ([] ++ Y85) ([⟨21, Bool, cBool, s48⟩, ⟨5, S_tollhouseref12_Op, cRef cS_tollhouseref12_Op, x2⟩, ⟨4, S_tollhouseref12_State, cRef cS_tollhouseref12_State, x1⟩, ⟨3, S_tollhouseref12_State, cRef cS_tollhouseref12_State, x0⟩] ++ X84) := S89
        clear S89
        refine op_loadr S90 (okX rfl (hX86 _ rfl)) (S90.at 3 rfl) Tryd.isAgg27 Tryd.sizeOf27 (fun a92 S93 => ?_)
        clear S90 a87
        exact wpList_nil ⟨rfl, (0, undef), S93⟩
      · intro f101 X94 Y95 a97 w98 hX96 S99
        have S100 : St 101 (fun _ => False) D w a97 w98 ([] ++ Y95) ([⟨23, S_tollhouseref12_State, cS_tollhouseref12_State, x0⟩, ⟨21, Bool, cBool, s48⟩, ⟨5, S_tollhouseref12_Op, cRef cS_tollhouseref12_Op, x2⟩, ⟨4, S_tollhouseref12_State, cRef cS_tollhouseref12_State, x1⟩, ⟨3, S_tollhouseref12_State, cRef cS_tollhouseref12_State, x0⟩] ++ X94) := S99
        clear S99
        refine op_call S100 (okX rfl (hX96 _ rfl)) Tryd.call9 (tollhouselaw12_To_ok (S100.at 0 rfl) S100.dirty_lt h71) (fun a102 w104 S103 => ?_)
        clear S100 a97 w98
        exact wpList_nil ⟨rfl, (0, undef), S103⟩
      · intro f112 X105 Y106 a108 w109 hX107 S110
        have S111 : St 101 (fun _ => False) D w a108 w109 ([] ++ Y106) ([⟨23, S_tollhouseref12_State, cS_tollhouseref12_State, x0⟩, ⟨24, S_api_State, cS_api_State, y70⟩, ⟨21, Bool, cBool, s48⟩, ⟨5, S_tollhouseref12_Op, cRef cS_tollhouseref12_Op, x2⟩, ⟨4, S_tollhouseref12_State, cRef cS_tollhouseref12_State, x1⟩, ⟨3, S_tollhouseref12_State, cRef cS_tollhouseref12_State, x0⟩] ++ X105) := S110
        clear S110
        refine op_call S111 (okX rfl (hX107 _ rfl)) Tryd.call8 (report_State_ok (S111.at 1 rfl) S111.dirty_lt (S111.tab hT2) h77) (fun a113 w115 S114 => ?_)
        clear S111 a108 w109
        exact wpList_nil ⟨rfl, (0, undef), S114⟩
      · intro f123 X116 Y117 a119 w120 hX118 S121
        have S122 : St 101 (fun _ => False) D w a119 w120 ([] ++ Y117) ([⟨21, Bool, cBool, s48⟩, ⟨5, S_tollhouseref12_Op, cRef cS_tollhouseref12_Op, x2⟩, ⟨4, S_tollhouseref12_State, cRef cS_tollhouseref12_State, x1⟩, ⟨3, S_tollhouseref12_State, cRef cS_tollhouseref12_State, x0⟩] ++ X116) := S121
        clear S121
        refine op_loadr S122 (okX rfl (hX118 _ rfl)) (S122.at 2 rfl) Tryd.isAgg27 Tryd.sizeOf27 (fun a124 S125 => ?_)
        clear S122 a119
        exact wpList_nil ⟨rfl, (0, undef), S125⟩
      · intro f130 a126 w127 _ S128
        have S129 : St 101 (fun _ => False) D w a126 w127 [] [⟨26, S_tollhouseref12_State, cS_tollhouseref12_State, x1⟩, ⟨25, (List (List UInt8)), (cSlice cStr), y76⟩, ⟨24, S_api_State, cS_api_State, y70⟩, ⟨23, S_tollhouseref12_State, cS_tollhouseref12_State, x0⟩, ⟨21, Bool, cBool, s48⟩, ⟨5, S_tollhouseref12_Op, cRef cS_tollhouseref12_Op, x2⟩, ⟨4, S_tollhouseref12_State, cRef cS_tollhouseref12_State, x1⟩, ⟨3, S_tollhouseref12_State, cRef cS_tollhouseref12_State, x0⟩] := S128
        clear S128 S51
        obtain ⟨y131, h132, hr133⟩ := bind_some hr78
        clear hr78
        refine op_call S129 rfl Tryd.call9 (tollhouselaw12_To_ok (S129.at 0 rfl) S129.dirty_lt h132) (fun a134 w136 S135 => ?_)
        clear S129 a126 w127
        obtain ⟨y137, h138, hr139⟩ := bind_some hr133
        clear hr133
        refine op_call S135 rfl Tryd.call8 (report_State_ok (S135.at 0 rfl) S135.dirty_lt (S135.tab hT2) h138) (fun a140 w142 S141 => ?_)
        clear S135 a134 w136
        refine op_assign S141 rfl (S141.at 3 rfl) (fun a143 S144 => ?_)
        clear S141 a140
        refine op_assign S144 rfl (S144.at 1 rfl) (fun a145 S146 => ?_)
        clear S144 a143
        refine wpList_nil ?_
        refine hK67 _ _ ?_
        clear hK67 K67
        refine wp_seq_k (fun K147 hK147 => ?_)
        refine wp_seq_k (fun K148 hK148 => ?_)
        refine wp_k (fun K413 hK413 => ?_)
        have X414 : ∀ (s412 : Bool) (a416 : Act) (w417 : World), St 101 (fun _ => False) D w a416 w417 [] [⟨41, Bool, cBool, s412⟩, ⟨8, (List (List UInt8)), (cSlice cStr), y137⟩, ⟨7, (List (List UInt8)), (cSlice cStr), y76⟩, ⟨4, S_tollhouseref12_State, cRef cS_tollhouseref12_State, x1⟩, ⟨3, S_tollhouseref12_State, cRef cS_tollhouseref12_State, x0⟩] → ((if s412 then some false else ((tollhouselaw31_same y76 y137).bind fun y431 => (if !y431 then ((((tollhouselaw31_awake).bind fun y492 => (if y492 then ((tollhouseref12_Same x0 x1).bind fun y507 => some (!y507)) else some false)) : Option (Bool)).bind fun s482 => some s482) else ((tollhouselaw12_To x0).bind fun y536 => ((tollhouselaw12_From y536).bind fun y542 => ((tollhouselaw12_To x1).bind fun y552 => ((tollhouselaw12_From y552).bind fun y558 => ((loopM (fun (s1956 : Int × (List S_tollhouseref10_Cond) × (List S_tollhouseref10_Cond)) => match s1956 with | (s685, s689, s691) => ((if decide (s685 < (y542.Conds.length : Int)) then (if (0 : Int) ≤ s685 ∧ s685 < (s691.length : Int) then (if (0 : Int) ≤ s685 ∧ s685 < (s689.length : Int) then (if !decide ((((s691.getD (s685 : Int).toNat zS_tollhouseref10_Cond).Hash).take 4) = (((s689.getD (s685 : Int).toNat zS_tollhouseref10_Cond).Hash).take 4)) then some (.inr (.inl false)) else (if (0 : Int) ≤ s685 ∧ s685 < (s691.length : Int) then (if (0 : Int) ≤ s685 ∧ s685 < (s689.length : Int) then some (.inl (IntKind.wrap .i64 (s685 + 1), s689.set (s685 : Int).toNat ({ s689.getD (s685 : Int).toNat zS_tollhouseref10_Cond with Hash := (List.replicate 32 0) }), s691.set (s685 : Int).toNat ({ s691.getD (s685 : Int).toNat zS_tollhouseref10_Cond with Hash := (List.replicate 32 0) }))) else none) else none)) else none) else none) else some (.inr (.inr (s689, s691)))) : Option ((Int × (List S_tollhouseref10_Cond) × (List S_tollhouseref10_Cond)) ⊕ ((Bool) ⊕ ((List S_tollhouseref10_Cond) × (List S_tollhouseref10_Cond)))))) (0, y558.Conds, y542.Conds)).bind fun | (.inl z) => some z | (.inr (s1459, s1461)) => ((((tollhouselaw31_awake).bind fun y1516 => (if y1516 then ((tollhouseref12_Same ({ y542 with Conds := s1461 }) ({ y558 with Conds := s1459 })).bind fun y1533 => some y1533) else some false)) : Option (Bool)).bind fun s1506 => some s1506))))))))) : Option (Bool)) = some r → K413 a416 w417 := by
          intro s412 a416 w417 S415 hr418
          refine hK413 _ _ ?_
          clear hK413
          refine hK148 _ _ ?_
          clear hK148 K148
          rcases cond_some hr418 with ⟨b419, hr420⟩ | ⟨b419, hr421⟩
          · clear hr418
            refine c_true (S415.bool 0 rfl) b419 ?_
            refine wp_seq_k (fun K422 hK422 => ?_)
            refine wp_region_lit ?_
            refine op_assign S415 rfl (cPlain_mk (f := Value.bool) false) (fun a423 S424 => ?_)
            clear S415 a416
            refine wpList_nil ?_
            refine hK422 _ _ ?_
            clear hK422 K422
            refine wp_ret ?_
            cases hr420
            exact ret1 S424 rfl 0 rfl
          · clear hr418
            refine c_false (S415.bool 0 rfl) b419 ?_
            refine wp_skip ?_
            refine hK147 _ _ ?_
            clear hK147 K147
            refine wp_seq_k (fun K425 hK425 => ?_)
            refine wp_seq_k (fun K426 hK426 => ?_)
            refine wp_region_lit ?_
            refine op_move S415 rfl (S415.at 2 rfl) (fun a427 S428 => ?_)
            clear S415 a416
            refine op_move S428 rfl (S428.at 2 rfl) (fun a429 S430 => ?_)
            clear S428 a427
            obtain ⟨y431, h432, hr433⟩ := bind_some hr421
            clear hr421
            refine op_call S430 rfl Tryd.call10 (tollhouselaw31_same_ok (S430.at 1 rfl) (S430.at 0 rfl) S430.dirty_lt h432) (fun a434 w436 S435 => ?_)
            clear S430 a429 w417
            refine op_not S435 rfl (S435.bool 0 rfl) (fun a437 S438 => ?_)
            clear S435 a434
            refine wpList_nil ?_
            refine hK426 _ _ ?_
            clear hK426 K426
            rcases cond_some hr433 with ⟨b439, hr440⟩ | ⟨b439, hr441⟩
            · clear hr433
              refine c_true (S438.bool 0 rfl) b439 ?_
              refine wp_seq_k (fun K442 hK442 => ?_)
              refine wp_k (fun K483 hK483 => ?_)
              have X484 : ∀ (s482 : Bool) (a486 : Act) (w487 : World), St 101 (fun _ => False) D w a486 w487 [] [⟨6, Bool, cBool, s482⟩] → (some s482 : Option (Bool)) = some r → K483 a486 w487 := by
                intro s482 a486 w487 S485 hr488
                refine hK483 _ _ ?_
                clear hK483
                refine hK442 _ _ ?_
                clear hK442 K442
                refine wp_ret ?_
                cases hr488
                exact ret1 S485 rfl 0 rfl
              obtain ⟨t489, hr491, h490⟩ := bind_some hr440
              clear hr440
              refine wp_region_lit ?_
              obtain ⟨y492, h493, hr494⟩ := bind_some hr491
              clear hr491
              refine op_call S438 rfl Tryd.call7 (tollhouselaw31_awake_ok  S438.dirty_lt (S438.tab hT2) h493) (fun a495 w497 S496 => ?_)
              clear S438 a437 w436
              refine op_move S496 rfl (S496.at 0 rfl) (fun a498 S499 => ?_)
              clear S496 a495
              rcases cond_some hr494 with ⟨b500, hr501⟩ | ⟨b500, hr502⟩
              · clear hr494
                refine wpl_on (l := _) rfl rfl (S499.bool 0 rfl) b500 ?_
                refine op_loadr S499 rfl (S499.at 10 rfl) Tryd.isAgg27 Tryd.sizeOf27 (fun a503 S504 => ?_)
                clear S499 a498
                refine wpl_on (l := _) rfl rfl (S504.bool 1 rfl) b500 ?_
                refine op_loadr S504 rfl (S504.at 10 rfl) Tryd.isAgg27 Tryd.sizeOf27 (fun a505 S506 => ?_)
                clear S504 a503
                refine wpl_on (l := _) rfl rfl (S506.bool 2 rfl) b500 ?_
                obtain ⟨y507, h508, hr509⟩ := bind_some hr501
                clear hr501
                refine op_call S506 rfl Tryd.call15 (tollhouseref12_Same_ok (S506.at 1 rfl) (S506.at 0 rfl) S506.dirty_lt h508) (fun a510 w512 S511 => ?_)
                clear S506 a505 w497
                refine wpl_on (l := _) rfl rfl (S511.bool 3 rfl) b500 ?_
                refine op_not S511 rfl (S511.bool 0 rfl) (fun a513 S514 => ?_)
                clear S511 a510
                refine op_pickt S514 rfl (S514.bool 4 rfl) b500 (S514.at 0 rfl) (fun a515 S516 => ?_)
                clear S514 a513
                refine op_assign S516 rfl (S516.at 0 rfl) (fun a517 S518 => ?_)
                clear S516 a515
                refine wpList_nil ?_
                have S519 := S518.pick [0]
                clear S518
                exact X484 (!y507) _ _ S519 (by cases hr509; exact h490)
              · clear hr494
                refine op_off (l := _) S499 rfl rfl rfl (S499.bool 0 rfl) b500 (fun a521 S520 => ?_)
                clear S499 a498
                refine op_off (l := _) S520 rfl rfl rfl (S520.bool 0 rfl) b500 (fun a523 S522 => ?_)
                clear S520 a521
                refine op_off (l := _) S522 rfl rfl rfl (S522.bool 0 rfl) b500 (fun a525 S524 => ?_)
                clear S522 a523
                refine op_off (l := _) S524 rfl rfl rfl (S524.bool 0 rfl) b500 (fun a527 S526 => ?_)
                clear S524 a525
                refine op_pickf S526 rfl (S526.bool 0 rfl) b500 (cPlain_mk (f := Value.bool) false) (fun a528 S529 => ?_)
                clear S526 a527
                refine op_assign S529 rfl (S529.at 0 rfl) (fun a530 S531 => ?_)
                clear S529 a528
                refine wpList_nil ?_
                have S532 := S531.pick [0]
                clear S531
                exact X484 false _ _ S532 (by cases hr502; exact h490)
            · clear hr433
              refine c_false (S438.bool 0 rfl) b439 ?_
              refine wp_skip ?_
              refine hK425 _ _ ?_
              clear hK425 K425
              refine wp_seq_k (fun K533 hK533 => ?_)
              obtain ⟨y536, h537, hr538⟩ := bind_some hr441
              clear hr441
              obtain ⟨y542, h543, hr544⟩ := bind_some hr538
              clear hr538
              obtain ⟨y552, h553, hr554⟩ := bind_some hr544
              clear hr544
              obtain ⟨y558, h559, hr560⟩ := bind_some hr554
              clear hr554
              refine wp_drawn follows_mixed [[], [0], [0, 1], [], [0, 1, 2, 3], [0, 1, 2, 3, 4], [], [], [0, 1, 2, 3, 4, 5, 6, 7], [0, 1, 2, 3, 4, 5, 6, 7, 8]] [none, none, none, none, none, none, none, none] 8 rfl rfl 0 rfl (fun i p => List.getD [[⟨53, S_tollhouseref12_State, cS_tollhouseref12_State, x0⟩], [⟨54, S_api_State, cS_api_State, y536⟩], [⟨55, S_tollhouseref12_State_r4, cS_tollhouseref12_State_r4, mkS_tollhouseref12_State_r4 y542 p.2⟩], [⟨56, S_tollhouseref12_State, cS_tollhouseref12_State, x1⟩], [⟨57, S_api_State, cS_api_State, y552⟩], [⟨58, S_tollhouseref12_State_r4, cS_tollhouseref12_State_r4, mkS_tollhouseref12_State_r4 y558 p.2⟩], [⟨9, Value, cRaw, ptr p.1 0⟩], [⟨10, Value, cRaw, ptr p.1 0⟩]] i []) (fun i p z => List.getD [[], [], [Res.row p.2 30 cS_tollhouseref10_Cond y542.Conds], [], [], [Res.row p.2 30 cS_tollhouseref10_Cond y558.Conds], [Res.box p.1 27 cS_tollhouseref12_State_r4 (mkS_tollhouseref12_State_r4 zS_tollhouseref12_State (.slice none 0 0))], [Res.box p.1 27 cS_tollhouseref12_State_r4 (mkS_tollhouseref12_State_r4 zS_tollhouseref12_State (.slice none 0 0))]] i []) (fun _ => (0, undef)) S438 rfl (fun _ => rfl) (Obs.cons ?_ (Obs.cons ?_ (Obs.cons ?_ (Obs.cons ?_ (Obs.cons ?_ (Obs.cons ?_ (Obs.cons ?_ (Obs.cons ?_ Obs.nil)))))))) ?_
              · intro f581 X574 Y575 a577 w578 hX576 S579
                have S580 : St 101 (fun _ => False) D w a577 w578 ([] ++ Y575) ([⟨45, Bool, cBool, !y431⟩, ⟨44, Bool, cBool, y431⟩, ⟨43, (List (List UInt8)), (cSlice cStr), y137⟩, ⟨42, (List (List UInt8)), (cSlice cStr), y76⟩, ⟨41, Bool, cBool, s412⟩, ⟨8, (List (List UInt8)), (cSlice cStr), y137⟩, ⟨7, (List (List UInt8)), (cSlice cStr), y76⟩, ⟨4, S_tollhouseref12_State, cRef cS_tollhouseref12_State, x1⟩, ⟨3, S_tollhouseref12_State, cRef cS_tollhouseref12_State, x0⟩] ++ X574) := S579
                clear S579
                refine op_loadr S580 (okX rfl (hX576 _ rfl)) (S580.at 8 rfl) Tryd.isAgg27 Tryd.sizeOf27 (fun a582 S583 => ?_)
                clear S580 a577
                exact wpList_nil ⟨rfl, (0, undef), S583⟩
              · intro f591 X584 Y585 a587 w588 hX586 S589
                have S590 : St 101 (fun _ => False) D w a587 w588 ([] ++ Y585) ([⟨53, S_tollhouseref12_State, cS_tollhouseref12_State, x0⟩, ⟨45, Bool, cBool, !y431⟩, ⟨44, Bool, cBool, y431⟩, ⟨43, (List (List UInt8)), (cSlice cStr), y137⟩, ⟨42, (List (List UInt8)), (cSlice cStr), y76⟩, ⟨41, Bool, cBool, s412⟩, ⟨8, (List (List UInt8)), (cSlice cStr), y137⟩, ⟨7, (List (List UInt8)), (cSlice cStr), y76⟩, ⟨4, S_tollhouseref12_State, cRef cS_tollhouseref12_State, x1⟩, ⟨3, S_tollhouseref12_State, cRef cS_tollhouseref12_State, x0⟩] ++ X584) := S589
                clear S589
                refine op_call S590 (okX rfl (hX586 _ rfl)) Tryd.call9 (tollhouselaw12_To_ok (S590.at 0 rfl) S590.dirty_lt h537) (fun a592 w594 S593 => ?_)
                clear S590 a587 w588
                exact wpList_nil ⟨rfl, (0, undef), S593⟩
              · intro f602 X595 Y596 a598 w599 hX597 S600
                have S601 : St 101 (fun _ => False) D w a598 w599 ([] ++ Y596) ([⟨53, S_tollhouseref12_State, cS_tollhouseref12_State, x0⟩, ⟨54, S_api_State, cS_api_State, y536⟩, ⟨45, Bool, cBool, !y431⟩, ⟨44, Bool, cBool, y431⟩, ⟨43, (List (List UInt8)), (cSlice cStr), y137⟩, ⟨42, (List (List UInt8)), (cSlice cStr), y76⟩, ⟨41, Bool, cBool, s412⟩, ⟨8, (List (List UInt8)), (cSlice cStr), y137⟩, ⟨7, (List (List UInt8)), (cSlice cStr), y76⟩, ⟨4, S_tollhouseref12_State, cRef cS_tollhouseref12_State, x1⟩, ⟨3, S_tollhouseref12_State, cRef cS_tollhouseref12_State, x0⟩] ++ X595) := S600
                clear S600
                refine op_callown S601 (okX rfl (hX597 _ rfl)) Tryd.call16 (tollhouselaw12_From_own (S601.at 1 rfl) S601.dirty_lt h543) (fun u603 a604 w605 S606 => ?_)
                clear S601 a598 w599
                exact wpList_nil ⟨rfl, (0, u603), S606⟩
              · intro f615 X608 Y609 a611 w612 hX610 S613
                have S614 : St 101 (fun _ => False) D w a611 w612 ([] ++ Y609) ([⟨45, Bool, cBool, !y431⟩, ⟨44, Bool, cBool, y431⟩, ⟨43, (List (List UInt8)), (cSlice cStr), y137⟩, ⟨42, (List (List UInt8)), (cSlice cStr), y76⟩, ⟨41, Bool, cBool, s412⟩, ⟨8, (List (List UInt8)), (cSlice cStr), y137⟩, ⟨7, (List (List UInt8)), (cSlice cStr), y76⟩, ⟨4, S_tollhouseref12_State, cRef cS_tollhouseref12_State, x1⟩, ⟨3, S_tollhouseref12_State, cRef cS_tollhouseref12_State, x0⟩] ++ X608) := S613
                clear S613
                refine op_loadr S614 (okX rfl (hX610 _ rfl)) (S614.at 7 rfl) Tryd.isAgg27 Tryd.sizeOf27 (fun a616 S617 => ?_)
                clear S614 a611
                exact wpList_nil ⟨rfl, (0, undef), S617⟩
              · intro f625 X618 Y619 a621 w622 hX620 S623
                have S624 : St 101 (fun _ => False) D w a621 w622 ([] ++ Y619) ([⟨53, S_tollhouseref12_State, cS_tollhouseref12_State, x0⟩, ⟨54, S_api_State, cS_api_State, y536⟩, ⟨55, S_tollhouseref12_State_r4, cS_tollhouseref12_State_r4, mkS_tollhouseref12_State_r4 y542 (f625 2).2⟩, ⟨56, S_tollhouseref12_State, cS_tollhouseref12_State, x1⟩, ⟨45, Bool, cBool, !y431⟩, ⟨44, Bool, cBool, y431⟩, ⟨43, (List (List UInt8)), (cSlice cStr), y137⟩, ⟨42, (List (List UInt8)), (cSlice cStr), y76⟩, ⟨41, Bool, cBool, s412⟩, ⟨8, (List (List UInt8)), (cSlice cStr), y137⟩, ⟨7, (List (List UInt8)), (cSlice cStr), y76⟩, ⟨4, S_tollhouseref12_State, cRef cS_tollhouseref12_State, x1⟩, ⟨3, S_tollhouseref12_State, cRef cS_tollhouseref12_State, x0⟩] ++ X618) := S623
                clear S623
                refine op_call S624 (okX rfl (hX620 _ rfl)) Tryd.call9 (tollhouselaw12_To_ok (S624.at 3 rfl) S624.dirty_lt h553) (fun a626 w628 S627 => ?_)
                clear S624 a621 w622
                exact wpList_nil ⟨rfl, (0, undef), S627⟩
              · intro f636 X629 Y630 a632 w633 hX631 S634
                have S635 : St 101 (fun _ => False) D w a632 w633 ([] ++ Y630) ([⟨53, S_tollhouseref12_State, cS_tollhouseref12_State, x0⟩, ⟨54, S_api_State, cS_api_State, y536⟩, ⟨55, S_tollhouseref12_State_r4, cS_tollhouseref12_State_r4, mkS_tollhouseref12_State_r4 y542 (f636 2).2⟩, ⟨56, S_tollhouseref12_State, cS_tollhouseref12_State, x1⟩, ⟨57, S_api_State, cS_api_State, y552⟩, ⟨45, Bool, cBool, !y431⟩, ⟨44, Bool, cBool, y431⟩, ⟨43, (List (List UInt8)), (cSlice cStr), y137⟩, ⟨42, (List (List UInt8)), (cSlice cStr), y76⟩, ⟨41, Bool, cBool, s412⟩, ⟨8, (List (List UInt8)), (cSlice cStr), y137⟩, ⟨7, (List (List UInt8)), (cSlice cStr), y76⟩, ⟨4, S_tollhouseref12_State, cRef cS_tollhouseref12_State, x1⟩, ⟨3, S_tollhouseref12_State, cRef cS_tollhouseref12_State, x0⟩] ++ X629) := S634
                clear S634
                refine op_callown S635 (okX rfl (hX631 _ rfl)) Tryd.call16 (tollhouselaw12_From_own (S635.at 4 rfl) S635.dirty_lt h559) (fun u637 a638 w639 S640 => ?_)
                clear S635 a632 w633
                exact wpList_nil ⟨rfl, (0, u637), S640⟩
              · intro f649 X642 Y643 a645 w646 hX644 S647
                have S648 : St 101 (fun _ => False) D w a645 w646 ([] ++ Y643) ([⟨45, Bool, cBool, !y431⟩, ⟨44, Bool, cBool, y431⟩, ⟨43, (List (List UInt8)), (cSlice cStr), y137⟩, ⟨42, (List (List UInt8)), (cSlice cStr), y76⟩, ⟨41, Bool, cBool, s412⟩, ⟨8, (List (List UInt8)), (cSlice cStr), y137⟩, ⟨7, (List (List UInt8)), (cSlice cStr), y76⟩, ⟨4, S_tollhouseref12_State, cRef cS_tollhouseref12_State, x1⟩, ⟨3, S_tollhouseref12_State, cRef cS_tollhouseref12_State, x0⟩] ++ X642) := S647
                clear S647
                refine op_alloc S648 (okX rfl (hX644 _ rfl)) Tryd.zeroValue27 zS_tollhouseref12_State_r4_ok (fun b650 a651 w652 S653 => ?_)
                clear S648 a645 w646
                exact wpList_nil ⟨rfl, (b650, undef), S653⟩
              · intro f661 X654 Y655 a657 w658 hX656 S659
                have S660 : St 101 (fun _ => False) D w a657 w658 ([] ++ Y655) ([⟨45, Bool, cBool, !y431⟩, ⟨44, Bool, cBool, y431⟩, ⟨43, (List (List UInt8)), (cSlice cStr), y137⟩, ⟨42, (List (List UInt8)), (cSlice cStr), y76⟩, ⟨41, Bool, cBool, s412⟩, ⟨8, (List (List UInt8)), (cSlice cStr), y137⟩, ⟨7, (List (List UInt8)), (cSlice cStr), y76⟩, ⟨4, S_tollhouseref12_State, cRef cS_tollhouseref12_State, x1⟩, ⟨3, S_tollhouseref12_State, cRef cS_tollhouseref12_State, x0⟩] ++ X654) := S659
                clear S659
                refine op_alloc S660 (okX rfl (hX656 _ rfl)) Tryd.zeroValue27 zS_tollhouseref12_State_r4_ok (fun b662 a663 w664 S665 => ?_)
                clear S660 a657 w658
                exact wpList_nil ⟨rfl, (b662, undef), S665⟩
              · intro f670 a666 w667 _ S668
                have S669 : St 101 (fun _ => False) D w a666 w667 [Res.box (f670 7).1 27 cS_tollhouseref12_State_r4 (mkS_tollhouseref12_State_r4 zS_tollhouseref12_State (.slice none 0 0)), Res.box (f670 6).1 27 cS_tollhouseref12_State_r4 (mkS_tollhouseref12_State_r4 zS_tollhouseref12_State (.slice none 0 0)), Res.row (f670 5).2 30 cS_tollhouseref10_Cond y558.Conds, Res.row (f670 2).2 30 cS_tollhouseref10_Cond y542.Conds] [⟨10, Value, cRaw, ptr (f670 7).1 0⟩, ⟨9, Value, cRaw, ptr (f670 6).1 0⟩, ⟨58, S_tollhouseref12_State_r4, cS_tollhouseref12_State_r4, mkS_tollhouseref12_State_r4 y558 (f670 5).2⟩, ⟨57, S_api_State, cS_api_State, y552⟩, ⟨56, S_tollhouseref12_State, cS_tollhouseref12_State, x1⟩, ⟨55, S_tollhouseref12_State_r4, cS_tollhouseref12_State_r4, mkS_tollhouseref12_State_r4 y542 (f670 2).2⟩, ⟨54, S_api_State, cS_api_State, y536⟩, ⟨53, S_tollhouseref12_State, cS_tollhouseref12_State, x0⟩, ⟨45, Bool, cBool, !y431⟩, ⟨44, Bool, cBool, y431⟩, ⟨43, (List (List UInt8)), (cSlice cStr), y137⟩, ⟨42, (List (List UInt8)), (cSlice cStr), y76⟩, ⟨41, Bool, cBool, s412⟩, ⟨8, (List (List UInt8)), (cSlice cStr), y137⟩, ⟨7, (List (List UInt8)), (cSlice cStr), y76⟩, ⟨4, S_tollhouseref12_State, cRef cS_tollhouseref12_State, x1⟩, ⟨3, S_tollhouseref12_State, cRef cS_tollhouseref12_State, x0⟩] := S668
                clear S668 S438
                generalize (f670 2).2 = u545 at S669
                generalize (f670 5).2 = u561 at S669
                generalize (f670 6).1 = b566 at S669
                generalize (f670 7).1 = b570 at S669
                refine op_store S669 1 rfl (S669.raw 1 rfl) (S669.at 5 rfl) (Lens.id _) cS_tollhouseref12_State_r4_flat Tryd.sizeOf27 (fun w671 S672 => ?_)
                clear S669 w667
                refine op_store S672 0 rfl (S672.raw 0 rfl) (S672.at 2 rfl) (Lens.id _) cS_tollhouseref12_State_r4_flat Tryd.sizeOf27 (fun w673 S674 => ?_)
                clear S672 w671
                refine wpList_nil ?_
                refine hK533 _ _ ?_
                clear hK533 K533
                refine wp_seq_k (fun K675 hK675 => ?_)
                refine wp_seq_k (fun K676 hK676 => ?_)
                refine wp_region_lit ?_
                refine op_fieldAddr (o' := 6) S674 rfl (S674.raw 1 rfl) Tryd.underlying27 rfl Tryd.sizeOf25 rfl rfl (fun a677 S678 => ?_)
                clear S674 a666
                refine op_loadcell S678 rfl 1 rfl (S678.raw 0 rfl) LS_tollhouseref12_State_r4_Conds Tryd.isAgg25 Tryd.sizeOf25 (u := u545) rfl (fun a679 S680 => ?_)
                clear S678 a677
                refine op_lenrow S680 rfl 3 rfl (S680.raw 0 rfl) Tryd.underlying25 (fun a681 S682 => ?_)
                clear S680 a679
                refine op_move S682 rfl (cPlain_mk (f := Value.int .i64) 0) (fun a683 S684 => ?_)
                clear S682 a681
                refine wpList_nil ?_
                refine hK676 _ _ ?_
                clear hK676 K676
                refine wp_block ?_
                refine wp_q (fun Q1455 hQ1455 => ?_)
                have X1467 : ∀ (s1459 : (List S_tollhouseref10_Cond)) (s1461 : (List S_tollhouseref10_Cond)) (v1460 : Value) (v1462 : Value) (a1464 : Act) (w1465 : World), St 101 (fun _ => False) D w a1464 w1465 [Res.box b570 27 cS_tollhouseref12_State_r4 (mkS_tollhouseref12_State_r4 y558 v1460), Res.box b566 27 cS_tollhouseref12_State_r4 (mkS_tollhouseref12_State_r4 y542 v1462), Res.row v1460 30 cS_tollhouseref10_Cond s1459, Res.row v1462 30 cS_tollhouseref10_Cond s1461] [⟨10, Value, cRaw, ptr b570 0⟩, ⟨9, Value, cRaw, ptr b566 0⟩] → (((((tollhouselaw31_awake).bind fun y1516 => (if y1516 then ((tollhouseref12_Same ({ y542 with Conds := s1461 }) ({ y558 with Conds := s1459 })).bind fun y1533 => some y1533) else some false)) : Option (Bool)).bind fun s1506 => some s1506) : Option (Bool)) = some r → Q1455 (.exit 0) a1464 w1465 := by
                  intro s1459 s1461 v1460 v1462 a1464 w1465 S1463 hr1466
                  refine hQ1455 _ _ _ ?_
                  clear hQ1455
                  refine hK675 _ _ ?_
                  clear hK675 K675
                  refine wp_seq_k (fun K1468 hK1468 => ?_)
                  refine wp_k (fun K1507 hK1507 => ?_)
                  have X1508 : ∀ (s1506 : Bool) (a1510 : Act) (w1511 : World), St 101 (fun _ => False) D w a1510 w1511 [] [⟨6, Bool, cBool, s1506⟩] → (some s1506 : Option (Bool)) = some r → K1507 a1510 w1511 := by
                    intro s1506 a1510 w1511 S1509 hr1512
                    refine hK1507 _ _ ?_
                    clear hK1507
                    refine hK1468 _ _ ?_
                    clear hK1468 K1468
                    refine wp_ret ?_
                    cases hr1512
                    exact ret1 S1509 rfl 0 rfl
                  obtain ⟨t1513, hr1515, h1514⟩ := bind_some hr1466
                  clear hr1466
                  refine wp_region_lit ?_
                  obtain ⟨y1516, h1517, hr1518⟩ := bind_some hr1515
                  clear hr1515
                  refine op_call S1463 rfl Tryd.call7 (tollhouselaw31_awake_ok  S1463.dirty_lt (S1463.tab hT2) h1517) (fun a1519 w1521 S1520 => ?_)
                  clear S1463 a1464 w1465
                  refine op_move S1520 rfl (S1520.at 0 rfl) (fun a1522 S1523 => ?_)
                  clear S1520 a1519
                  rcases cond_some hr1518 with ⟨b1524, hr1525⟩ | ⟨b1524, hr1526⟩
                  · clear hr1518
                    refine wpl_on (l := _) rfl rfl (S1523.bool 0 rfl) b1524 ?_
                    have S1527 := S1523.settle 1 3 rfl rfl (convS_tollhouseref12_State_r4 (mkS_tollhouseref12_State_r4 y542 v1462) s1461)
                    clear S1523
                    refine op_load S1527 rfl 1 rfl (S1527.raw 3 rfl) (Lens.id _) Tryd.isAgg27 Tryd.sizeOf27 (u := { y542 with Conds := s1461 }) rfl (fun a1528 S1529 => ?_)
                    clear S1527 a1522
                    refine wpl_on (l := _) rfl rfl (S1529.bool 1 rfl) b1524 ?_
                    have S1530 := S1529.settle 0 2 rfl rfl (convS_tollhouseref12_State_r4 (mkS_tollhouseref12_State_r4 y558 v1460) s1459)
                    clear S1529
                    refine op_load S1530 rfl 0 rfl (S1530.raw 3 rfl) (Lens.id _) Tryd.isAgg27 Tryd.sizeOf27 (u := { y558 with Conds := s1459 }) rfl (fun a1531 S1532 => ?_)
                    clear S1530 a1528
                    refine wpl_on (l := _) rfl rfl (S1532.bool 2 rfl) b1524 ?_
                    obtain ⟨y1533, h1534, hr1535⟩ := bind_some hr1525
                    clear hr1525
                    refine op_call S1532 rfl Tryd.call15 (tollhouseref12_Same_ok (S1532.at 1 rfl) (S1532.at 0 rfl) S1532.dirty_lt h1534) (fun a1536 w1538 S1537 => ?_)
                    clear S1532 a1531 w1521
                    refine op_pickt S1537 rfl (S1537.bool 3 rfl) b1524 (S1537.at 0 rfl) (fun a1539 S1540 => ?_)
                    clear S1537 a1536
                    refine op_assign S1540 rfl (S1540.at 0 rfl) (fun a1541 S1542 => ?_)
                    clear S1540 a1539
                    refine wpList_nil ?_
                    have S1543 := S1542.lose 1
                    clear S1542
                    have S1544 := S1543.lose 0
                    clear S1543
                    have S1545 := S1544.pick [0]
                    clear S1544
                    exact X1508 y1533 _ _ S1545 (by cases hr1535; exact h1514)
                  · clear hr1518
                    refine op_off (l := _) S1523 rfl rfl rfl (S1523.bool 0 rfl) b1524 (fun a1547 S1546 => ?_)
                    clear S1523 a1522
                    refine op_off (l := _) S1546 rfl rfl rfl (S1546.bool 0 rfl) b1524 (fun a1549 S1548 => ?_)
                    clear S1546 a1547
                    refine op_off (l := _) S1548 rfl rfl rfl (S1548.bool 0 rfl) b1524 (fun a1551 S1550 => ?_)
                    clear S1548 a1549
                    refine op_pickf S1550 rfl (S1550.bool 0 rfl) b1524 (cPlain_mk (f := Value.bool) false) (fun a1552 S1553 => ?_)
                    clear S1550 a1551
                    refine op_assign S1553 rfl (S1553.at 0 rfl) (fun a1554 S1555 => ?_)
                    clear S1553 a1552
                    refine wpList_nil ?_
                    have S1556 := S1555.lose 3
                    clear S1555
                    have S1557 := S1556.lose 2
                    clear S1556
                    have S1558 := S1557.lose 1
                    clear S1557
                    have S1559 := S1558.lose 0
                    clear S1558
                    have S1560 := S1559.pick [0]
                    clear S1559
                    exact X1508 false _ _ S1560 (by cases hr1526; exact h1514)
                obtain ⟨t1456, hr1458, h1457⟩ := bind_some hr560
                clear hr560
                have S1957 := S684.pick [0, 1, 4, 5]
                clear S684
                refine wp_loopM (fun (s1956 : Int × (List S_tollhouseref10_Cond) × (List S_tollhouseref10_Cond)) a1563 w1564 => match s1956 with | (s685, s689, s691) => ∃ v690 : Value, ∃ v692 : Value, St 101 (fun _ => False) D w a1563 w1564 [Res.box b570 27 cS_tollhouseref12_State_r4 (mkS_tollhouseref12_State_r4 y558 v690), Res.box b566 27 cS_tollhouseref12_State_r4 (mkS_tollhouseref12_State_r4 y542 v692), Res.row v690 30 cS_tollhouseref10_Cond s689, Res.row v692 30 cS_tollhouseref10_Cond s691] [⟨62, Int, (cInt .i64), s685⟩, ⟨61, Int, (cInt .i64), (y542.Conds.length : Int)⟩, ⟨10, Value, cRaw, ptr b570 0⟩, ⟨9, Value, cRaw, ptr b566 0⟩]) ?_ (0, y558.Conds, y542.Conds) ?_ hr1458
                · intro s1956 a1563 w1564 x1561 S1958 hr1565
                  obtain ⟨s685, s689, s691⟩ := s1956
                  obtain ⟨v690, v692, S1562⟩ := S1958
                  replace S1562 : St 101 (fun _ => False) D w a1563 w1564 [Res.box b570 27 cS_tollhouseref12_State_r4 (mkS_tollhouseref12_State_r4 y558 v690), Res.box b566 27 cS_tollhouseref12_State_r4 (mkS_tollhouseref12_State_r4 y542 v692), Res.row v690 30 cS_tollhouseref10_Cond s689, Res.row v692 30 cS_tollhouseref10_Cond s691] [⟨62, Int, (cInt .i64), s685⟩, ⟨61, Int, (cInt .i64), (y542.Conds.length : Int)⟩, ⟨10, Value, cRaw, ptr b570 0⟩, ⟨9, Value, cRaw, ptr b566 0⟩] := S1562
                  refine wp_seq_k (fun K1566 hK1566 => ?_)
                  refine wp_region_lit ?_
                  refine op_lss S1562 rfl (S1562.int 0 rfl) (S1562.int 1 rfl) (fun a1567 S1568 => ?_)
                  clear S1562 a1563
                  refine wpList_nil ?_
                  refine hK1566 _ _ ?_
                  clear hK1566 K1566
                  refine wp_seq_k (fun K1569 hK1569 => ?_)
                  rcases cond_some hr1565 with ⟨b1570, hr1571⟩ | ⟨b1570, hr1572⟩
                  · clear hr1565
                    refine c_true (S1568.bool 0 rfl) b1570 ?_
                    refine wp_skip ?_
                    refine hK1569 _ _ ?_
                    clear hK1569 K1569
                    refine wp_seq_k (fun K1573 hK1573 => ?_)
                    refine wp_block ?_
                    refine wp_seq_k (fun K1574 hK1574 => ?_)
                    refine wp_region_lit ?_
                    refine op_move S1568 rfl (S1568.at 1 rfl) (fun a1575 S1576 => ?_)
                    clear S1568 a1567
                    refine op_assign S1576 rfl (S1576.at 0 rfl) (fun a1577 S1578 => ?_)
                    clear S1576 a1575
                    refine wpList_nil ?_
                    refine hK1574 _ _ ?_
                    clear hK1574 K1574
                    refine wp_seq_k (fun K1579 hK1579 => ?_)
                    refine wp_seq_k (fun K1580 hK1580 => ?_)
                    obtain ⟨g1587, hr1588⟩ := guard_some hr1571
                    clear hr1571
                    obtain ⟨g1605, hr1606⟩ := guard_some hr1588
                    clear hr1588
                    have hsh1617 := S1578.shape 2 rfl
                    have hsh1618 := S1578.shape 3 rfl
                    refine wp_drawn follows_mixed [[], [0], [], [0, 1, 2], [0, 1, 2, 3], [0, 1, 2, 3, 4], [0, 1, 2, 3, 4, 5], [0, 1, 2, 3, 4, 5, 6], [], [8], [], [8, 9, 10], [8, 9, 10, 11], [8, 9, 10, 11, 12], [8, 9, 10, 11, 12, 13], [8, 9, 10, 11, 12, 13, 14], [0, 1, 2, 3, 4, 5, 6, 7, 8, 9, 10, 11, 12, 13, 14, 15]] [none, none, none, none, none, none, none, none, none, none, none, none, none, none, none, none] 16 rfl rfl 0 rfl (fun i p => List.getD [[⟨65, Value, cRaw, ptr b566 6⟩], [⟨66, Value, cRaw, v692⟩], [⟨67, Int, (cInt .i64), s685⟩], [⟨68, Value, cRaw, rowPtr v692 ((s685 : Int).toNat * 36 + 0)⟩], [⟨69, Value, cRaw, rowPtr v692 ((s685 : Int).toNat * 36 + 3)⟩], [⟨70, Value, cRaw, rowSl v692 ((s685 : Int).toNat * 36 + 3) 4 32⟩], [⟨71, Value, cRaw, rowPtr v692 ((s685 : Int).toNat * 36 + 3)⟩], [⟨72, (List Int), (cArr 4 (cInt .u8)), ((s691.getD (s685 : Int).toNat zS_tollhouseref10_Cond).Hash).take 4⟩], [⟨73, Value, cRaw, ptr b570 6⟩], [⟨74, Value, cRaw, v690⟩], [⟨75, Int, (cInt .i64), s685⟩], [⟨76, Value, cRaw, rowPtr v690 ((s685 : Int).toNat * 36 + 0)⟩], [⟨77, Value, cRaw, rowPtr v690 ((s685 : Int).toNat * 36 + 3)⟩], [⟨78, Value, cRaw, rowSl v690 ((s685 : Int).toNat * 36 + 3) 4 32⟩], [⟨79, Value, cRaw, rowPtr v690 ((s685 : Int).toNat * 36 + 3)⟩], [⟨80, (List Int), (cArr 4 (cInt .u8)), ((s689.getD (s685 : Int).toNat zS_tollhouseref10_Cond).Hash).take 4⟩]] i []) (fun _ _ _ => []) (fun _ => (0, undef)) S1578 rfl (fun _ => rfl) (Obs.cons ?_ (Obs.cons ?_ (Obs.cons ?_ (Obs.cons ?_ (Obs.cons ?_ (Obs.cons ?_ (Obs.cons ?_ (Obs.cons ?_ (Obs.cons ?_ (Obs.cons ?_ (Obs.cons ?_ (Obs.cons ?_ (Obs.cons ?_ (Obs.cons ?_ (Obs.cons ?_ (Obs.cons ?_ Obs.nil)))))))))))))))) ?_
                    · intro f1626 X1619 Y1620 a1622 w1623 hX1621 S1624
                      have S1625 : St 101 (fun _ => False) D w a1622 w1623 ([Res.box b570 27 cS_tollhouseref12_State_r4 (mkS_tollhouseref12_State_r4 y558 v690), Res.box b566 27 cS_tollhouseref12_State_r4 (mkS_tollhouseref12_State_r4 y542 v692), Res.row v690 30 cS_tollhouseref10_Cond s689, Res.row v692 30 cS_tollhouseref10_Cond s691] ++ Y1620) ([⟨11, Int, (cInt .i64), s685⟩, ⟨64, Int, (cInt .i64), s685⟩, ⟨63, Bool, cBool, decide (s685 < (y542.Conds.length : Int))⟩, ⟨62, Int, (cInt .i64), s685⟩, ⟨61, Int, (cInt .i64), (y542.Conds.length : Int)⟩, ⟨10, Value, cRaw, ptr b570 0⟩, ⟨9, Value, cRaw, ptr b566 0⟩] ++ X1619) := S1624
                      clear S1624
                      refine op_fieldAddr (o' := 6) S1625 (okX rfl (hX1621 _ rfl)) (S1625.raw 6 rfl) Tryd.underlying27 rfl Tryd.sizeOf25 rfl rfl (fun a1627 S1628 => ?_)
                      clear S1625 a1622
                      exact wpList_nil ⟨rfl, (0, undef), S1628⟩
                    · intro f1636 X1629 Y1630 a1632 w1633 hX1631 S1634
                      have S1635 : St 101 (fun _ => False) D w a1632 w1633 ([Res.box b570 27 cS_tollhouseref12_State_r4 (mkS_tollhouseref12_State_r4 y558 v690), Res.box b566 27 cS_tollhouseref12_State_r4 (mkS_tollhouseref12_State_r4 y542 v692), Res.row v690 30 cS_tollhouseref10_Cond s689, Res.row v692 30 cS_tollhouseref10_Cond s691] ++ Y1630) ([⟨65, Value, cRaw, ptr b566 6⟩, ⟨11, Int, (cInt .i64), s685⟩, ⟨64, Int, (cInt .i64), s685⟩, ⟨63, Bool, cBool, decide (s685 < (y542.Conds.length : Int))⟩, ⟨62, Int, (cInt .i64), s685⟩, ⟨61, Int, (cInt .i64), (y542.Conds.length : Int)⟩, ⟨10, Value, cRaw, ptr b570 0⟩, ⟨9, Value, cRaw, ptr b566 0⟩] ++ X1629) := S1634
                      clear S1634
                      refine op_loadcell S1635 (okX rfl (hX1631 _ rfl)) 1 rfl (S1635.raw 0 rfl) LS_tollhouseref12_State_r4_Conds Tryd.isAgg25 Tryd.sizeOf25 (u := v692) rfl (fun a1637 S1638 => ?_)
                      clear S1635 a1632
                      exact wpList_nil ⟨rfl, (0, undef), S1638⟩
                    · intro f1646 X1639 Y1640 a1642 w1643 hX1641 S1644
                      have S1645 : St 101 (fun _ => False) D w a1642 w1643 ([Res.box b570 27 cS_tollhouseref12_State_r4 (mkS_tollhouseref12_State_r4 y558 v690), Res.box b566 27 cS_tollhouseref12_State_r4 (mkS_tollhouseref12_State_r4 y542 v692), Res.row v690 30 cS_tollhouseref10_Cond s689, Res.row v692 30 cS_tollhouseref10_Cond s691] ++ Y1640) ([⟨11, Int, (cInt .i64), s685⟩, ⟨64, Int, (cInt .i64), s685⟩, ⟨63, Bool, cBool, decide (s685 < (y542.Conds.length : Int))⟩, ⟨62, Int, (cInt .i64), s685⟩, ⟨61, Int, (cInt .i64), (y542.Conds.length : Int)⟩, ⟨10, Value, cRaw, ptr b570 0⟩, ⟨9, Value, cRaw, ptr b566 0⟩] ++ X1639) := S1644
                      clear S1644
                      refine op_move S1645 (okX rfl (hX1641 _ rfl)) (S1645.at 0 rfl) (fun a1647 S1648 => ?_)
                      clear S1645 a1642
                      exact wpList_nil ⟨rfl, (0, undef), S1648⟩
                    · intro f1656 X1649 Y1650 a1652 w1653 hX1651 S1654
                      have S1655 : St 101 (fun _ => False) D w a1652 w1653 ([Res.box b570 27 cS_tollhouseref12_State_r4 (mkS_tollhouseref12_State_r4 y558 v690), Res.box b566 27 cS_tollhouseref12_State_r4 (mkS_tollhouseref12_State_r4 y542 v692), Res.row v690 30 cS_tollhouseref10_Cond s689, Res.row v692 30 cS_tollhouseref10_Cond s691] ++ Y1650) ([⟨65, Value, cRaw, ptr b566 6⟩, ⟨66, Value, cRaw, v692⟩, ⟨67, Int, (cInt .i64), s685⟩, ⟨11, Int, (cInt .i64), s685⟩, ⟨64, Int, (cInt .i64), s685⟩, ⟨63, Bool, cBool, decide (s685 < (y542.Conds.length : Int))⟩, ⟨62, Int, (cInt .i64), s685⟩, ⟨61, Int, (cInt .i64), (y542.Conds.length : Int)⟩, ⟨10, Value, cRaw, ptr b570 0⟩, ⟨9, Value, cRaw, ptr b566 0⟩] ++ X1649) := S1654
                      clear S1654
                      refine op_indexrow S1655 (okX rfl (hX1651 _ rfl)) hsh1618 (S1655.raw 1 rfl) (S1655.int 2 rfl) g1587 Tryd.underlying25 Tryd.sizeOf30 (fun a1657 S1658 => ?_)
                      clear S1655 a1652
                      exact wpList_nil ⟨rfl, (0, undef), S1658⟩
                    · intro f1666 X1659 Y1660 a1662 w1663 hX1661 S1664
                      have S1665 : St 101 (fun _ => False) D w a1662 w1663 ([Res.box b570 27 cS_tollhouseref12_State_r4 (mkS_tollhouseref12_State_r4 y558 v690), Res.box b566 27 cS_tollhouseref12_State_r4 (mkS_tollhouseref12_State_r4 y542 v692), Res.row v690 30 cS_tollhouseref10_Cond s689, Res.row v692 30 cS_tollhouseref10_Cond s691] ++ Y1660) ([⟨65, Value, cRaw, ptr b566 6⟩, ⟨66, Value, cRaw, v692⟩, ⟨67, Int, (cInt .i64), s685⟩, ⟨68, Value, cRaw, rowPtr v692 ((s685 : Int).toNat * 36 + 0)⟩, ⟨11, Int, (cInt .i64), s685⟩, ⟨64, Int, (cInt .i64), s685⟩, ⟨63, Bool, cBool, decide (s685 < (y542.Conds.length : Int))⟩, ⟨62, Int, (cInt .i64), s685⟩, ⟨61, Int, (cInt .i64), (y542.Conds.length : Int)⟩, ⟨10, Value, cRaw, ptr b570 0⟩, ⟨9, Value, cRaw, ptr b566 0⟩] ++ X1659) := S1664
                      clear S1664
                      refine op_fieldrow (o' := (s685 : Int).toNat * 36 + 3) S1665 (okX rfl (hX1661 _ rfl)) hsh1618 g1587 (S1665.raw 3 rfl) Tryd.underlying30 rfl Tryd.sizeOf28 rfl rfl (fun a1667 S1668 => ?_)
                      clear S1665 a1662
                      exact wpList_nil ⟨rfl, (0, undef), S1668⟩
                    · intro f1676 X1669 Y1670 a1672 w1673 hX1671 S1674
                      have S1675 : St 101 (fun _ => False) D w a1672 w1673 ([Res.box b570 27 cS_tollhouseref12_State_r4 (mkS_tollhouseref12_State_r4 y558 v690), Res.box b566 27 cS_tollhouseref12_State_r4 (mkS_tollhouseref12_State_r4 y542 v692), Res.row v690 30 cS_tollhouseref10_Cond s689, Res.row v692 30 cS_tollhouseref10_Cond s691] ++ Y1670) ([⟨65, Value, cRaw, ptr b566 6⟩, ⟨66, Value, cRaw, v692⟩, ⟨67, Int, (cInt .i64), s685⟩, ⟨68, Value, cRaw, rowPtr v692 ((s685 : Int).toNat * 36 + 0)⟩, ⟨69, Value, cRaw, rowPtr v692 ((s685 : Int).toNat * 36 + 3)⟩, ⟨11, Int, (cInt .i64), s685⟩, ⟨64, Int, (cInt .i64), s685⟩, ⟨63, Bool, cBool, decide (s685 < (y542.Conds.length : Int))⟩, ⟨62, Int, (cInt .i64), s685⟩, ⟨61, Int, (cInt .i64), (y542.Conds.length : Int)⟩, ⟨10, Value, cRaw, ptr b570 0⟩, ⟨9, Value, cRaw, ptr b566 0⟩] ++ X1669) := S1674
                      clear S1674
                      refine op_slicerowt S1675 (okX rfl (hX1671 _ rfl)) hsh1618 g1587 (S1675.raw 4 rfl) rfl (by decide) Tryd.underlying28 Tryd.sizeOf5 (fun a1677 S1678 => ?_)
                      clear S1675 a1672
                      exact wpList_nil ⟨rfl, (0, undef), S1678⟩
                    · intro f1686 X1679 Y1680 a1682 w1683 hX1681 S1684
                      have S1685 : St 101 (fun _ => False) D w a1682 w1683 ([Res.box b570 27 cS_tollhouseref12_State_r4 (mkS_tollhouseref12_State_r4 y558 v690), Res.box b566 27 cS_tollhouseref12_State_r4 (mkS_tollhouseref12_State_r4 y542 v692), Res.row v690 30 cS_tollhouseref10_Cond s689, Res.row v692 30 cS_tollhouseref10_Cond s691] ++ Y1680) ([⟨65, Value, cRaw, ptr b566 6⟩, ⟨66, Value, cRaw, v692⟩, ⟨67, Int, (cInt .i64), s685⟩, ⟨68, Value, cRaw, rowPtr v692 ((s685 : Int).toNat * 36 + 0)⟩, ⟨69, Value, cRaw, rowPtr v692 ((s685 : Int).toNat * 36 + 3)⟩, ⟨70, Value, cRaw, rowSl v692 ((s685 : Int).toNat * 36 + 3) 4 32⟩, ⟨11, Int, (cInt .i64), s685⟩, ⟨64, Int, (cInt .i64), s685⟩, ⟨63, Bool, cBool, decide (s685 < (y542.Conds.length : Int))⟩, ⟨62, Int, (cInt .i64), s685⟩, ⟨61, Int, (cInt .i64), (y542.Conds.length : Int)⟩, ⟨10, Value, cRaw, ptr b570 0⟩, ⟨9, Value, cRaw, ptr b566 0⟩] ++ X1679) := S1684
                      clear S1684
                      refine op_arrprow S1685 (okX rfl (hX1681 _ rfl)) hsh1618 g1587 (S1685.raw 5 rfl) rfl Tryd.underlying53 (fun a1687 S1688 => ?_)
                      clear S1685 a1682
                      exact wpList_nil ⟨rfl, (0, undef), S1688⟩
                    · intro f1696 X1689 Y1690 a1692 w1693 hX1691 S1694
                      have S1695 : St 101 (fun _ => False) D w a1692 w1693 ([Res.box b570 27 cS_tollhouseref12_State_r4 (mkS_tollhouseref12_State_r4 y558 v690), Res.box b566 27 cS_tollhouseref12_State_r4 (mkS_tollhouseref12_State_r4 y542 v692), Res.row v690 30 cS_tollhouseref10_Cond s689, Res.row v692 30 cS_tollhouseref10_Cond s691] ++ Y1690) ([⟨65, Value, cRaw, ptr b566 6⟩, ⟨66, Value, cRaw, v692⟩, ⟨67, Int, (cInt .i64), s685⟩, ⟨68, Value, cRaw, rowPtr v692 ((s685 : Int).toNat * 36 + 0)⟩, ⟨69, Value, cRaw, rowPtr v692 ((s685 : Int).toNat * 36 + 3)⟩, ⟨70, Value, cRaw, rowSl v692 ((s685 : Int).toNat * 36 + 3) 4 32⟩, ⟨71, Value, cRaw, rowPtr v692 ((s685 : Int).toNat * 36 + 3)⟩, ⟨11, Int, (cInt .i64), s685⟩, ⟨64, Int, (cInt .i64), s685⟩, ⟨63, Bool, cBool, decide (s685 < (y542.Conds.length : Int))⟩, ⟨62, Int, (cInt .i64), s685⟩, ⟨61, Int, (cInt .i64), (y542.Conds.length : Int)⟩, ⟨10, Value, cRaw, ptr b570 0⟩, ⟨9, Value, cRaw, ptr b566 0⟩] ++ X1689) := S1694
                      clear S1694
                      refine op_loadrow (z0 := zS_tollhouseref10_Cond) S1695 (okX rfl (hX1691 _ rfl)) 3 rfl g1587 (S1695.raw 6 rfl) (LS_tollhouseref10_Cond_Hash.comp (Lens.pre (n := 32) (m := 4) (cInt .u8) rfl)) Tryd.isAgg53 Tryd.sizeOf53 (u := ((s691.getD (s685 : Int).toNat zS_tollhouseref10_Cond).Hash).take 4) rfl (fun a1697 S1698 => ?_)
                      clear S1695 a1692
                      exact wpList_nil ⟨rfl, (0, undef), S1698⟩
                    · intro f1706 X1699 Y1700 a1702 w1703 hX1701 S1704
                      have S1705 : St 101 (fun _ => False) D w a1702 w1703 ([Res.box b570 27 cS_tollhouseref12_State_r4 (mkS_tollhouseref12_State_r4 y558 v690), Res.box b566 27 cS_tollhouseref12_State_r4 (mkS_tollhouseref12_State_r4 y542 v692), Res.row v690 30 cS_tollhouseref10_Cond s689, Res.row v692 30 cS_tollhouseref10_Cond s691] ++ Y1700) ([⟨11, Int, (cInt .i64), s685⟩, ⟨64, Int, (cInt .i64), s685⟩, ⟨63, Bool, cBool, decide (s685 < (y542.Conds.length : Int))⟩, ⟨62, Int, (cInt .i64), s685⟩, ⟨61, Int, (cInt .i64), (y542.Conds.length : Int)⟩, ⟨10, Value, cRaw, ptr b570 0⟩, ⟨9, Value, cRaw, ptr b566 0⟩] ++ X1699) := S1704
                      clear S1704
                      refine op_fieldAddr (o' := 6) S1705 (okX rfl (hX1701 _ rfl)) (S1705.raw 5 rfl) Tryd.underlying27 rfl Tryd.sizeOf25 rfl rfl (fun a1707 S1708 => ?_)
                      clear S1705 a1702
                      exact wpList_nil ⟨rfl, (0, undef), S1708⟩
                    · intro f1716 X1709 Y1710 a1712 w1713 hX1711 S1714
                      have S1715 : St 101 (fun _ => False) D w a1712 w1713 ([Res.box b570 27 cS_tollhouseref12_State_r4 (mkS_tollhouseref12_State_r4 y558 v690), Res.box b566 27 cS_tollhouseref12_State_r4 (mkS_tollhouseref12_State_r4 y542 v692), Res.row v690 30 cS_tollhouseref10_Cond s689, Res.row v692 30 cS_tollhouseref10_Cond s691] ++ Y1710) ([⟨73, Value, cRaw, ptr b570 6⟩, ⟨11, Int, (cInt .i64), s685⟩, ⟨64, Int, (cInt .i64), s685⟩, ⟨63, Bool, cBool, decide (s685 < (y542.Conds.length : Int))⟩, ⟨62, Int, (cInt .i64), s685⟩, ⟨61, Int, (cInt .i64), (y542.Conds.length : Int)⟩, ⟨10, Value, cRaw, ptr b570 0⟩, ⟨9, Value, cRaw, ptr b566 0⟩] ++ X1709) := S1714
                      clear S1714
                      refine op_loadcell S1715 (okX rfl (hX1711 _ rfl)) 0 rfl (S1715.raw 0 rfl) LS_tollhouseref12_State_r4_Conds Tryd.isAgg25 Tryd.sizeOf25 (u := v690) rfl (fun a1717 S1718 => ?_)
                      clear S1715 a1712
                      exact wpList_nil ⟨rfl, (0, undef), S1718⟩
                    · intro f1726 X1719 Y1720 a1722 w1723 hX1721 S1724
                      have S1725 : St 101 (fun _ => False) D w a1722 w1723 ([Res.box b570 27 cS_tollhouseref12_State_r4 (mkS_tollhouseref12_State_r4 y558 v690), Res.box b566 27 cS_tollhouseref12_State_r4 (mkS_tollhouseref12_State_r4 y542 v692), Res.row v690 30 cS_tollhouseref10_Cond s689, Res.row v692 30 cS_tollhouseref10_Cond s691] ++ Y1720) ([⟨11, Int, (cInt .i64), s685⟩, ⟨64, Int, (cInt .i64), s685⟩, ⟨63, Bool, cBool, decide (s685 < (y542.Conds.length : Int))⟩, ⟨62, Int, (cInt .i64), s685⟩, ⟨61, Int, (cInt .i64), (y542.Conds.length : Int)⟩, ⟨10, Value, cRaw, ptr b570 0⟩, ⟨9, Value, cRaw, ptr b566 0⟩] ++ X1719) := S1724
                      clear S1724
                      refine op_move S1725 (okX rfl (hX1721 _ rfl)) (S1725.at 0 rfl) (fun a1727 S1728 => ?_)
                      clear S1725 a1722
                      exact wpList_nil ⟨rfl, (0, undef), S1728⟩
                    · intro f1736 X1729 Y1730 a1732 w1733 hX1731 S1734
                      have S1735 : St 101 (fun _ => False) D w a1732 w1733 ([Res.box b570 27 cS_tollhouseref12_State_r4 (mkS_tollhouseref12_State_r4 y558 v690), Res.box b566 27 cS_tollhouseref12_State_r4 (mkS_tollhouseref12_State_r4 y542 v692), Res.row v690 30 cS_tollhouseref10_Cond s689, Res.row v692 30 cS_tollhouseref10_Cond s691] ++ Y1730) ([⟨73, Value, cRaw, ptr b570 6⟩, ⟨74, Value, cRaw, v690⟩, ⟨75, Int, (cInt .i64), s685⟩, ⟨11, Int, (cInt .i64), s685⟩, ⟨64, Int, (cInt .i64), s685⟩, ⟨63, Bool, cBool, decide (s685 < (y542.Conds.length : Int))⟩, ⟨62, Int, (cInt .i64), s685⟩, ⟨61, Int, (cInt .i64), (y542.Conds.length : Int)⟩, ⟨10, Value, cRaw, ptr b570 0⟩, ⟨9, Value, cRaw, ptr b566 0⟩] ++ X1729) := S1734
                      clear S1734
                      refine op_indexrow S1735 (okX rfl (hX1731 _ rfl)) hsh1617 (S1735.raw 1 rfl) (S1735.int 2 rfl) g1605 Tryd.underlying25 Tryd.sizeOf30 (fun a1737 S1738 => ?_)
                      clear S1735 a1732
                      exact wpList_nil ⟨rfl, (0, undef), S1738⟩
                    · intro f1746 X1739 Y1740 a1742 w1743 hX1741 S1744
                      have S1745 : St 101 (fun _ => False) D w a1742 w1743 ([Res.box b570 27 cS_tollhouseref12_State_r4 (mkS_tollhouseref12_State_r4 y558 v690), Res.box b566 27 cS_tollhouseref12_State_r4 (mkS_tollhouseref12_State_r4 y542 v692), Res.row v690 30 cS_tollhouseref10_Cond s689, Res.row v692 30 cS_tollhouseref10_Cond s691] ++ Y1740) ([⟨73, Value, cRaw, ptr b570 6⟩, ⟨74, Value, cRaw, v690⟩, ⟨75, Int, (cInt .i64), s685⟩, ⟨76, Value, cRaw, rowPtr v690 ((s685 : Int).toNat * 36 + 0)⟩, ⟨11, Int, (cInt .i64), s685⟩, ⟨64, Int, (cInt .i64), s685⟩, ⟨63, Bool, cBool, decide (s685 < (y542.Conds.length : Int))⟩, ⟨62, Int, (cInt .i64), s685⟩, ⟨61, Int, (cInt .i64), (y542.Conds.length : Int)⟩, ⟨10, Value, cRaw, ptr b570 0⟩, ⟨9, Value, cRaw, ptr b566 0⟩] ++ X1739) := S1744
                      clear S1744
                      refine op_fieldrow (o' := (s685 : Int).toNat * 36 + 3) S1745 (okX rfl (hX1741 _ rfl)) hsh1617 g1605 (S1745.raw 3 rfl) Tryd.underlying30 rfl Tryd.sizeOf28 rfl rfl (fun a1747 S1748 => ?_)
                      clear S1745 a1742
                      exact wpList_nil ⟨rfl, (0, undef), S1748⟩
                    · intro f1756 X1749 Y1750 a1752 w1753 hX1751 S1754
                      have S1755 : St 101 (fun _ => False) D w a1752 w1753 ([Res.box b570 27 cS_tollhouseref12_State_r4 (mkS_tollhouseref12_State_r4 y558 v690), Res.box b566 27 cS_tollhouseref12_State_r4 (mkS_tollhouseref12_State_r4 y542 v692), Res.row v690 30 cS_tollhouseref10_Cond s689, Res.row v692 30 cS_tollhouseref10_Cond s691] ++ Y1750) ([⟨73, Value, cRaw, ptr b570 6⟩, ⟨74, Value, cRaw, v690⟩, ⟨75, Int, (cInt .i64), s685⟩, ⟨76, Value, cRaw, rowPtr v690 ((s685 : Int).toNat * 36 + 0)⟩, ⟨77, Value, cRaw, rowPtr v690 ((s685 : Int).toNat * 36 + 3)⟩, ⟨11, Int, (cInt .i64), s685⟩, ⟨64, Int, (cInt .i64), s685⟩, ⟨63, Bool, cBool, decide (s685 < (y542.Conds.length : Int))⟩, ⟨62, Int, (cInt .i64), s685⟩, ⟨61, Int, (cInt .i64), (y542.Conds.length : Int)⟩, ⟨10, Value, cRaw, ptr b570 0⟩, ⟨9, Value, cRaw, ptr b566 0⟩] ++ X1749) := S1754
                      clear S1754
                      refine op_slicerowt S1755 (okX rfl (hX1751 _ rfl)) hsh1617 g1605 (S1755.raw 4 rfl) rfl (by decide) Tryd.underlying28 Tryd.sizeOf5 (fun a1757 S1758 => ?_)
                      clear S1755 a1752
                      exact wpList_nil ⟨rfl, (0, undef), S1758⟩
                    · intro f1766 X1759 Y1760 a1762 w1763 hX1761 S1764
                      have S1765 : St 101 (fun _ => False) D w a1762 w1763 ([Res.box b570 27 cS_tollhouseref12_State_r4 (mkS_tollhouseref12_State_r4 y558 v690), Res.box b566 27 cS_tollhouseref12_State_r4 (mkS_tollhouseref12_State_r4 y542 v692), Res.row v690 30 cS_tollhouseref10_Cond s689, Res.row v692 30 cS_tollhouseref10_Cond s691] ++ Y1760) ([⟨73, Value, cRaw, ptr b570 6⟩, ⟨74, Value, cRaw, v690⟩, ⟨75, Int, (cInt .i64), s685⟩, ⟨76, Value, cRaw, rowPtr v690 ((s685 : Int).toNat * 36 + 0)⟩, ⟨77, Value, cRaw, rowPtr v690 ((s685 : Int).toNat * 36 + 3)⟩, ⟨78, Value, cRaw, rowSl v690 ((s685 : Int).toNat * 36 + 3) 4 32⟩, ⟨11, Int, (cInt .i64), s685⟩, ⟨64, Int, (cInt .i64), s685⟩, ⟨63, Bool, cBool, decide (s685 < (y542.Conds.length : Int))⟩, ⟨62, Int, (cInt .i64), s685⟩, ⟨61, Int, (cInt .i64), (y542.Conds.length : Int)⟩, ⟨10, Value, cRaw, ptr b570 0⟩, ⟨9, Value, cRaw, ptr b566 0⟩] ++ X1759) := S1764
                      clear S1764
                      refine op_arrprow S1765 (okX rfl (hX1761 _ rfl)) hsh1617 g1605 (S1765.raw 5 rfl) rfl Tryd.underlying53 (fun a1767 S1768 => ?_)
                      clear S1765 a1762
                      exact wpList_nil ⟨rfl, (0, undef), S1768⟩
                    · intro f1776 X1769 Y1770 a1772 w1773 hX1771 S1774
                      have S1775 : St 101 (fun _ => False) D w a1772 w1773 ([Res.box b570 27 cS_tollhouseref12_State_r4 (mkS_tollhouseref12_State_r4 y558 v690), Res.box b566 27 cS_tollhouseref12_State_r4 (mkS_tollhouseref12_State_r4 y542 v692), Res.row v690 30 cS_tollhouseref10_Cond s689, Res.row v692 30 cS_tollhouseref10_Cond s691] ++ Y1770) ([⟨73, Value, cRaw, ptr b570 6⟩, ⟨74, Value, cRaw, v690⟩, ⟨75, Int, (cInt .i64), s685⟩, ⟨76, Value, cRaw, rowPtr v690 ((s685 : Int).toNat * 36 + 0)⟩, ⟨77, Value, cRaw, rowPtr v690 ((s685 : Int).toNat * 36 + 3)⟩, ⟨78, Value, cRaw, rowSl v690 ((s685 : Int).toNat * 36 + 3) 4 32⟩, ⟨79, Value, cRaw, rowPtr v690 ((s685 : Int).toNat * 36 + 3)⟩, ⟨11, Int, (cInt .i64), s685⟩, ⟨64, Int, (cInt .i64), s685⟩, ⟨63, Bool, cBool, decide (s685 < (y542.Conds.length : Int))⟩, ⟨62, Int, (cInt .i64), s685⟩, ⟨61, Int, (cInt .i64), (y542.Conds.length : Int)⟩, ⟨10, Value, cRaw, ptr b570 0⟩, ⟨9, Value, cRaw, ptr b566 0⟩] ++ X1769) := S1774
                      clear S1774
                      refine op_loadrow (z0 := zS_tollhouseref10_Cond) S1775 (okX rfl (hX1771 _ rfl)) 2 rfl g1605 (S1775.raw 6 rfl) (LS_tollhouseref10_Cond_Hash.comp (Lens.pre (n := 32) (m := 4) (cInt .u8) rfl)) Tryd.isAgg53 Tryd.sizeOf53 (u := ((s689.getD (s685 : Int).toNat zS_tollhouseref10_Cond).Hash).take 4) rfl (fun a1777 S1778 => ?_)
                      clear S1775 a1772
                      exact wpList_nil ⟨rfl, (0, undef), S1778⟩
                    · intro f1783 a1779 w1780 _ S1781
                      have S1782 : St 101 (fun _ => False) D w a1779 w1780 [Res.box b570 27 cS_tollhouseref12_State_r4 (mkS_tollhouseref12_State_r4 y558 v690), Res.box b566 27 cS_tollhouseref12_State_r4 (mkS_tollhouseref12_State_r4 y542 v692), Res.row v690 30 cS_tollhouseref10_Cond s689, Res.row v692 30 cS_tollhouseref10_Cond s691] [⟨80, (List Int), (cArr 4 (cInt .u8)), ((s689.getD (s685 : Int).toNat zS_tollhouseref10_Cond).Hash).take 4⟩, ⟨79, Value, cRaw, rowPtr v690 ((s685 : Int).toNat * 36 + 3)⟩, ⟨78, Value, cRaw, rowSl v690 ((s685 : Int).toNat * 36 + 3) 4 32⟩, ⟨77, Value, cRaw, rowPtr v690 ((s685 : Int).toNat * 36 + 3)⟩, ⟨76, Value, cRaw, rowPtr v690 ((s685 : Int).toNat * 36 + 0)⟩, ⟨75, Int, (cInt .i64), s685⟩, ⟨74, Value, cRaw, v690⟩, ⟨73, Value, cRaw, ptr b570 6⟩, ⟨72, (List Int), (cArr 4 (cInt .u8)), ((s691.getD (s685 : Int).toNat zS_tollhouseref10_Cond).Hash).take 4⟩, ⟨71, Value, cRaw, rowPtr v692 ((s685 : Int).toNat * 36 + 3)⟩, ⟨70, Value, cRaw, rowSl v692 ((s685 : Int).toNat * 36 + 3) 4 32⟩, ⟨69, Value, cRaw, rowPtr v692 ((s685 : Int).toNat * 36 + 3)⟩, ⟨68, Value, cRaw, rowPtr v692 ((s685 : Int).toNat * 36 + 0)⟩, ⟨67, Int, (cInt .i64), s685⟩, ⟨66, Value, cRaw, v692⟩, ⟨65, Value, cRaw, ptr b566 6⟩, ⟨11, Int, (cInt .i64), s685⟩, ⟨64, Int, (cInt .i64), s685⟩, ⟨63, Bool, cBool, decide (s685 < (y542.Conds.length : Int))⟩, ⟨62, Int, (cInt .i64), s685⟩, ⟨61, Int, (cInt .i64), (y542.Conds.length : Int)⟩, ⟨10, Value, cRaw, ptr b570 0⟩, ⟨9, Value, cRaw, ptr b566 0⟩] := S1781
                      clear S1781 S1578
                      refine op_nev S1782 rfl (eq_arr Tryd.underlying53 infoS5 (eq_int Tryd.underlying5) Tryd.isAgg5 Tryd.sizeOf5) rfl Tryd.eqGuardType53 rfl (S1782.at 8 rfl) (S1782.at 0 rfl) (fun a1784 S1785 => ?_)
                      clear S1782 a1779
                      refine wpList_nil ?_
                      refine hK1580 _ _ ?_
                      clear hK1580 K1580
                      rcases cond_some hr1606 with ⟨b1786, hr1787⟩ | ⟨b1786, hr1788⟩
                      · clear hr1606
                        refine c_true (S1785.bool 0 rfl) b1786 ?_
                        refine wp_seq_k (fun K1789 hK1789 => ?_)
                        refine wp_region_lit ?_
                        refine op_assign S1785 rfl (cPlain_mk (f := Value.bool) false) (fun a1790 S1791 => ?_)
                        clear S1785 a1784
                        refine wpList_nil ?_
                        refine hK1789 _ _ ?_
                        clear hK1789 K1789
                        refine wp_ret ?_
                        cases hr1787
                        intro h1792
                        refine ⟨(by intro h; cases h), ?_⟩
                        refine hQ1455 _ _ _ ?_
                        have hr1793 : (some false : Option (Bool)) = some r := by subst h1792; exact h1457
                        cases hr1793
                        exact ret1 S1791 rfl 0 rfl
                      · clear hr1606
                        refine c_false (S1785.bool 0 rfl) b1786 ?_
                        refine wp_skip ?_
                        refine hK1579 _ _ ?_
                        clear hK1579 K1579
                        obtain ⟨g1810, hr1811⟩ := guard_some hr1788
                        clear hr1788
                        have hsh1818 := S1785.shape 2 rfl
                        have hsh1819 := S1785.shape 3 rfl
                        have S1820 := S1785.front 3 rfl
                        clear S1785
                        refine wp_drawn follows_mixed [[], [0], [], [], [3], [], [], [], [0, 1, 2, 6], [0, 1, 2, 6, 8], [0, 1, 2, 6, 8, 9], [0, 1, 2, 3, 4, 5, 6, 7, 8, 9, 10], [0, 1, 2, 3, 4, 5, 6, 7, 8, 9, 10, 11], [0, 1, 2, 3, 4, 5, 6, 7, 8, 9, 10, 11, 12]] [none, none, none, none, none, none, none, none, none, none, some 14] 11 rfl rfl 1 rfl (fun i p => List.getD [[⟨82, Value, cRaw, ptr b566 6⟩], [⟨83, Value, cRaw, v692⟩], [⟨84, Int, (cInt .i64), s685⟩], [⟨85, Value, cRaw, ptr b570 6⟩], [⟨86, Value, cRaw, v690⟩], [⟨87, Int, (cInt .i64), s685⟩], [⟨88, (List Int), (cArr 32 (cInt .u8)), (List.replicate 32 0)⟩], [⟨89, (List Int), (cArr 32 (cInt .u8)), (List.replicate 32 0)⟩], [⟨90, Value, cRaw, rowPtr v692 ((s685 : Int).toNat * 36 + 0)⟩], [⟨91, Value, cRaw, rowPtr v692 ((s685 : Int).toNat * 36 + 3)⟩], []] i []) (fun i p z => List.getD [[], [], [], [], [], [], [], [], [], [], [], [], [], [], [Res.row v692 30 cS_tollhouseref10_Cond (cond z (s691.set (s685 : Int).toNat ({ s691.getD (s685 : Int).toNat zS_tollhouseref10_Cond with Hash := (List.replicate 32 0) })) s691)]] i []) (fun _ => (0, undef)) S1820 rfl (fun _ => rfl) (Obs.cons ?_ (Obs.cons ?_ (Obs.cons ?_ (Obs.cons ?_ (Obs.cons ?_ (Obs.cons ?_ (Obs.cons ?_ (Obs.cons ?_ (Obs.cons ?_ (Obs.cons ?_ (Obs.cons ⟨fun _ => rfl, fun _ _ => rfl, ?_⟩ Obs.nil))))))))))) ?_
                        · intro f1828 X1821 Y1822 a1824 w1825 hX1823 S1826
                          have S1827 : St 101 (fun _ => False) D w a1824 w1825 ([Res.box b570 27 cS_tollhouseref12_State_r4 (mkS_tollhouseref12_State_r4 y558 v690), Res.box b566 27 cS_tollhouseref12_State_r4 (mkS_tollhouseref12_State_r4 y542 v692), Res.row v690 30 cS_tollhouseref10_Cond s689] ++ Y1822) ([⟨81, Bool, cBool, !decide ((((s691.getD (s685 : Int).toNat zS_tollhouseref10_Cond).Hash).take 4) = (((s689.getD (s685 : Int).toNat zS_tollhouseref10_Cond).Hash).take 4))⟩, ⟨80, (List Int), (cArr 4 (cInt .u8)), ((s689.getD (s685 : Int).toNat zS_tollhouseref10_Cond).Hash).take 4⟩, ⟨79, Value, cRaw, rowPtr v690 ((s685 : Int).toNat * 36 + 3)⟩, ⟨78, Value, cRaw, rowSl v690 ((s685 : Int).toNat * 36 + 3) 4 32⟩, ⟨77, Value, cRaw, rowPtr v690 ((s685 : Int).toNat * 36 + 3)⟩, ⟨76, Value, cRaw, rowPtr v690 ((s685 : Int).toNat * 36 + 0)⟩, ⟨75, Int, (cInt .i64), s685⟩, ⟨74, Value, cRaw, v690⟩, ⟨73, Value, cRaw, ptr b570 6⟩, ⟨72, (List Int), (cArr 4 (cInt .u8)), ((s691.getD (s685 : Int).toNat zS_tollhouseref10_Cond).Hash).take 4⟩, ⟨71, Value, cRaw, rowPtr v692 ((s685 : Int).toNat * 36 + 3)⟩, ⟨70, Value, cRaw, rowSl v692 ((s685 : Int).toNat * 36 + 3) 4 32⟩, ⟨69, Value, cRaw, rowPtr v692 ((s685 : Int).toNat * 36 + 3)⟩, ⟨68, Value, cRaw, rowPtr v692 ((s685 : Int).toNat * 36 + 0)⟩, ⟨67, Int, (cInt .i64), s685⟩, ⟨66, Value, cRaw, v692⟩, ⟨65, Value, cRaw, ptr b566 6⟩, ⟨11, Int, (cInt .i64), s685⟩, ⟨64, Int, (cInt .i64), s685⟩, ⟨63, Bool, cBool, decide (s685 < (y542.Conds.length : Int))⟩, ⟨62, Int, (cInt .i64), s685⟩, ⟨61, Int, (cInt .i64), (y542.Conds.length : Int)⟩, ⟨10, Value, cRaw, ptr b570 0⟩, ⟨9, Value, cRaw, ptr b566 0⟩] ++ X1821) := S1826
                          clear S1826
                          refine op_fieldAddr (o' := 6) S1827 (okX rfl (hX1823 _ rfl)) (S1827.raw 23 rfl) Tryd.underlying27 rfl Tryd.sizeOf25 rfl rfl (fun a1829 S1830 => ?_)
                          clear S1827 a1824
                          exact wpList_nil ⟨rfl, (0, undef), S1830⟩
                        · intro f1838 X1831 Y1832 a1834 w1835 hX1833 S1836
                          have S1837 : St 101 (fun _ => False) D w a1834 w1835 ([Res.box b570 27 cS_tollhouseref12_State_r4 (mkS_tollhouseref12_State_r4 y558 v690), Res.box b566 27 cS_tollhouseref12_State_r4 (mkS_tollhouseref12_State_r4 y542 v692), Res.row v690 30 cS_tollhouseref10_Cond s689] ++ Y1832) ([⟨82, Value, cRaw, ptr b566 6⟩, ⟨81, Bool, cBool, !decide ((((s691.getD (s685 : Int).toNat zS_tollhouseref10_Cond).Hash).take 4) = (((s689.getD (s685 : Int).toNat zS_tollhouseref10_Cond).Hash).take 4))⟩, ⟨80, (List Int), (cArr 4 (cInt .u8)), ((s689.getD (s685 : Int).toNat zS_tollhouseref10_Cond).Hash).take 4⟩, ⟨79, Value, cRaw, rowPtr v690 ((s685 : Int).toNat * 36 + 3)⟩, ⟨78, Value, cRaw, rowSl v690 ((s685 : Int).toNat * 36 + 3) 4 32⟩, ⟨77, Value, cRaw, rowPtr v690 ((s685 : Int).toNat * 36 + 3)⟩, ⟨76, Value, cRaw, rowPtr v690 ((s685 : Int).toNat * 36 + 0)⟩, ⟨75, Int, (cInt .i64), s685⟩, ⟨74, Value, cRaw, v690⟩, ⟨73, Value, cRaw, ptr b570 6⟩, ⟨72, (List Int), (cArr 4 (cInt .u8)), ((s691.getD (s685 : Int).toNat zS_tollhouseref10_Cond).Hash).take 4⟩, ⟨71, Value, cRaw, rowPtr v692 ((s685 : Int).toNat * 36 + 3)⟩, ⟨70, Value, cRaw, rowSl v692 ((s685 : Int).toNat * 36 + 3) 4 32⟩, ⟨69, Value, cRaw, rowPtr v692 ((s685 : Int).toNat * 36 + 3)⟩, ⟨68, Value, cRaw, rowPtr v692 ((s685 : Int).toNat * 36 + 0)⟩, ⟨67, Int, (cInt .i64), s685⟩, ⟨66, Value, cRaw, v692⟩, ⟨65, Value, cRaw, ptr b566 6⟩, ⟨11, Int, (cInt .i64), s685⟩, ⟨64, Int, (cInt .i64), s685⟩, ⟨63, Bool, cBool, decide (s685 < (y542.Conds.length : Int))⟩, ⟨62, Int, (cInt .i64), s685⟩, ⟨61, Int, (cInt .i64), (y542.Conds.length : Int)⟩, ⟨10, Value, cRaw, ptr b570 0⟩, ⟨9, Value, cRaw, ptr b566 0⟩] ++ X1831) := S1836
                          clear S1836
                          refine op_loadcell S1837 (okX rfl (hX1833 _ rfl)) 1 rfl (S1837.raw 0 rfl) LS_tollhouseref12_State_r4_Conds Tryd.isAgg25 Tryd.sizeOf25 (u := v692) rfl (fun a1839 S1840 => ?_)
                          clear S1837 a1834
                          exact wpList_nil ⟨rfl, (0, undef), S1840⟩
                        · intro f1848 X1841 Y1842 a1844 w1845 hX1843 S1846
                          have S1847 : St 101 (fun _ => False) D w a1844 w1845 ([Res.box b570 27 cS_tollhouseref12_State_r4 (mkS_tollhouseref12_State_r4 y558 v690), Res.box b566 27 cS_tollhouseref12_State_r4 (mkS_tollhouseref12_State_r4 y542 v692), Res.row v690 30 cS_tollhouseref10_Cond s689] ++ Y1842) ([⟨81, Bool, cBool, !decide ((((s691.getD (s685 : Int).toNat zS_tollhouseref10_Cond).Hash).take 4) = (((s689.getD (s685 : Int).toNat zS_tollhouseref10_Cond).Hash).take 4))⟩, ⟨80, (List Int), (cArr 4 (cInt .u8)), ((s689.getD (s685 : Int).toNat zS_tollhouseref10_Cond).Hash).take 4⟩, ⟨79, Value, cRaw, rowPtr v690 ((s685 : Int).toNat * 36 + 3)⟩, ⟨78, Value, cRaw, rowSl v690 ((s685 : Int).toNat * 36 + 3) 4 32⟩, ⟨77, Value, cRaw, rowPtr v690 ((s685 : Int).toNat * 36 + 3)⟩, ⟨76, Value, cRaw, rowPtr v690 ((s685 : Int).toNat * 36 + 0)⟩, ⟨75, Int, (cInt .i64), s685⟩, ⟨74, Value, cRaw, v690⟩, ⟨73, Value, cRaw, ptr b570 6⟩, ⟨72, (List Int), (cArr 4 (cInt .u8)), ((s691.getD (s685 : Int).toNat zS_tollhouseref10_Cond).Hash).take 4⟩, ⟨71, Value, cRaw, rowPtr v692 ((s685 : Int).toNat * 36 + 3)⟩, ⟨70, Value, cRaw, rowSl v692 ((s685 : Int).toNat * 36 + 3) 4 32⟩, ⟨69, Value, cRaw, rowPtr v692 ((s685 : Int).toNat * 36 + 3)⟩, ⟨68, Value, cRaw, rowPtr v692 ((s685 : Int).toNat * 36 + 0)⟩, ⟨67, Int, (cInt .i64), s685⟩, ⟨66, Value, cRaw, v692⟩, ⟨65, Value, cRaw, ptr b566 6⟩, ⟨11, Int, (cInt .i64), s685⟩, ⟨64, Int, (cInt .i64), s685⟩, ⟨63, Bool, cBool, decide (s685 < (y542.Conds.length : Int))⟩, ⟨62, Int, (cInt .i64), s685⟩, ⟨61, Int, (cInt .i64), (y542.Conds.length : Int)⟩, ⟨10, Value, cRaw, ptr b570 0⟩, ⟨9, Value, cRaw, ptr b566 0⟩] ++ X1841) := S1846
                          clear S1846
                          refine op_move S1847 (okX rfl (hX1843 _ rfl)) (S1847.at 17 rfl) (fun a1849 S1850 => ?_)
                          clear S1847 a1844
                          exact wpList_nil ⟨rfl, (0, undef), S1850⟩
                        · intro f1858 X1851 Y1852 a1854 w1855 hX1853 S1856
                          have S1857 : St 101 (fun _ => False) D w a1854 w1855 ([Res.box b570 27 cS_tollhouseref12_State_r4 (mkS_tollhouseref12_State_r4 y558 v690), Res.box b566 27 cS_tollhouseref12_State_r4 (mkS_tollhouseref12_State_r4 y542 v692), Res.row v690 30 cS_tollhouseref10_Cond s689] ++ Y1852) ([⟨81, Bool, cBool, !decide ((((s691.getD (s685 : Int).toNat zS_tollhouseref10_Cond).Hash).take 4) = (((s689.getD (s685 : Int).toNat zS_tollhouseref10_Cond).Hash).take 4))⟩, ⟨80, (List Int), (cArr 4 (cInt .u8)), ((s689.getD (s685 : Int).toNat zS_tollhouseref10_Cond).Hash).take 4⟩, ⟨79, Value, cRaw, rowPtr v690 ((s685 : Int).toNat * 36 + 3)⟩, ⟨78, Value, cRaw, rowSl v690 ((s685 : Int).toNat * 36 + 3) 4 32⟩, ⟨77, Value, cRaw, rowPtr v690 ((s685 : Int).toNat * 36 + 3)⟩, ⟨76, Value, cRaw, rowPtr v690 ((s685 : Int).toNat * 36 + 0)⟩, ⟨75, Int, (cInt .i64), s685⟩, ⟨74, Value, cRaw, v690⟩, ⟨73, Value, cRaw, ptr b570 6⟩, ⟨72, (List Int), (cArr 4 (cInt .u8)), ((s691.getD (s685 : Int).toNat zS_tollhouseref10_Cond).Hash).take 4⟩, ⟨71, Value, cRaw, rowPtr v692 ((s685 : Int).toNat * 36 + 3)⟩, ⟨70, Value, cRaw, rowSl v692 ((s685 : Int).toNat * 36 + 3) 4 32⟩, ⟨69, Value, cRaw, rowPtr v692 ((s685 : Int).toNat * 36 + 3)⟩, ⟨68, Value, cRaw, rowPtr v692 ((s685 : Int).toNat * 36 + 0)⟩, ⟨67, Int, (cInt .i64), s685⟩, ⟨66, Value, cRaw, v692⟩, ⟨65, Value, cRaw, ptr b566 6⟩, ⟨11, Int, (cInt .i64), s685⟩, ⟨64, Int, (cInt .i64), s685⟩, ⟨63, Bool, cBool, decide (s685 < (y542.Conds.length : Int))⟩, ⟨62, Int, (cInt .i64), s685⟩, ⟨61, Int, (cInt .i64), (y542.Conds.length : Int)⟩, ⟨10, Value, cRaw, ptr b570 0⟩, ⟨9, Value, cRaw, ptr b566 0⟩] ++ X1851) := S1856
                          clear S1856
                          refine op_fieldAddr (o' := 6) S1857 (okX rfl (hX1853 _ rfl)) (S1857.raw 22 rfl) Tryd.underlying27 rfl Tryd.sizeOf25 rfl rfl (fun a1859 S1860 => ?_)
                          clear S1857 a1854
                          exact wpList_nil ⟨rfl, (0, undef), S1860⟩
                        · intro f1868 X1861 Y1862 a1864 w1865 hX1863 S1866
                          have S1867 : St 101 (fun _ => False) D w a1864 w1865 ([Res.box b570 27 cS_tollhouseref12_State_r4 (mkS_tollhouseref12_State_r4 y558 v690), Res.box b566 27 cS_tollhouseref12_State_r4 (mkS_tollhouseref12_State_r4 y542 v692), Res.row v690 30 cS_tollhouseref10_Cond s689] ++ Y1862) ([⟨85, Value, cRaw, ptr b570 6⟩, ⟨81, Bool, cBool, !decide ((((s691.getD (s685 : Int).toNat zS_tollhouseref10_Cond).Hash).take 4) = (((s689.getD (s685 : Int).toNat zS_tollhouseref10_Cond).Hash).take 4))⟩, ⟨80, (List Int), (cArr 4 (cInt .u8)), ((s689.getD (s685 : Int).toNat zS_tollhouseref10_Cond).Hash).take 4⟩, ⟨79, Value, cRaw, rowPtr v690 ((s685 : Int).toNat * 36 + 3)⟩, ⟨78, Value, cRaw, rowSl v690 ((s685 : Int).toNat * 36 + 3) 4 32⟩, ⟨77, Value, cRaw, rowPtr v690 ((s685 : Int).toNat * 36 + 3)⟩, ⟨76, Value, cRaw, rowPtr v690 ((s685 : Int).toNat * 36 + 0)⟩, ⟨75, Int, (cInt .i64), s685⟩, ⟨74, Value, cRaw, v690⟩, ⟨73, Value, cRaw, ptr b570 6⟩, ⟨72, (List Int), (cArr 4 (cInt .u8)), ((s691.getD (s685 : Int).toNat zS_tollhouseref10_Cond).Hash).take 4⟩, ⟨71, Value, cRaw, rowPtr v692 ((s685 : Int).toNat * 36 + 3)⟩, ⟨70, Value, cRaw, rowSl v692 ((s685 : Int).toNat * 36 + 3) 4 32⟩, ⟨69, Value, cRaw, rowPtr v692 ((s685 : Int).toNat * 36 + 3)⟩, ⟨68, Value, cRaw, rowPtr v692 ((s685 : Int).toNat * 36 + 0)⟩, ⟨67, Int, (cInt .i64), s685⟩, ⟨66, Value, cRaw, v692⟩, ⟨65, Value, cRaw, ptr b566 6⟩, ⟨11, Int, (cInt .i64), s685⟩, ⟨64, Int, (cInt .i64), s685⟩, ⟨63, Bool, cBool, decide (s685 < (y542.Conds.length : Int))⟩, ⟨62, Int, (cInt .i64), s685⟩, ⟨61, Int, (cInt .i64), (y542.Conds.length : Int)⟩, ⟨10, Value, cRaw, ptr b570 0⟩, ⟨9, Value, cRaw, ptr b566 0⟩] ++ X1861) := S1866
                          clear S1866
                          refine op_loadcell S1867 (okX rfl (hX1863 _ rfl)) 0 rfl (S1867.raw 0 rfl) LS_tollhouseref12_State_r4_Conds Tryd.isAgg25 Tryd.sizeOf25 (u := v690) rfl (fun a1869 S1870 => ?_)
                          clear S1867 a1864
                          exact wpList_nil ⟨rfl, (0, undef), S1870⟩
                        · intro f1878 X1871 Y1872 a1874 w1875 hX1873 S1876
                          have S1877 : St 101 (fun _ => False) D w a1874 w1875 ([Res.box b570 27 cS_tollhouseref12_State_r4 (mkS_tollhouseref12_State_r4 y558 v690), Res.box b566 27 cS_tollhouseref12_State_r4 (mkS_tollhouseref12_State_r4 y542 v692), Res.row v690 30 cS_tollhouseref10_Cond s689] ++ Y1872) ([⟨81, Bool, cBool, !decide ((((s691.getD (s685 : Int).toNat zS_tollhouseref10_Cond).Hash).take 4) = (((s689.getD (s685 : Int).toNat zS_tollhouseref10_Cond).Hash).take 4))⟩, ⟨80, (List Int), (cArr 4 (cInt .u8)), ((s689.getD (s685 : Int).toNat zS_tollhouseref10_Cond).Hash).take 4⟩, ⟨79, Value, cRaw, rowPtr v690 ((s685 : Int).toNat * 36 + 3)⟩, ⟨78, Value, cRaw, rowSl v690 ((s685 : Int).toNat * 36 + 3) 4 32⟩, ⟨77, Value, cRaw, rowPtr v690 ((s685 : Int).toNat * 36 + 3)⟩, ⟨76, Value, cRaw, rowPtr v690 ((s685 : Int).toNat * 36 + 0)⟩, ⟨75, Int, (cInt .i64), s685⟩, ⟨74, Value, cRaw, v690⟩, ⟨73, Value, cRaw, ptr b570 6⟩, ⟨72, (List Int), (cArr 4 (cInt .u8)), ((s691.getD (s685 : Int).toNat zS_tollhouseref10_Cond).Hash).take 4⟩, ⟨71, Value, cRaw, rowPtr v692 ((s685 : Int).toNat * 36 + 3)⟩, ⟨70, Value, cRaw, rowSl v692 ((s685 : Int).toNat * 36 + 3) 4 32⟩, ⟨69, Value, cRaw, rowPtr v692 ((s685 : Int).toNat * 36 + 3)⟩, ⟨68, Value, cRaw, rowPtr v692 ((s685 : Int).toNat * 36 + 0)⟩, ⟨67, Int, (cInt .i64), s685⟩, ⟨66, Value, cRaw, v692⟩, ⟨65, Value, cRaw, ptr b566 6⟩, ⟨11, Int, (cInt .i64), s685⟩, ⟨64, Int, (cInt .i64), s685⟩, ⟨63, Bool, cBool, decide (s685 < (y542.Conds.length : Int))⟩, ⟨62, Int, (cInt .i64), s685⟩, ⟨61, Int, (cInt .i64), (y542.Conds.length : Int)⟩, ⟨10, Value, cRaw, ptr b570 0⟩, ⟨9, Value, cRaw, ptr b566 0⟩] ++ X1871) := S1876
                          clear S1876
                          refine op_move S1877 (okX rfl (hX1873 _ rfl)) (S1877.at 17 rfl) (fun a1879 S1880 => ?_)
                          clear S1877 a1874
                          exact wpList_nil ⟨rfl, (0, undef), S1880⟩
                        · intro f1888 X1881 Y1882 a1884 w1885 hX1883 S1886
                          have S1887 : St 101 (fun _ => False) D w a1884 w1885 ([Res.box b570 27 cS_tollhouseref12_State_r4 (mkS_tollhouseref12_State_r4 y558 v690), Res.box b566 27 cS_tollhouseref12_State_r4 (mkS_tollhouseref12_State_r4 y542 v692), Res.row v690 30 cS_tollhouseref10_Cond s689] ++ Y1882) ([⟨81, Bool, cBool, !decide ((((s691.getD (s685 : Int).toNat zS_tollhouseref10_Cond).Hash).take 4) = (((s689.getD (s685 : Int).toNat zS_tollhouseref10_Cond).Hash).take 4))⟩, ⟨80, (List Int), (cArr 4 (cInt .u8)), ((s689.getD (s685 : Int).toNat zS_tollhouseref10_Cond).Hash).take 4⟩, ⟨79, Value, cRaw, rowPtr v690 ((s685 : Int).toNat * 36 + 3)⟩, ⟨78, Value, cRaw, rowSl v690 ((s685 : Int).toNat * 36 + 3) 4 32⟩, ⟨77, Value, cRaw, rowPtr v690 ((s685 : Int).toNat * 36 + 3)⟩, ⟨76, Value, cRaw, rowPtr v690 ((s685 : Int).toNat * 36 + 0)⟩, ⟨75, Int, (cInt .i64), s685⟩, ⟨74, Value, cRaw, v690⟩, ⟨73, Value, cRaw, ptr b570 6⟩, ⟨72, (List Int), (cArr 4 (cInt .u8)), ((s691.getD (s685 : Int).toNat zS_tollhouseref10_Cond).Hash).take 4⟩, ⟨71, Value, cRaw, rowPtr v692 ((s685 : Int).toNat * 36 + 3)⟩, ⟨70, Value, cRaw, rowSl v692 ((s685 : Int).toNat * 36 + 3) 4 32⟩, ⟨69, Value, cRaw, rowPtr v692 ((s685 : Int).toNat * 36 + 3)⟩, ⟨68, Value, cRaw, rowPtr v692 ((s685 : Int).toNat * 36 + 0)⟩, ⟨67, Int, (cInt .i64), s685⟩, ⟨66, Value, cRaw, v692⟩, ⟨65, Value, cRaw, ptr b566 6⟩, ⟨11, Int, (cInt .i64), s685⟩, ⟨64, Int, (cInt .i64), s685⟩, ⟨63, Bool, cBool, decide (s685 < (y542.Conds.length : Int))⟩, ⟨62, Int, (cInt .i64), s685⟩, ⟨61, Int, (cInt .i64), (y542.Conds.length : Int)⟩, ⟨10, Value, cRaw, ptr b570 0⟩, ⟨9, Value, cRaw, ptr b566 0⟩] ++ X1881) := S1886
                          clear S1886
                          refine op_buildarr (y := (List.replicate 32 0)) S1887 (okX rfl (hX1883 _ rfl)) rfl Tryd.underlying28 Tryd.zeroValue28 (zero_arr (zero_int _) 32) Tryd.sizeOf5 .nil (fun a1889 S1890 => ?_)
                          clear S1887 a1884
                          exact wpList_nil ⟨rfl, (0, undef), S1890⟩
                        · intro f1898 X1891 Y1892 a1894 w1895 hX1893 S1896
                          have S1897 : St 101 (fun _ => False) D w a1894 w1895 ([Res.box b570 27 cS_tollhouseref12_State_r4 (mkS_tollhouseref12_State_r4 y558 v690), Res.box b566 27 cS_tollhouseref12_State_r4 (mkS_tollhouseref12_State_r4 y542 v692), Res.row v690 30 cS_tollhouseref10_Cond s689] ++ Y1892) ([⟨81, Bool, cBool, !decide ((((s691.getD (s685 : Int).toNat zS_tollhouseref10_Cond).Hash).take 4) = (((s689.getD (s685 : Int).toNat zS_tollhouseref10_Cond).Hash).take 4))⟩, ⟨80, (List Int), (cArr 4 (cInt .u8)), ((s689.getD (s685 : Int).toNat zS_tollhouseref10_Cond).Hash).take 4⟩, ⟨79, Value, cRaw, rowPtr v690 ((s685 : Int).toNat * 36 + 3)⟩, ⟨78, Value, cRaw, rowSl v690 ((s685 : Int).toNat * 36 + 3) 4 32⟩, ⟨77, Value, cRaw, rowPtr v690 ((s685 : Int).toNat * 36 + 3)⟩, ⟨76, Value, cRaw, rowPtr v690 ((s685 : Int).toNat * 36 + 0)⟩, ⟨75, Int, (cInt .i64), s685⟩, ⟨74, Value, cRaw, v690⟩, ⟨73, Value, cRaw, ptr b570 6⟩, ⟨72, (List Int), (cArr 4 (cInt .u8)), ((s691.getD (s685 : Int).toNat zS_tollhouseref10_Cond).Hash).take 4⟩, ⟨71, Value, cRaw, rowPtr v692 ((s685 : Int).toNat * 36 + 3)⟩, ⟨70, Value, cRaw, rowSl v692 ((s685 : Int).toNat * 36 + 3) 4 32⟩, ⟨69, Value, cRaw, rowPtr v692 ((s685 : Int).toNat * 36 + 3)⟩, ⟨68, Value, cRaw, rowPtr v692 ((s685 : Int).toNat * 36 + 0)⟩, ⟨67, Int, (cInt .i64), s685⟩, ⟨66, Value, cRaw, v692⟩, ⟨65, Value, cRaw, ptr b566 6⟩, ⟨11, Int, (cInt .i64), s685⟩, ⟨64, Int, (cInt .i64), s685⟩, ⟨63, Bool, cBool, decide (s685 < (y542.Conds.length : Int))⟩, ⟨62, Int, (cInt .i64), s685⟩, ⟨61, Int, (cInt .i64), (y542.Conds.length : Int)⟩, ⟨10, Value, cRaw, ptr b570 0⟩, ⟨9, Value, cRaw, ptr b566 0⟩] ++ X1891) := S1896
                          clear S1896
                          refine op_buildarr (y := (List.replicate 32 0)) S1897 (okX rfl (hX1893 _ rfl)) rfl Tryd.underlying28 Tryd.zeroValue28 (zero_arr (zero_int _) 32) Tryd.sizeOf5 .nil (fun a1899 S1900 => ?_)
                          clear S1897 a1894
                          exact wpList_nil ⟨rfl, (0, undef), S1900⟩
                        · intro f1908 X1901 Y1902 a1904 w1905 hX1903 S1906
                          have S1907 : St 101 (fun _ => False) D w a1904 w1905 ([Res.box b570 27 cS_tollhouseref12_State_r4 (mkS_tollhouseref12_State_r4 y558 v690), Res.box b566 27 cS_tollhouseref12_State_r4 (mkS_tollhouseref12_State_r4 y542 v692), Res.row v690 30 cS_tollhouseref10_Cond s689] ++ Y1902) ([⟨82, Value, cRaw, ptr b566 6⟩, ⟨83, Value, cRaw, v692⟩, ⟨84, Int, (cInt .i64), s685⟩, ⟨88, (List Int), (cArr 32 (cInt .u8)), (List.replicate 32 0)⟩, ⟨81, Bool, cBool, !decide ((((s691.getD (s685 : Int).toNat zS_tollhouseref10_Cond).Hash).take 4) = (((s689.getD (s685 : Int).toNat zS_tollhouseref10_Cond).Hash).take 4))⟩, ⟨80, (List Int), (cArr 4 (cInt .u8)), ((s689.getD (s685 : Int).toNat zS_tollhouseref10_Cond).Hash).take 4⟩, ⟨79, Value, cRaw, rowPtr v690 ((s685 : Int).toNat * 36 + 3)⟩, ⟨78, Value, cRaw, rowSl v690 ((s685 : Int).toNat * 36 + 3) 4 32⟩, ⟨77, Value, cRaw, rowPtr v690 ((s685 : Int).toNat * 36 + 3)⟩, ⟨76, Value, cRaw, rowPtr v690 ((s685 : Int).toNat * 36 + 0)⟩, ⟨75, Int, (cInt .i64), s685⟩, ⟨74, Value, cRaw, v690⟩, ⟨73, Value, cRaw, ptr b570 6⟩, ⟨72, (List Int), (cArr 4 (cInt .u8)), ((s691.getD (s685 : Int).toNat zS_tollhouseref10_Cond).Hash).take 4⟩, ⟨71, Value, cRaw, rowPtr v692 ((s685 : Int).toNat * 36 + 3)⟩, ⟨70, Value, cRaw, rowSl v692 ((s685 : Int).toNat * 36 + 3) 4 32⟩, ⟨69, Value, cRaw, rowPtr v692 ((s685 : Int).toNat * 36 + 3)⟩, ⟨68, Value, cRaw, rowPtr v692 ((s685 : Int).toNat * 36 + 0)⟩, ⟨67, Int, (cInt .i64), s685⟩, ⟨66, Value, cRaw, v692⟩, ⟨65, Value, cRaw, ptr b566 6⟩, ⟨11, Int, (cInt .i64), s685⟩, ⟨64, Int, (cInt .i64), s685⟩, ⟨63, Bool, cBool, decide (s685 < (y542.Conds.length : Int))⟩, ⟨62, Int, (cInt .i64), s685⟩, ⟨61, Int, (cInt .i64), (y542.Conds.length : Int)⟩, ⟨10, Value, cRaw, ptr b570 0⟩, ⟨9, Value, cRaw, ptr b566 0⟩] ++ X1901) := S1906
                          clear S1906
                          refine op_indexrow S1907 (okX rfl (hX1903 _ rfl)) hsh1819 (S1907.raw 1 rfl) (S1907.int 2 rfl) g1810 Tryd.underlying25 Tryd.sizeOf30 (fun a1909 S1910 => ?_)
                          clear S1907 a1904
                          exact wpList_nil ⟨rfl, (0, undef), S1910⟩
                        · intro f1918 X1911 Y1912 a1914 w1915 hX1913 S1916
                          have S1917 : St 101 (fun _ => False) D w a1914 w1915 ([Res.box b570 27 cS_tollhouseref12_State_r4 (mkS_tollhouseref12_State_r4 y558 v690), Res.box b566 27 cS_tollhouseref12_State_r4 (mkS_tollhouseref12_State_r4 y542 v692), Res.row v690 30 cS_tollhouseref10_Cond s689] ++ Y1912) ([⟨82, Value, cRaw, ptr b566 6⟩, ⟨83, Value, cRaw, v692⟩, ⟨84, Int, (cInt .i64), s685⟩, ⟨88, (List Int), (cArr 32 (cInt .u8)), (List.replicate 32 0)⟩, ⟨90, Value, cRaw, rowPtr v692 ((s685 : Int).toNat * 36 + 0)⟩, ⟨81, Bool, cBool, !decide ((((s691.getD (s685 : Int).toNat zS_tollhouseref10_Cond).Hash).take 4) = (((s689.getD (s685 : Int).toNat zS_tollhouseref10_Cond).Hash).take 4))⟩, ⟨80, (List Int), (cArr 4 (cInt .u8)), ((s689.getD (s685 : Int).toNat zS_tollhouseref10_Cond).Hash).take 4⟩, ⟨79, Value, cRaw, rowPtr v690 ((s685 : Int).toNat * 36 + 3)⟩, ⟨78, Value, cRaw, rowSl v690 ((s685 : Int).toNat * 36 + 3) 4 32⟩, ⟨77, Value, cRaw, rowPtr v690 ((s685 : Int).toNat * 36 + 3)⟩, ⟨76, Value, cRaw, rowPtr v690 ((s685 : Int).toNat * 36 + 0)⟩, ⟨75, Int, (cInt .i64), s685⟩, ⟨74, Value, cRaw, v690⟩, ⟨73, Value, cRaw, ptr b570 6⟩, ⟨72, (List Int), (cArr 4 (cInt .u8)), ((s691.getD (s685 : Int).toNat zS_tollhouseref10_Cond).Hash).take 4⟩, ⟨71, Value, cRaw, rowPtr v692 ((s685 : Int).toNat * 36 + 3)⟩, ⟨70, Value, cRaw, rowSl v692 ((s685 : Int).toNat * 36 + 3) 4 32⟩, ⟨69, Value, cRaw, rowPtr v692 ((s685 : Int).toNat * 36 + 3)⟩, ⟨68, Value, cRaw, rowPtr v692 ((s685 : Int).toNat * 36 + 0)⟩, ⟨67, Int, (cInt .i64), s685⟩, ⟨66, Value, cRaw, v692⟩, ⟨65, Value, cRaw, ptr b566 6⟩, ⟨11, Int, (cInt .i64), s685⟩, ⟨64, Int, (cInt .i64), s685⟩, ⟨63, Bool, cBool, decide (s685 < (y542.Conds.length : Int))⟩, ⟨62, Int, (cInt .i64), s685⟩, ⟨61, Int, (cInt .i64), (y542.Conds.length : Int)⟩, ⟨10, Value, cRaw, ptr b570 0⟩, ⟨9, Value, cRaw, ptr b566 0⟩] ++ X1911) := S1916
                          clear S1916
                          refine op_fieldrow (o' := (s685 : Int).toNat * 36 + 3) S1917 (okX rfl (hX1913 _ rfl)) hsh1819 g1810 (S1917.raw 4 rfl) Tryd.underlying30 rfl Tryd.sizeOf28 rfl rfl (fun a1919 S1920 => ?_)
                          clear S1917 a1914
                          exact wpList_nil ⟨rfl, (0, undef), S1920⟩
                        · intro f1928 X1921 Y1922 a1924 w1925 hX1923 S1926
                          have S1927 : St 101 (fun _ => False) D w a1924 w1925 ([Res.row v692 30 cS_tollhouseref10_Cond s691, Res.box b570 27 cS_tollhouseref12_State_r4 (mkS_tollhouseref12_State_r4 y558 v690), Res.box b566 27 cS_tollhouseref12_State_r4 (mkS_tollhouseref12_State_r4 y542 v692), Res.row v690 30 cS_tollhouseref10_Cond s689] ++ Y1922) ([⟨82, Value, cRaw, ptr b566 6⟩, ⟨83, Value, cRaw, v692⟩, ⟨84, Int, (cInt .i64), s685⟩, ⟨88, (List Int), (cArr 32 (cInt .u8)), (List.replicate 32 0)⟩, ⟨90, Value, cRaw, rowPtr v692 ((s685 : Int).toNat * 36 + 0)⟩, ⟨91, Value, cRaw, rowPtr v692 ((s685 : Int).toNat * 36 + 3)⟩, ⟨81, Bool, cBool, !decide ((((s691.getD (s685 : Int).toNat zS_tollhouseref10_Cond).Hash).take 4) = (((s689.getD (s685 : Int).toNat zS_tollhouseref10_Cond).Hash).take 4))⟩, ⟨80, (List Int), (cArr 4 (cInt .u8)), ((s689.getD (s685 : Int).toNat zS_tollhouseref10_Cond).Hash).take 4⟩, ⟨79, Value, cRaw, rowPtr v690 ((s685 : Int).toNat * 36 + 3)⟩, ⟨78, Value, cRaw, rowSl v690 ((s685 : Int).toNat * 36 + 3) 4 32⟩, ⟨77, Value, cRaw, rowPtr v690 ((s685 : Int).toNat * 36 + 3)⟩, ⟨76, Value, cRaw, rowPtr v690 ((s685 : Int).toNat * 36 + 0)⟩, ⟨75, Int, (cInt .i64), s685⟩, ⟨74, Value, cRaw, v690⟩, ⟨73, Value, cRaw, ptr b570 6⟩, ⟨72, (List Int), (cArr 4 (cInt .u8)), ((s691.getD (s685 : Int).toNat zS_tollhouseref10_Cond).Hash).take 4⟩, ⟨71, Value, cRaw, rowPtr v692 ((s685 : Int).toNat * 36 + 3)⟩, ⟨70, Value, cRaw, rowSl v692 ((s685 : Int).toNat * 36 + 3) 4 32⟩, ⟨69, Value, cRaw, rowPtr v692 ((s685 : Int).toNat * 36 + 3)⟩, ⟨68, Value, cRaw, rowPtr v692 ((s685 : Int).toNat * 36 + 0)⟩, ⟨67, Int, (cInt .i64), s685⟩, ⟨66, Value, cRaw, v692⟩, ⟨65, Value, cRaw, ptr b566 6⟩, ⟨11, Int, (cInt .i64), s685⟩, ⟨64, Int, (cInt .i64), s685⟩, ⟨63, Bool, cBool, decide (s685 < (y542.Conds.length : Int))⟩, ⟨62, Int, (cInt .i64), s685⟩, ⟨61, Int, (cInt .i64), (y542.Conds.length : Int)⟩, ⟨10, Value, cRaw, ptr b570 0⟩, ⟨9, Value, cRaw, ptr b566 0⟩] ++ X1921) := S1926
                          clear S1926
                          refine op_storerow (z0 := zS_tollhouseref10_Cond) S1927 0 rfl g1810 (S1927.raw 5 rfl) (S1927.at 3 rfl) LS_tollhouseref10_Cond_Hash (cArr_flat (cInt_flat _)) Tryd.sizeOf28 (ys := s691.set (s685 : Int).toNat ({ s691.getD (s685 : Int).toNat zS_tollhouseref10_Cond with Hash := (List.replicate 32 0) })) rfl (fun w1929 S1930 => ?_)
                          clear S1927 w1925
                          exact wpList_nil ⟨rfl, S1930⟩
                        · intro f1935 a1931 w1932 _ S1933
                          have S1934 : St 101 (fun _ => False) D w a1931 w1932 [Res.row v692 30 cS_tollhouseref10_Cond (s691.set (s685 : Int).toNat ({ s691.getD (s685 : Int).toNat zS_tollhouseref10_Cond with Hash := (List.replicate 32 0) })), Res.box b570 27 cS_tollhouseref12_State_r4 (mkS_tollhouseref12_State_r4 y558 v690), Res.box b566 27 cS_tollhouseref12_State_r4 (mkS_tollhouseref12_State_r4 y542 v692), Res.row v690 30 cS_tollhouseref10_Cond s689] [⟨91, Value, cRaw, rowPtr v692 ((s685 : Int).toNat * 36 + 3)⟩, ⟨90, Value, cRaw, rowPtr v692 ((s685 : Int).toNat * 36 + 0)⟩, ⟨89, (List Int), (cArr 32 (cInt .u8)), (List.replicate 32 0)⟩, ⟨88, (List Int), (cArr 32 (cInt .u8)), (List.replicate 32 0)⟩, ⟨87, Int, (cInt .i64), s685⟩, ⟨86, Value, cRaw, v690⟩, ⟨85, Value, cRaw, ptr b570 6⟩, ⟨84, Int, (cInt .i64), s685⟩, ⟨83, Value, cRaw, v692⟩, ⟨82, Value, cRaw, ptr b566 6⟩, ⟨81, Bool, cBool, !decide ((((s691.getD (s685 : Int).toNat zS_tollhouseref10_Cond).Hash).take 4) = (((s689.getD (s685 : Int).toNat zS_tollhouseref10_Cond).Hash).take 4))⟩, ⟨80, (List Int), (cArr 4 (cInt .u8)), ((s689.getD (s685 : Int).toNat zS_tollhouseref10_Cond).Hash).take 4⟩, ⟨79, Value, cRaw, rowPtr v690 ((s685 : Int).toNat * 36 + 3)⟩, ⟨78, Value, cRaw, rowSl v690 ((s685 : Int).toNat * 36 + 3) 4 32⟩, ⟨77, Value, cRaw, rowPtr v690 ((s685 : Int).toNat * 36 + 3)⟩, ⟨76, Value, cRaw, rowPtr v690 ((s685 : Int).toNat * 36 + 0)⟩, ⟨75, Int, (cInt .i64), s685⟩, ⟨74, Value, cRaw, v690⟩, ⟨73, Value, cRaw, ptr b570 6⟩, ⟨72, (List Int), (cArr 4 (cInt .u8)), ((s691.getD (s685 : Int).toNat zS_tollhouseref10_Cond).Hash).take 4⟩, ⟨71, Value, cRaw, rowPtr v692 ((s685 : Int).toNat * 36 + 3)⟩, ⟨70, Value, cRaw, rowSl v692 ((s685 : Int).toNat * 36 + 3) 4 32⟩, ⟨69, Value, cRaw, rowPtr v692 ((s685 : Int).toNat * 36 + 3)⟩, ⟨68, Value, cRaw, rowPtr v692 ((s685 : Int).toNat * 36 + 0)⟩, ⟨67, Int, (cInt .i64), s685⟩, ⟨66, Value, cRaw, v692⟩, ⟨65, Value, cRaw, ptr b566 6⟩, ⟨11, Int, (cInt .i64), s685⟩, ⟨64, Int, (cInt .i64), s685⟩, ⟨63, Bool, cBool, decide (s685 < (y542.Conds.length : Int))⟩, ⟨62, Int, (cInt .i64), s685⟩, ⟨61, Int, (cInt .i64), (y542.Conds.length : Int)⟩, ⟨10, Value, cRaw, ptr b570 0⟩, ⟨9, Value, cRaw, ptr b566 0⟩] := S1933
                          clear S1933 S1820
                          obtain ⟨g1936, hr1937⟩ := guard_some hr1811
                          clear hr1811
                          refine op_indexrow S1934 rfl (S1934.shape 3 rfl) (S1934.raw 5 rfl) (S1934.int 4 rfl) g1936 Tryd.underlying25 Tryd.sizeOf30 (fun a1938 S1939 => ?_)
                          clear S1934 a1931
                          refine op_fieldrow (o' := (s685 : Int).toNat * 36 + 3) S1939 rfl (S1939.shape 3 rfl) g1936 (S1939.raw 0 rfl) Tryd.underlying30 rfl Tryd.sizeOf28 rfl rfl (fun a1940 S1941 => ?_)
                          clear S1939 a1938
                          refine op_storerow (z0 := zS_tollhouseref10_Cond) S1941 3 rfl g1936 (S1941.raw 0 rfl) (S1941.at 4 rfl) LS_tollhouseref10_Cond_Hash (cArr_flat (cInt_flat _)) Tryd.sizeOf28 (ys := s689.set (s685 : Int).toNat ({ s689.getD (s685 : Int).toNat zS_tollhouseref10_Cond with Hash := (List.replicate 32 0) })) rfl (fun w1942 S1943 => ?_)
                          clear S1941 w1932
                          refine wpList_nil ?_
                          refine hK1573 _ _ ?_
                          clear hK1573 K1573
                          refine wp_region_lit ?_
                          refine op_add S1943 rfl (S1943.int 32 rfl) rfl (fun a1944 S1945 => ?_)
                          clear S1943 a1940
                          have S1946 := S1945.erase 33
                          clear S1945
                          refine op_move S1946 rfl (S1946.at 0 rfl) (fun a1947 S1948 => ?_)
                          clear S1946 a1944
                          refine wpList_nil ?_
                          have S1949 := S1948.front 0 rfl
                          clear S1948
                          have S1950 := S1949.front 3 rfl
                          clear S1949
                          have S1951 := S1950.front 3 rfl
                          clear S1950
                          have S1952 := S1951.front 3 rfl
                          clear S1951
                          have S1953 := S1952.pick [0, 34, 35, 36]
                          clear S1952
                          cases hr1937
                          exact ⟨rfl, v690, v692, S1953⟩
                  · clear hr1565
                    refine c_false (S1568.bool 0 rfl) b1570 ?_
                    refine wp_exit ?_
                    have S1954 := S1568.pick [3, 4]
                    clear S1568
                    cases hr1572
                    intro h1955
                    refine ⟨(by intro h; cases h), ?_⟩
                    exact X1467 s689 s691 v690 v692 _ _ S1954 (by subst h1955; exact h1457)
                · exact ⟨u561, u545, S1957⟩
        obtain ⟨t1959, hr1961, h1960⟩ := bind_some hr139
        clear hr139
        obtain ⟨y1966, h1967, hr1968⟩ := bind_some hr1961
        clear hr1961
        obtain ⟨y1972, h1973, hr1974⟩ := bind_some hr1968
        clear hr1968
        rcases cond_some hr1974 with ⟨b1982, hr1983⟩ | ⟨b1982, hr1984⟩
        · clear hr1974
          refine wp_drawn follows_mixed [[], [], [1], [0, 1, 2], [0, 1, 2, 3], [0, 1, 2, 3, 4], [0, 1, 2, 3, 4, 5], [0, 1, 2, 3, 4, 5, 6], [0, 1, 2, 3, 4, 5, 6, 7], [0, 1, 2, 3, 4, 5], [0, 1, 2, 3, 4, 5, 6, 7, 8, 9], [0, 1, 2, 3, 4, 5, 6, 7, 8, 9, 10], [0, 1, 2, 3, 4, 5, 6, 7, 8, 9, 10, 11]] [none, none, none, none, none, none, none, none, none, none] 10 rfl rfl 0 rfl (fun i p => List.getD [[⟨29, (List (List UInt8)), (cSlice cStr), y76⟩], [⟨30, S_tollhouseref12_State, cS_tollhouseref12_State, x0⟩], [⟨31, (List (List UInt8)), (cSlice cStr), y1966⟩], [⟨32, Bool, cBool, y1972⟩], [⟨33, Bool, cBool, !y1972⟩], [⟨34, Bool, cBool, !y1972⟩], [], [], [], []] i []) (fun _ _ _ => []) (fun _ => (0, undef)) S146 rfl (fun _ => rfl) (Obs.cons ?_ (Obs.cons ?_ (Obs.cons ?_ (Obs.cons ?_ (Obs.cons ?_ (Obs.cons ?_ (Obs.cons ?_ (Obs.cons ?_ (Obs.cons ?_ (Obs.cons ?_ Obs.nil)))))))))) ?_
          · intro f1992 X1985 Y1986 a1988 w1989 hX1987 S1990
            have S1991 : St 101 (fun _ => False) D w a1988 w1989 ([] ++ Y1986) ([⟨8, (List (List UInt8)), (cSlice cStr), y137⟩, ⟨7, (List (List UInt8)), (cSlice cStr), y76⟩, ⟨28, (List (List UInt8)), (cSlice cStr), y137⟩, ⟨27, S_api_State, cS_api_State, y131⟩, ⟨26, S_tollhouseref12_State, cS_tollhouseref12_State, x1⟩, ⟨25, (List (List UInt8)), (cSlice cStr), y76⟩, ⟨24, S_api_State, cS_api_State, y70⟩, ⟨23, S_tollhouseref12_State, cS_tollhouseref12_State, x0⟩, ⟨21, Bool, cBool, s48⟩, ⟨5, S_tollhouseref12_Op, cRef cS_tollhouseref12_Op, x2⟩, ⟨4, S_tollhouseref12_State, cRef cS_tollhouseref12_State, x1⟩, ⟨3, S_tollhouseref12_State, cRef cS_tollhouseref12_State, x0⟩] ++ X1985) := S1990
            clear S1990
            refine op_move S1991 (okX rfl (hX1987 _ rfl)) (S1991.at 1 rfl) (fun a1993 S1994 => ?_)
            clear S1991 a1988
            exact wpList_nil ⟨rfl, (0, undef), S1994⟩
          · intro f2002 X1995 Y1996 a1998 w1999 hX1997 S2000
            have S2001 : St 101 (fun _ => False) D w a1998 w1999 ([] ++ Y1996) ([⟨8, (List (List UInt8)), (cSlice cStr), y137⟩, ⟨7, (List (List UInt8)), (cSlice cStr), y76⟩, ⟨28, (List (List UInt8)), (cSlice cStr), y137⟩, ⟨27, S_api_State, cS_api_State, y131⟩, ⟨26, S_tollhouseref12_State, cS_tollhouseref12_State, x1⟩, ⟨25, (List (List UInt8)), (cSlice cStr), y76⟩, ⟨24, S_api_State, cS_api_State, y70⟩, ⟨23, S_tollhouseref12_State, cS_tollhouseref12_State, x0⟩, ⟨21, Bool, cBool, s48⟩, ⟨5, S_tollhouseref12_Op, cRef cS_tollhouseref12_Op, x2⟩, ⟨4, S_tollhouseref12_State, cRef cS_tollhouseref12_State, x1⟩, ⟨3, S_tollhouseref12_State, cRef cS_tollhouseref12_State, x0⟩] ++ X1995) := S2000
            clear S2000
            refine op_loadr S2001 (okX rfl (hX1997 _ rfl)) (S2001.at 11 rfl) Tryd.isAgg27 Tryd.sizeOf27 (fun a2003 S2004 => ?_)
            clear S2001 a1998
            exact wpList_nil ⟨rfl, (0, undef), S2004⟩
          · intro f2012 X2005 Y2006 a2008 w2009 hX2007 S2010
            have S2011 : St 101 (fun _ => False) D w a2008 w2009 ([] ++ Y2006) ([⟨30, S_tollhouseref12_State, cS_tollhouseref12_State, x0⟩, ⟨8, (List (List UInt8)), (cSlice cStr), y137⟩, ⟨7, (List (List UInt8)), (cSlice cStr), y76⟩, ⟨28, (List (List UInt8)), (cSlice cStr), y137⟩, ⟨27, S_api_State, cS_api_State, y131⟩, ⟨26, S_tollhouseref12_State, cS_tollhouseref12_State, x1⟩, ⟨25, (List (List UInt8)), (cSlice cStr), y76⟩, ⟨24, S_api_State, cS_api_State, y70⟩, ⟨23, S_tollhouseref12_State, cS_tollhouseref12_State, x0⟩, ⟨21, Bool, cBool, s48⟩, ⟨5, S_tollhouseref12_Op, cRef cS_tollhouseref12_Op, x2⟩, ⟨4, S_tollhouseref12_State, cRef cS_tollhouseref12_State, x1⟩, ⟨3, S_tollhouseref12_State, cRef cS_tollhouseref12_State, x0⟩] ++ X2005) := S2010
            clear S2010
            refine op_call S2011 (okX rfl (hX2007 _ rfl)) Tryd.call11 (tollhouseref31_State_ok (S2011.at 0 rfl) S2011.dirty_lt h1967) (fun a2013 w2015 S2014 => ?_)
            clear S2011 a2008 w2009
            exact wpList_nil ⟨rfl, (0, undef), S2014⟩
          · intro f2023 X2016 Y2017 a2019 w2020 hX2018 S2021
            have S2022 : St 101 (fun _ => False) D w a2019 w2020 ([] ++ Y2017) ([⟨29, (List (List UInt8)), (cSlice cStr), y76⟩, ⟨30, S_tollhouseref12_State, cS_tollhouseref12_State, x0⟩, ⟨31, (List (List UInt8)), (cSlice cStr), y1966⟩, ⟨8, (List (List UInt8)), (cSlice cStr), y137⟩, ⟨7, (List (List UInt8)), (cSlice cStr), y76⟩, ⟨28, (List (List UInt8)), (cSlice cStr), y137⟩, ⟨27, S_api_State, cS_api_State, y131⟩, ⟨26, S_tollhouseref12_State, cS_tollhouseref12_State, x1⟩, ⟨25, (List (List UInt8)), (cSlice cStr), y76⟩, ⟨24, S_api_State, cS_api_State, y70⟩, ⟨23, S_tollhouseref12_State, cS_tollhouseref12_State, x0⟩, ⟨21, Bool, cBool, s48⟩, ⟨5, S_tollhouseref12_Op, cRef cS_tollhouseref12_Op, x2⟩, ⟨4, S_tollhouseref12_State, cRef cS_tollhouseref12_State, x1⟩, ⟨3, S_tollhouseref12_State, cRef cS_tollhouseref12_State, x0⟩] ++ X2016) := S2021
            clear S2021
            refine op_call S2022 (okX rfl (hX2018 _ rfl)) Tryd.call10 (tollhouselaw31_same_ok (S2022.at 0 rfl) (S2022.at 2 rfl) S2022.dirty_lt h1973) (fun a2024 w2026 S2025 => ?_)
            clear S2022 a2019 w2020
            exact wpList_nil ⟨rfl, (0, undef), S2025⟩
          · intro f2034 X2027 Y2028 a2030 w2031 hX2029 S2032
            have S2033 : St 101 (fun _ => False) D w a2030 w2031 ([] ++ Y2028) ([⟨29, (List (List UInt8)), (cSlice cStr), y76⟩, ⟨30, S_tollhouseref12_State, cS_tollhouseref12_State, x0⟩, ⟨31, (List (List UInt8)), (cSlice cStr), y1966⟩, ⟨32, Bool, cBool, y1972⟩, ⟨8, (List (List UInt8)), (cSlice cStr), y137⟩, ⟨7, (List (List UInt8)), (cSlice cStr), y76⟩, ⟨28, (List (List UInt8)), (cSlice cStr), y137⟩, ⟨27, S_api_State, cS_api_State, y131⟩, ⟨26, S_tollhouseref12_State, cS_tollhouseref12_State, x1⟩, ⟨25, (List (List UInt8)), (cSlice cStr), y76⟩, ⟨24, S_api_State, cS_api_State, y70⟩, ⟨23, S_tollhouseref12_State, cS_tollhouseref12_State, x0⟩, ⟨21, Bool, cBool, s48⟩, ⟨5, S_tollhouseref12_Op, cRef cS_tollhouseref12_Op, x2⟩, ⟨4, S_tollhouseref12_State, cRef cS_tollhouseref12_State, x1⟩, ⟨3, S_tollhouseref12_State, cRef cS_tollhouseref12_State, x0⟩] ++ X2027) := S2032
            clear S2032
            refine op_not S2033 (okX rfl (hX2029 _ rfl)) (S2033.bool 3 rfl) (fun a2035 S2036 => ?_)
            clear S2033 a2030
            exact wpList_nil ⟨rfl, (0, undef), S2036⟩
          · intro f2044 X2037 Y2038 a2040 w2041 hX2039 S2042
            have S2043 : St 101 (fun _ => False) D w a2040 w2041 ([] ++ Y2038) ([⟨29, (List (List UInt8)), (cSlice cStr), y76⟩, ⟨30, S_tollhouseref12_State, cS_tollhouseref12_State, x0⟩, ⟨31, (List (List UInt8)), (cSlice cStr), y1966⟩, ⟨32, Bool, cBool, y1972⟩, ⟨33, Bool, cBool, !y1972⟩, ⟨8, (List (List UInt8)), (cSlice cStr), y137⟩, ⟨7, (List (List UInt8)), (cSlice cStr), y76⟩, ⟨28, (List (List UInt8)), (cSlice cStr), y137⟩, ⟨27, S_api_State, cS_api_State, y131⟩, ⟨26, S_tollhouseref12_State, cS_tollhouseref12_State, x1⟩, ⟨25, (List (List UInt8)), (cSlice cStr), y76⟩, ⟨24, S_api_State, cS_api_State, y70⟩, ⟨23, S_tollhouseref12_State, cS_tollhouseref12_State, x0⟩, ⟨21, Bool, cBool, s48⟩, ⟨5, S_tollhouseref12_Op, cRef cS_tollhouseref12_Op, x2⟩, ⟨4, S_tollhouseref12_State, cRef cS_tollhouseref12_State, x1⟩, ⟨3, S_tollhouseref12_State, cRef cS_tollhouseref12_State, x0⟩] ++ X2037) := S2042
            clear S2042
            refine op_move S2043 (okX rfl (hX2039 _ rfl)) (S2043.at 4 rfl) (fun a2045 S2046 => ?_)
            clear S2043 a2040
            exact wpList_nil ⟨rfl, (0, undef), S2046⟩
          · intro f2054 X2047 Y2048 a2050 w2051 hX2049 S2052
            have S2053 : St 101 (fun _ => False) D w a2050 w2051 ([] ++ Y2048) ([⟨29, (List (List UInt8)), (cSlice cStr), y76⟩, ⟨30, S_tollhouseref12_State, cS_tollhouseref12_State, x0⟩, ⟨31, (List (List UInt8)), (cSlice cStr), y1966⟩, ⟨32, Bool, cBool, y1972⟩, ⟨33, Bool, cBool, !y1972⟩, ⟨34, Bool, cBool, !y1972⟩, ⟨8, (List (List UInt8)), (cSlice cStr), y137⟩, ⟨7, (List (List UInt8)), (cSlice cStr), y76⟩, ⟨28, (List (List UInt8)), (cSlice cStr), y137⟩, ⟨27, S_api_State, cS_api_State, y131⟩, ⟨26, S_tollhouseref12_State, cS_tollhouseref12_State, x1⟩, ⟨25, (List (List UInt8)), (cSlice cStr), y76⟩, ⟨24, S_api_State, cS_api_State, y70⟩, ⟨23, S_tollhouseref12_State, cS_tollhouseref12_State, x0⟩, ⟨21, Bool, cBool, s48⟩, ⟨5, S_tollhouseref12_Op, cRef cS_tollhouseref12_Op, x2⟩, ⟨4, S_tollhouseref12_State, cRef cS_tollhouseref12_State, x1⟩, ⟨3, S_tollhouseref12_State, cRef cS_tollhouseref12_State, x0⟩] ++ X2047) := S2052
            clear S2052
            exact op_off (l := _) S2053 (okX rfl (hX2049 _ rfl)) rfl rfl (S2053.bool 5 rfl) b1982 (fun _ S => wpList_nil ⟨rfl, (0, undef), S⟩)
          · intro f2062 X2055 Y2056 a2058 w2059 hX2057 S2060
            have S2061 : St 101 (fun _ => False) D w a2058 w2059 ([] ++ Y2056) ([⟨29, (List (List UInt8)), (cSlice cStr), y76⟩, ⟨30, S_tollhouseref12_State, cS_tollhouseref12_State, x0⟩, ⟨31, (List (List UInt8)), (cSlice cStr), y1966⟩, ⟨32, Bool, cBool, y1972⟩, ⟨33, Bool, cBool, !y1972⟩, ⟨34, Bool, cBool, !y1972⟩, ⟨8, (List (List UInt8)), (cSlice cStr), y137⟩, ⟨7, (List (List UInt8)), (cSlice cStr), y76⟩, ⟨28, (List (List UInt8)), (cSlice cStr), y137⟩, ⟨27, S_api_State, cS_api_State, y131⟩, ⟨26, S_tollhouseref12_State, cS_tollhouseref12_State, x1⟩, ⟨25, (List (List UInt8)), (cSlice cStr), y76⟩, ⟨24, S_api_State, cS_api_State, y70⟩, ⟨23, S_tollhouseref12_State, cS_tollhouseref12_State, x0⟩, ⟨21, Bool, cBool, s48⟩, ⟨5, S_tollhouseref12_Op, cRef cS_tollhouseref12_Op, x2⟩, ⟨4, S_tollhouseref12_State, cRef cS_tollhouseref12_State, x1⟩, ⟨3, S_tollhouseref12_State, cRef cS_tollhouseref12_State, x0⟩] ++ X2055) := S2060
            clear S2060
            exact op_off (l := _) S2061 (okX rfl (hX2057 _ rfl)) rfl rfl (S2061.bool 5 rfl) b1982 (fun _ S => wpList_nil ⟨rfl, (0, undef), S⟩)
          · intro f2070 X2063 Y2064 a2066 w2067 hX2065 S2068
            have S2069 : St 101 (fun _ => False) D w a2066 w2067 ([] ++ Y2064) ([⟨29, (List (List UInt8)), (cSlice cStr), y76⟩, ⟨30, S_tollhouseref12_State, cS_tollhouseref12_State, x0⟩, ⟨31, (List (List UInt8)), (cSlice cStr), y1966⟩, ⟨32, Bool, cBool, y1972⟩, ⟨33, Bool, cBool, !y1972⟩, ⟨34, Bool, cBool, !y1972⟩, ⟨8, (List (List UInt8)), (cSlice cStr), y137⟩, ⟨7, (List (List UInt8)), (cSlice cStr), y76⟩, ⟨28, (List (List UInt8)), (cSlice cStr), y137⟩, ⟨27, S_api_State, cS_api_State, y131⟩, ⟨26, S_tollhouseref12_State, cS_tollhouseref12_State, x1⟩, ⟨25, (List (List UInt8)), (cSlice cStr), y76⟩, ⟨24, S_api_State, cS_api_State, y70⟩, ⟨23, S_tollhouseref12_State, cS_tollhouseref12_State, x0⟩, ⟨21, Bool, cBool, s48⟩, ⟨5, S_tollhouseref12_Op, cRef cS_tollhouseref12_Op, x2⟩, ⟨4, S_tollhouseref12_State, cRef cS_tollhouseref12_State, x1⟩, ⟨3, S_tollhouseref12_State, cRef cS_tollhouseref12_State, x0⟩] ++ X2063) := S2068
            clear S2068
            exact op_off (l := _) S2069 (okX rfl (hX2065 _ rfl)) rfl rfl (S2069.bool 5 rfl) b1982 (fun _ S => wpList_nil ⟨rfl, (0, undef), S⟩)
          · intro f2078 X2071 Y2072 a2074 w2075 hX2073 S2076
            have S2077 : St 101 (fun _ => False) D w a2074 w2075 ([] ++ Y2072) ([⟨29, (List (List UInt8)), (cSlice cStr), y76⟩, ⟨30, S_tollhouseref12_State, cS_tollhouseref12_State, x0⟩, ⟨31, (List (List UInt8)), (cSlice cStr), y1966⟩, ⟨32, Bool, cBool, y1972⟩, ⟨33, Bool, cBool, !y1972⟩, ⟨34, Bool, cBool, !y1972⟩, ⟨8, (List (List UInt8)), (cSlice cStr), y137⟩, ⟨7, (List (List UInt8)), (cSlice cStr), y76⟩, ⟨28, (List (List UInt8)), (cSlice cStr), y137⟩, ⟨27, S_api_State, cS_api_State, y131⟩, ⟨26, S_tollhouseref12_State, cS_tollhouseref12_State, x1⟩, ⟨25, (List (List UInt8)), (cSlice cStr), y76⟩, ⟨24, S_api_State, cS_api_State, y70⟩, ⟨23, S_tollhouseref12_State, cS_tollhouseref12_State, x0⟩, ⟨21, Bool, cBool, s48⟩, ⟨5, S_tollhouseref12_Op, cRef cS_tollhouseref12_Op, x2⟩, ⟨4, S_tollhouseref12_State, cRef cS_tollhouseref12_State, x1⟩, ⟨3, S_tollhouseref12_State, cRef cS_tollhouseref12_State, x0⟩] ++ X2071) := S2076
            clear S2076
            exact op_off (l := _) S2077 (okX rfl (hX2073 _ rfl)) rfl rfl (S2077.bool 5 rfl) b1982 (fun _ S => wpList_nil ⟨rfl, (0, undef), S⟩)
          · intro f2083 a2079 w2080 _ S2081
            have S2082 : St 101 (fun _ => False) D w a2079 w2080 [] [⟨34, Bool, cBool, !y1972⟩, ⟨33, Bool, cBool, !y1972⟩, ⟨32, Bool, cBool, y1972⟩, ⟨31, (List (List UInt8)), (cSlice cStr), y1966⟩, ⟨30, S_tollhouseref12_State, cS_tollhouseref12_State, x0⟩, ⟨29, (List (List UInt8)), (cSlice cStr), y76⟩, ⟨8, (List (List UInt8)), (cSlice cStr), y137⟩, ⟨7, (List (List UInt8)), (cSlice cStr), y76⟩, ⟨28, (List (List UInt8)), (cSlice cStr), y137⟩, ⟨27, S_api_State, cS_api_State, y131⟩, ⟨26, S_tollhouseref12_State, cS_tollhouseref12_State, x1⟩, ⟨25, (List (List UInt8)), (cSlice cStr), y76⟩, ⟨24, S_api_State, cS_api_State, y70⟩, ⟨23, S_tollhouseref12_State, cS_tollhouseref12_State, x0⟩, ⟨21, Bool, cBool, s48⟩, ⟨5, S_tollhouseref12_Op, cRef cS_tollhouseref12_Op, x2⟩, ⟨4, S_tollhouseref12_State, cRef cS_tollhouseref12_State, x1⟩, ⟨3, S_tollhouseref12_State, cRef cS_tollhouseref12_State, x0⟩] := S2081
            clear S2081 S146
            refine op_off (l := _) S2082 rfl rfl rfl (S2082.bool 0 rfl) b1982 (fun a2085 S2084 => ?_)
            clear S2082 a2079
            refine op_off (l := _) S2084 rfl rfl rfl (S2084.bool 0 rfl) b1982 (fun a2087 S2086 => ?_)
            clear S2084 a2085
            refine op_pickt S2086 rfl (S2086.bool 0 rfl) b1982 (cPlain_mk (f := Value.bool) true) (fun a2088 S2089 => ?_)
            clear S2086 a2087
            refine wpList_nil ?_
            have S2090 := S2089.pick [0, 7, 8, 17, 18]
            clear S2089
            exact X414 true _ _ S2090 (by cases hr1983; exact h1960)
        · clear hr1974
          obtain ⟨y2093, h2094, hr2095⟩ := bind_some hr1984
          clear hr1984
          obtain ⟨y2099, h2100, hr2101⟩ := bind_some hr2095
          clear hr2095
          refine wp_drawn follows_mixed [[], [], [1], [0, 1, 2], [0, 1, 2, 3], [0, 1, 2, 3, 4], [0, 1, 2, 3, 4, 5], [0, 1, 2, 3, 4, 5, 6], [0, 1, 2, 3, 4, 5, 6, 7], [0, 1, 2, 3, 4, 5], [0, 1, 2, 3, 4, 5, 6, 7, 8, 9], [0, 1, 2, 3, 4, 5, 6, 7, 8, 9, 10], [0, 1, 2, 3, 4, 5, 6, 7, 8, 9, 10, 11]] [none, none, none, none, none, none, none, none, none, none] 10 rfl rfl 0 rfl (fun i p => List.getD [[⟨29, (List (List UInt8)), (cSlice cStr), y76⟩], [⟨30, S_tollhouseref12_State, cS_tollhouseref12_State, x0⟩], [⟨31, (List (List UInt8)), (cSlice cStr), y1966⟩], [⟨32, Bool, cBool, y1972⟩], [⟨33, Bool, cBool, !y1972⟩], [⟨34, Bool, cBool, !y1972⟩], [⟨35, S_tollhouseref12_Op, cS_tollhouseref12_Op, x2⟩], [⟨36, S_pact_Op, cS_pact_Op, y2093⟩], [⟨37, (List UInt8), cStr, y2099⟩], [⟨38, S_tollhouseref12_Op, cS_tollhouseref12_Op, x2⟩]] i []) (fun _ _ _ => []) (fun _ => (0, undef)) S146 rfl (fun _ => rfl) (Obs.cons ?_ (Obs.cons ?_ (Obs.cons ?_ (Obs.cons ?_ (Obs.cons ?_ (Obs.cons ?_ (Obs.cons ?_ (Obs.cons ?_ (Obs.cons ?_ (Obs.cons ?_ Obs.nil)))))))))) ?_
          · intro f2114 X2107 Y2108 a2110 w2111 hX2109 S2112
            have S2113 : St 101 (fun _ => False) D w a2110 w2111 ([] ++ Y2108) ([⟨8, (List (List UInt8)), (cSlice cStr), y137⟩, ⟨7, (List (List UInt8)), (cSlice cStr), y76⟩, ⟨28, (List (List UInt8)), (cSlice cStr), y137⟩, ⟨27, S_api_State, cS_api_State, y131⟩, ⟨26, S_tollhouseref12_State, cS_tollhouseref12_State, x1⟩, ⟨25, (List (List UInt8)), (cSlice cStr), y76⟩, ⟨24, S_api_State, cS_api_State, y70⟩, ⟨23, S_tollhouseref12_State, cS_tollhouseref12_State, x0⟩, ⟨21, Bool, cBool, s48⟩, ⟨5, S_tollhouseref12_Op, cRef cS_tollhouseref12_Op, x2⟩, ⟨4, S_tollhouseref12_State, cRef cS_tollhouseref12_State, x1⟩, ⟨3, S_tollhouseref12_State, cRef cS_tollhouseref12_State, x0⟩] ++ X2107) := S2112
            clear S2112
            refine op_move S2113 (okX rfl (hX2109 _ rfl)) (S2113.at 1 rfl) (fun a2115 S2116 => ?_)
            clear S2113 a2110
            exact wpList_nil ⟨rfl, (0, undef), S2116⟩
          · intro f2124 X2117 Y2118 a2120 w2121 hX2119 S2122
            have S2123 : St 101 (fun _ => False) D w a2120 w2121 ([] ++ Y2118) ([⟨8, (List (List UInt8)), (cSlice cStr), y137⟩, ⟨7, (List (List UInt8)), (cSlice cStr), y76⟩, ⟨28, (List (List UInt8)), (cSlice cStr), y137⟩, ⟨27, S_api_State, cS_api_State, y131⟩, ⟨26, S_tollhouseref12_State, cS_tollhouseref12_State, x1⟩, ⟨25, (List (List UInt8)), (cSlice cStr), y76⟩, ⟨24, S_api_State, cS_api_State, y70⟩, ⟨23, S_tollhouseref12_State, cS_tollhouseref12_State, x0⟩, ⟨21, Bool, cBool, s48⟩, ⟨5, S_tollhouseref12_Op, cRef cS_tollhouseref12_Op, x2⟩, ⟨4, S_tollhouseref12_State, cRef cS_tollhouseref12_State, x1⟩, ⟨3, S_tollhouseref12_State, cRef cS_tollhouseref12_State, x0⟩] ++ X2117) := S2122
            clear S2122
            refine op_loadr S2123 (okX rfl (hX2119 _ rfl)) (S2123.at 11 rfl) Tryd.isAgg27 Tryd.sizeOf27 (fun a2125 S2126 => ?_)
            clear S2123 a2120
            exact wpList_nil ⟨rfl, (0, undef), S2126⟩
          · intro f2134 X2127 Y2128 a2130 w2131 hX2129 S2132
            have S2133 : St 101 (fun _ => False) D w a2130 w2131 ([] ++ Y2128) ([⟨30, S_tollhouseref12_State, cS_tollhouseref12_State, x0⟩, ⟨8, (List (List UInt8)), (cSlice cStr), y137⟩, ⟨7, (List (List UInt8)), (cSlice cStr), y76⟩, ⟨28, (List (List UInt8)), (cSlice cStr), y137⟩, ⟨27, S_api_State, cS_api_State, y131⟩, ⟨26, S_tollhouseref12_State, cS_tollhouseref12_State, x1⟩, ⟨25, (List (List UInt8)), (cSlice cStr), y76⟩, ⟨24, S_api_State, cS_api_State, y70⟩, ⟨23, S_tollhouseref12_State, cS_tollhouseref12_State, x0⟩, ⟨21, Bool, cBool, s48⟩, ⟨5, S_tollhouseref12_Op, cRef cS_tollhouseref12_Op, x2⟩, ⟨4, S_tollhouseref12_State, cRef cS_tollhouseref12_State, x1⟩, ⟨3, S_tollhouseref12_State, cRef cS_tollhouseref12_State, x0⟩] ++ X2127) := S2132
            clear S2132
            refine op_call S2133 (okX rfl (hX2129 _ rfl)) Tryd.call11 (tollhouseref31_State_ok (S2133.at 0 rfl) S2133.dirty_lt h1967) (fun a2135 w2137 S2136 => ?_)
            clear S2133 a2130 w2131
            exact wpList_nil ⟨rfl, (0, undef), S2136⟩
          · intro f2145 X2138 Y2139 a2141 w2142 hX2140 S2143
            have S2144 : St 101 (fun _ => False) D w a2141 w2142 ([] ++ Y2139) ([⟨29, (List (List UInt8)), (cSlice cStr), y76⟩, ⟨30, S_tollhouseref12_State, cS_tollhouseref12_State, x0⟩, ⟨31, (List (List UInt8)), (cSlice cStr), y1966⟩, ⟨8, (List (List UInt8)), (cSlice cStr), y137⟩, ⟨7, (List (List UInt8)), (cSlice cStr), y76⟩, ⟨28, (List (List UInt8)), (cSlice cStr), y137⟩, ⟨27, S_api_State, cS_api_State, y131⟩, ⟨26, S_tollhouseref12_State, cS_tollhouseref12_State, x1⟩, ⟨25, (List (List UInt8)), (cSlice cStr), y76⟩, ⟨24, S_api_State, cS_api_State, y70⟩, ⟨23, S_tollhouseref12_State, cS_tollhouseref12_State, x0⟩, ⟨21, Bool, cBool, s48⟩, ⟨5, S_tollhouseref12_Op, cRef cS_tollhouseref12_Op, x2⟩, ⟨4, S_tollhouseref12_State, cRef cS_tollhouseref12_State, x1⟩, ⟨3, S_tollhouseref12_State, cRef cS_tollhouseref12_State, x0⟩] ++ X2138) := S2143
            clear S2143
            refine op_call S2144 (okX rfl (hX2140 _ rfl)) Tryd.call10 (tollhouselaw31_same_ok (S2144.at 0 rfl) (S2144.at 2 rfl) S2144.dirty_lt h1973) (fun a2146 w2148 S2147 => ?_)
            clear S2144 a2141 w2142
            exact wpList_nil ⟨rfl, (0, undef), S2147⟩
          · intro f2156 X2149 Y2150 a2152 w2153 hX2151 S2154
            have S2155 : St 101 (fun _ => False) D w a2152 w2153 ([] ++ Y2150) ([⟨29, (List (List UInt8)), (cSlice cStr), y76⟩, ⟨30, S_tollhouseref12_State, cS_tollhouseref12_State, x0⟩, ⟨31, (List (List UInt8)), (cSlice cStr), y1966⟩, ⟨32, Bool, cBool, y1972⟩, ⟨8, (List (List UInt8)), (cSlice cStr), y137⟩, ⟨7, (List (List UInt8)), (cSlice cStr), y76⟩, ⟨28, (List (List UInt8)), (cSlice cStr), y137⟩, ⟨27, S_api_State, cS_api_State, y131⟩, ⟨26, S_tollhouseref12_State, cS_tollhouseref12_State, x1⟩, ⟨25, (List (List UInt8)), (cSlice cStr), y76⟩, ⟨24, S_api_State, cS_api_State, y70⟩, ⟨23, S_tollhouseref12_State, cS_tollhouseref12_State, x0⟩, ⟨21, Bool, cBool, s48⟩, ⟨5, S_tollhouseref12_Op, cRef cS_tollhouseref12_Op, x2⟩, ⟨4, S_tollhouseref12_State, cRef cS_tollhouseref12_State, x1⟩, ⟨3, S_tollhouseref12_State, cRef cS_tollhouseref12_State, x0⟩] ++ X2149) := S2154
            clear S2154
            refine op_not S2155 (okX rfl (hX2151 _ rfl)) (S2155.bool 3 rfl) (fun a2157 S2158 => ?_)
            clear S2155 a2152
            exact wpList_nil ⟨rfl, (0, undef), S2158⟩
          · intro f2166 X2159 Y2160 a2162 w2163 hX2161 S2164
            have S2165 : St 101 (fun _ => False) D w a2162 w2163 ([] ++ Y2160) ([⟨29, (List (List UInt8)), (cSlice cStr), y76⟩, ⟨30, S_tollhouseref12_State, cS_tollhouseref12_State, x0⟩, ⟨31, (List (List UInt8)), (cSlice cStr), y1966⟩, ⟨32, Bool, cBool, y1972⟩, ⟨33, Bool, cBool, !y1972⟩, ⟨8, (List (List UInt8)), (cSlice cStr), y137⟩, ⟨7, (List (List UInt8)), (cSlice cStr), y76⟩, ⟨28, (List (List UInt8)), (cSlice cStr), y137⟩, ⟨27, S_api_State, cS_api_State, y131⟩, ⟨26, S_tollhouseref12_State, cS_tollhouseref12_State, x1⟩, ⟨25, (List (List UInt8)), (cSlice cStr), y76⟩, ⟨24, S_api_State, cS_api_State, y70⟩, ⟨23, S_tollhouseref12_State, cS_tollhouseref12_State, x0⟩, ⟨21, Bool, cBool, s48⟩, ⟨5, S_tollhouseref12_Op, cRef cS_tollhouseref12_Op, x2⟩, ⟨4, S_tollhouseref12_State, cRef cS_tollhouseref12_State, x1⟩, ⟨3, S_tollhouseref12_State, cRef cS_tollhouseref12_State, x0⟩] ++ X2159) := S2164
            clear S2164
            refine op_move S2165 (okX rfl (hX2161 _ rfl)) (S2165.at 4 rfl) (fun a2167 S2168 => ?_)
            clear S2165 a2162
            exact wpList_nil ⟨rfl, (0, undef), S2168⟩
          · intro f2176 X2169 Y2170 a2172 w2173 hX2171 S2174
            have S2175 : St 101 (fun _ => False) D w a2172 w2173 ([] ++ Y2170) ([⟨29, (List (List UInt8)), (cSlice cStr), y76⟩, ⟨30, S_tollhouseref12_State, cS_tollhouseref12_State, x0⟩, ⟨31, (List (List UInt8)), (cSlice cStr), y1966⟩, ⟨32, Bool, cBool, y1972⟩, ⟨33, Bool, cBool, !y1972⟩, ⟨34, Bool, cBool, !y1972⟩, ⟨8, (List (List UInt8)), (cSlice cStr), y137⟩, ⟨7, (List (List UInt8)), (cSlice cStr), y76⟩, ⟨28, (List (List UInt8)), (cSlice cStr), y137⟩, ⟨27, S_api_State, cS_api_State, y131⟩, ⟨26, S_tollhouseref12_State, cS_tollhouseref12_State, x1⟩, ⟨25, (List (List UInt8)), (cSlice cStr), y76⟩, ⟨24, S_api_State, cS_api_State, y70⟩, ⟨23, S_tollhouseref12_State, cS_tollhouseref12_State, x0⟩, ⟨21, Bool, cBool, s48⟩, ⟨5, S_tollhouseref12_Op, cRef cS_tollhouseref12_Op, x2⟩, ⟨4, S_tollhouseref12_State, cRef cS_tollhouseref12_State, x1⟩, ⟨3, S_tollhouseref12_State, cRef cS_tollhouseref12_State, x0⟩] ++ X2169) := S2174
            clear S2174
            refine wpl_on (l := _) rfl rfl (S2175.bool 5 rfl) b1982 ?_
            refine op_loadr S2175 (okX rfl (hX2171 _ rfl)) (S2175.at 15 rfl) Tryd.isAgg32 Tryd.sizeOf32 (fun a2177 S2178 => ?_)
            clear S2175 a2172
            exact wpList_nil ⟨rfl, (0, undef), S2178⟩
          · intro f2186 X2179 Y2180 a2182 w2183 hX2181 S2184
            have S2185 : St 101 (fun _ => False) D w a2182 w2183 ([] ++ Y2180) ([⟨29, (List (List UInt8)), (cSlice cStr), y76⟩, ⟨30, S_tollhouseref12_State, cS_tollhouseref12_State, x0⟩, ⟨31, (List (List UInt8)), (cSlice cStr), y1966⟩, ⟨32, Bool, cBool, y1972⟩, ⟨33, Bool, cBool, !y1972⟩, ⟨34, Bool, cBool, !y1972⟩, ⟨35, S_tollhouseref12_Op, cS_tollhouseref12_Op, x2⟩, ⟨8, (List (List UInt8)), (cSlice cStr), y137⟩, ⟨7, (List (List UInt8)), (cSlice cStr), y76⟩, ⟨28, (List (List UInt8)), (cSlice cStr), y137⟩, ⟨27, S_api_State, cS_api_State, y131⟩, ⟨26, S_tollhouseref12_State, cS_tollhouseref12_State, x1⟩, ⟨25, (List (List UInt8)), (cSlice cStr), y76⟩, ⟨24, S_api_State, cS_api_State, y70⟩, ⟨23, S_tollhouseref12_State, cS_tollhouseref12_State, x0⟩, ⟨21, Bool, cBool, s48⟩, ⟨5, S_tollhouseref12_Op, cRef cS_tollhouseref12_Op, x2⟩, ⟨4, S_tollhouseref12_State, cRef cS_tollhouseref12_State, x1⟩, ⟨3, S_tollhouseref12_State, cRef cS_tollhouseref12_State, x0⟩] ++ X2179) := S2184
            clear S2184
            refine wpl_on (l := _) rfl rfl (S2185.bool 5 rfl) b1982 ?_
            refine op_call S2185 (okX rfl (hX2181 _ rfl)) Tryd.call13 (tollhouselaw12_Op_ok (S2185.at 6 rfl) S2185.dirty_lt h2094) (fun a2187 w2189 S2188 => ?_)
            clear S2185 a2182 w2183
            exact wpList_nil ⟨rfl, (0, undef), S2188⟩
          · intro f2197 X2190 Y2191 a2193 w2194 hX2192 S2195
            have S2196 : St 101 (fun _ => False) D w a2193 w2194 ([] ++ Y2191) ([⟨29, (List (List UInt8)), (cSlice cStr), y76⟩, ⟨30, S_tollhouseref12_State, cS_tollhouseref12_State, x0⟩, ⟨31, (List (List UInt8)), (cSlice cStr), y1966⟩, ⟨32, Bool, cBool, y1972⟩, ⟨33, Bool, cBool, !y1972⟩, ⟨34, Bool, cBool, !y1972⟩, ⟨35, S_tollhouseref12_Op, cS_tollhouseref12_Op, x2⟩, ⟨36, S_pact_Op, cS_pact_Op, y2093⟩, ⟨8, (List (List UInt8)), (cSlice cStr), y137⟩, ⟨7, (List (List UInt8)), (cSlice cStr), y76⟩, ⟨28, (List (List UInt8)), (cSlice cStr), y137⟩, ⟨27, S_api_State, cS_api_State, y131⟩, ⟨26, S_tollhouseref12_State, cS_tollhouseref12_State, x1⟩, ⟨25, (List (List UInt8)), (cSlice cStr), y76⟩, ⟨24, S_api_State, cS_api_State, y70⟩, ⟨23, S_tollhouseref12_State, cS_tollhouseref12_State, x0⟩, ⟨21, Bool, cBool, s48⟩, ⟨5, S_tollhouseref12_Op, cRef cS_tollhouseref12_Op, x2⟩, ⟨4, S_tollhouseref12_State, cRef cS_tollhouseref12_State, x1⟩, ⟨3, S_tollhouseref12_State, cRef cS_tollhouseref12_State, x0⟩] ++ X2190) := S2195
            clear S2195
            refine wpl_on (l := _) rfl rfl (S2196.bool 5 rfl) b1982 ?_
            refine op_call S2196 (okX rfl (hX2192 _ rfl)) Tryd.call12 (report_Wish_ok (S2196.at 7 rfl) S2196.dirty_lt (S2196.tab hT0) (S2196.tab hT2) h2100) (fun a2198 w2200 S2199 => ?_)
            clear S2196 a2193 w2194
            exact wpList_nil ⟨rfl, (0, undef), S2199⟩
          · intro f2208 X2201 Y2202 a2204 w2205 hX2203 S2206
            have S2207 : St 101 (fun _ => False) D w a2204 w2205 ([] ++ Y2202) ([⟨29, (List (List UInt8)), (cSlice cStr), y76⟩, ⟨30, S_tollhouseref12_State, cS_tollhouseref12_State, x0⟩, ⟨31, (List (List UInt8)), (cSlice cStr), y1966⟩, ⟨32, Bool, cBool, y1972⟩, ⟨33, Bool, cBool, !y1972⟩, ⟨34, Bool, cBool, !y1972⟩, ⟨8, (List (List UInt8)), (cSlice cStr), y137⟩, ⟨7, (List (List UInt8)), (cSlice cStr), y76⟩, ⟨28, (List (List UInt8)), (cSlice cStr), y137⟩, ⟨27, S_api_State, cS_api_State, y131⟩, ⟨26, S_tollhouseref12_State, cS_tollhouseref12_State, x1⟩, ⟨25, (List (List UInt8)), (cSlice cStr), y76⟩, ⟨24, S_api_State, cS_api_State, y70⟩, ⟨23, S_tollhouseref12_State, cS_tollhouseref12_State, x0⟩, ⟨21, Bool, cBool, s48⟩, ⟨5, S_tollhouseref12_Op, cRef cS_tollhouseref12_Op, x2⟩, ⟨4, S_tollhouseref12_State, cRef cS_tollhouseref12_State, x1⟩, ⟨3, S_tollhouseref12_State, cRef cS_tollhouseref12_State, x0⟩] ++ X2201) := S2206
            clear S2206
            refine wpl_on (l := _) rfl rfl (S2207.bool 5 rfl) b1982 ?_
            refine op_loadr S2207 (okX rfl (hX2203 _ rfl)) (S2207.at 15 rfl) Tryd.isAgg32 Tryd.sizeOf32 (fun a2209 S2210 => ?_)
            clear S2207 a2204
            exact wpList_nil ⟨rfl, (0, undef), S2210⟩
          · intro f2215 a2211 w2212 _ S2213
            have S2214 : St 101 (fun _ => False) D w a2211 w2212 [] [⟨38, S_tollhouseref12_Op, cS_tollhouseref12_Op, x2⟩, ⟨37, (List UInt8), cStr, y2099⟩, ⟨36, S_pact_Op, cS_pact_Op, y2093⟩, ⟨35, S_tollhouseref12_Op, cS_tollhouseref12_Op, x2⟩, ⟨34, Bool, cBool, !y1972⟩, ⟨33, Bool, cBool, !y1972⟩, ⟨32, Bool, cBool, y1972⟩, ⟨31, (List (List UInt8)), (cSlice cStr), y1966⟩, ⟨30, S_tollhouseref12_State, cS_tollhouseref12_State, x0⟩, ⟨29, (List (List UInt8)), (cSlice cStr), y76⟩, ⟨8, (List (List UInt8)), (cSlice cStr), y137⟩, ⟨7, (List (List UInt8)), (cSlice cStr), y76⟩, ⟨28, (List (List UInt8)), (cSlice cStr), y137⟩, ⟨27, S_api_State, cS_api_State, y131⟩, ⟨26, S_tollhouseref12_State, cS_tollhouseref12_State, x1⟩, ⟨25, (List (List UInt8)), (cSlice cStr), y76⟩, ⟨24, S_api_State, cS_api_State, y70⟩, ⟨23, S_tollhouseref12_State, cS_tollhouseref12_State, x0⟩, ⟨21, Bool, cBool, s48⟩, ⟨5, S_tollhouseref12_Op, cRef cS_tollhouseref12_Op, x2⟩, ⟨4, S_tollhouseref12_State, cRef cS_tollhouseref12_State, x1⟩, ⟨3, S_tollhouseref12_State, cRef cS_tollhouseref12_State, x0⟩] := S2213
            clear S2213 S146
            refine wpl_on (l := _) rfl rfl (S2214.bool 4 rfl) b1982 ?_
            obtain ⟨y2216, h2217, hr2218⟩ := bind_some hr2101
            clear hr2101
            refine op_call S2214 rfl Tryd.call14 (tollhouseref31_Wish_ok (S2214.at 0 rfl) S2214.dirty_lt h2217) (fun a2219 w2221 S2220 => ?_)
            clear S2214 a2211 w2212
            refine wpl_on (l := _) rfl rfl (S2220.bool 5 rfl) b1982 ?_
            refine op_sne S2220 rfl (S2220.str 2 rfl) (S2220.str 0 rfl) (fun a2222 S2223 => ?_)
            clear S2220 a2219
            refine op_pickf S2223 rfl (S2223.bool 6 rfl) b1982 (S2223.at 0 rfl) (fun a2224 S2225 => ?_)
            clear S2223 a2222
            refine wpList_nil ?_
            have S2226 := S2225.pick [0, 13, 14, 23, 24]
            clear S2225
            exact X414 (!decide (y2099 = y2216)) _ _ S2226 (by cases hr2218; exact h1960)
  obtain ⟨t2227, hr2229, h2228⟩ := bind_some hr
  clear hr
  refine wp_region_lit ?_
  refine op_fieldAddrr S12 rfl (S12.at 3 rfl) Tryd.underlying27 rfl Tryd.sizeOf25 rfl LS_tollhouseref12_State_Conds rfl (fun a2230 S2231 => ?_)
  clear S12 a11
  refine op_loadr S2231 rfl (S2231.at 0 rfl) Tryd.isAgg25 Tryd.sizeOf25 (fun a2232 S2233 => ?_)
  clear S2231 a2230
  refine op_len S2233 rfl (S2233.at 0 rfl) Tryd.underlying25 (fun a2234 S2235 => ?_)
  clear S2233 a2232
  refine op_gtr S2235 rfl (S2235.int 0 rfl) rfl (fun a2236 S2237 => ?_)
  clear S2235 a2234
  refine op_move S2237 rfl (S2237.at 0 rfl) (fun a2238 S2239 => ?_)
  clear S2237 a2236
  rcases cond_some hr2229 with ⟨b2240, hr2241⟩ | ⟨b2240, hr2242⟩
  · clear hr2229
    refine op_off (l := _) S2239 rfl rfl rfl (S2239.bool 0 rfl) b2240 (fun a2244 S2243 => ?_)
    clear S2239 a2238
    refine op_off (l := _) S2243 rfl rfl rfl (S2243.bool 0 rfl) b2240 (fun a2246 S2245 => ?_)
    clear S2243 a2244
    refine op_off (l := _) S2245 rfl rfl rfl (S2245.bool 0 rfl) b2240 (fun a2248 S2247 => ?_)
    clear S2245 a2246
    refine op_off (l := _) S2247 rfl rfl rfl (S2247.bool 0 rfl) b2240 (fun a2250 S2249 => ?_)
    clear S2247 a2248
    refine op_pickt S2249 rfl (S2249.bool 0 rfl) b2240 (cPlain_mk (f := Value.bool) true) (fun a2251 S2252 => ?_)
    clear S2249 a2250
    refine wpList_nil ?_
    have S2253 := S2252.pick [0, 7, 8, 9]
    clear S2252
    exact X50 true _ _ S2253 (by cases hr2241; exact h2228)
  · clear hr2229
    refine wpl_on (l := _) rfl rfl (S2239.bool 0 rfl) b2240 ?_
    refine op_fieldAddrr S2239 rfl (S2239.at 7 rfl) Tryd.underlying27 rfl Tryd.sizeOf25 rfl LS_tollhouseref12_State_Conds rfl (fun a2254 S2255 => ?_)
    clear S2239 a2238
    refine wpl_on (l := _) rfl rfl (S2255.bool 1 rfl) b2240 ?_
    refine op_loadr S2255 rfl (S2255.at 0 rfl) Tryd.isAgg25 Tryd.sizeOf25 (fun a2256 S2257 => ?_)
    clear S2255 a2254
    refine wpl_on (l := _) rfl rfl (S2257.bool 2 rfl) b2240 ?_
    refine op_len S2257 rfl (S2257.at 0 rfl) Tryd.underlying25 (fun a2258 S2259 => ?_)
    clear S2257 a2256
    refine wpl_on (l := _) rfl rfl (S2259.bool 3 rfl) b2240 ?_
    refine op_gtr S2259 rfl (S2259.int 0 rfl) rfl (fun a2260 S2261 => ?_)
    clear S2259 a2258
    refine op_pickf S2261 rfl (S2261.bool 4 rfl) b2240 (S2261.at 0 rfl) (fun a2262 S2263 => ?_)
    clear S2261 a2260
    refine wpList_nil ?_
    have S2264 := S2263.pick [0, 11, 12, 13]
    clear S2263
    exact X50 (decide ((x1.Conds.length : Int) > 40)) _ _ S2264 (by cases hr2242; exact h2228)
end Go.Proofs.X
