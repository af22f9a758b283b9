/- Part of the proof of a law of this seat: TwX. No condition. -/
import Derived.Test.YtknffjhclhgoiaaDoorTwXa
import Derived.Test.YtknffjhclhgoiaaDoorTwQ
import Derived.Lib.ItoaNum
import Derived.Test.YtknffjhclhgoiaaDoorTwY
import Derived.Test.YtknffjhclhgoiaaDoorProg
set_option linter.unusedVariables false
set_option linter.unusedSimpArgs false
namespace Go.Proofs.X
open Go Go.Tw Go.Proofs
/-- tollhouse/tollhouseref31.two -/
noncomputable def tollhouseref31_two (x0 : (List Int)) : Option (List UInt8) :=
  ((tollhouseref31_Num (x0.getD (0 : Int).toNat 0)).bind fun y12 => (if y12.length + ([32] : List UInt8).length ≤ 9223372036854775807 then ((tollhouseref31_Num (x0.getD (1 : Int).toNat 0)).bind fun y26 => (if (y12 ++ ([32] : List UInt8)).length + y26.length ≤ 9223372036854775807 then some ((y12 ++ ([32] : List UInt8)) ++ y26) else none)) else none))
set_option maxRecDepth 100000 in
set_option maxHeartbeats 8000000 in
theorem tollhouseref31_two_ok {D : Dirty} {w : World} {v0 : Value} {x0 : (List Int)} {r : (List UInt8)} (h0 : (cArr 2 (cInt .u64)).val D w v0 x0) (hD : ∀ k, D k → k < w.heap.size) (hr : tollhouseref31_two x0 = some r) :
    Calls Tryd.prog 44 [v0].toArray w (Ret cStr D w r) := by
  refine calls_start (n := 11) Tryd.func44 rfl rfl ?_
  have S := St.start (w := w) (args := [v0].toArray) 11 rfl hD
  replace S := S.arg 0 rfl (val_dirt0 h0)
  unfold tollhouseref31_two at hr
  refine wp_seq_k (fun K1 hK1 => ?_)
  refine wp_region_lit ?_
  refine op_boxr S rfl (S.at 0 rfl) (cArr_flat (cInt_flat _)) (fun a2 w4 S3 => ?_)
  clear S
  refine op_assign S3 rfl (cPlain_mk (f := strV) ([] : List UInt8)) (fun a5 S6 => ?_)
  clear S3 a2
  refine wpList_nil ?_
  refine hK1 _ _ ?_
  clear hK1 K1
  refine wp_seq_k (fun K7 hK7 => ?_)
  obtain ⟨y12, h13, hr14⟩ := bind_some hr
  clear hr
  obtain ⟨g18, hr19⟩ := guard_some hr14
  clear hr14
  obtain ⟨y26, h27, hr28⟩ := bind_some hr19
  clear hr19
  refine wp_drawn follows_mixed [[], [0], [0, 1], [0, 1, 2], [], [4], [0, 1, 2, 4, 5], [0, 1, 2, 3, 4, 5, 6], [0, 1, 2, 3, 4, 5, 6, 7]] [none, none, none, none, none, none, none] 7 rfl rfl 0 rfl (fun i p => List.getD [[⟨3, Int, cRef (cInt .u64), x0.getD (0 : Int).toNat 0⟩], [⟨4, Int, (cInt .u64), x0.getD (0 : Int).toNat 0⟩], [⟨5, (List UInt8), cStr, y12⟩], [⟨6, (List UInt8), cStr, y12 ++ ([32] : List UInt8)⟩], [⟨7, Int, cRef (cInt .u64), x0.getD (1 : Int).toNat 0⟩], [⟨8, Int, (cInt .u64), x0.getD (1 : Int).toNat 0⟩], [⟨9, (List UInt8), cStr, y26⟩]] i []) (fun _ _ _ => []) (fun _ => (0, undef)) S6 rfl (fun _ => rfl) (Obs.cons ?_ (Obs.cons ?_ (Obs.cons ?_ (Obs.cons ?_ (Obs.cons ?_ (Obs.cons ?_ (Obs.cons ?_ Obs.nil))))))) ?_
  · intro f39 X32 Y33 a35 w36 hX34 S37
    have S38 : St 11 (fun _ => False) D w a35 w36 ([] ++ Y33) ([⟨2, (List UInt8), cStr, ([] : List UInt8)⟩, ⟨1, (List Int), cRef (cArr 2 (cInt .u64)), x0⟩, ⟨0, (List Int), (cArr 2 (cInt .u64)), x0⟩] ++ X32) := S37
    clear S37
    refine op_indexAddrr (z0 := 0) S38 (okX rfl (hX34 _ rfl)) (S38.at 1 rfl) rfl (by decide) Tryd.underlying24 Tryd.sizeOf23 (fun a40 S41 => ?_)
    clear S38 a35
    exact wpList_nil ⟨rfl, (0, undef), S41⟩
  · intro f49 X42 Y43 a45 w46 hX44 S47
    have S48 : St 11 (fun _ => False) D w a45 w46 ([] ++ Y43) ([⟨3, Int, cRef (cInt .u64), x0.getD (0 : Int).toNat 0⟩, ⟨2, (List UInt8), cStr, ([] : List UInt8)⟩, ⟨1, (List Int), cRef (cArr 2 (cInt .u64)), x0⟩, ⟨0, (List Int), (cArr 2 (cInt .u64)), x0⟩] ++ X42) := S47
    clear S47
    refine op_loadr S48 (okX rfl (hX44 _ rfl)) (S48.at 0 rfl) Tryd.isAgg23 Tryd.sizeOf23 (fun a50 S51 => ?_)
    clear S48 a45
    exact wpList_nil ⟨rfl, (0, undef), S51⟩
  · intro f59 X52 Y53 a55 w56 hX54 S57
    have S58 : St 11 (fun _ => False) D w a55 w56 ([] ++ Y53) ([⟨3, Int, cRef (cInt .u64), x0.getD (0 : Int).toNat 0⟩, ⟨4, Int, (cInt .u64), x0.getD (0 : Int).toNat 0⟩, ⟨2, (List UInt8), cStr, ([] : List UInt8)⟩, ⟨1, (List Int), cRef (cArr 2 (cInt .u64)), x0⟩, ⟨0, (List Int), (cArr 2 (cInt .u64)), x0⟩] ++ X52) := S57
    clear S57
    refine op_call S58 (okX rfl (hX54 _ rfl)) Tryd.call43 (tollhouseref31_Num_ok (S58.at 1 rfl) S58.dirty_lt h13) (fun a60 w62 S61 => ?_)
    clear S58 a55 w56
    exact wpList_nil ⟨rfl, (0, undef), S61⟩
  · intro f70 X63 Y64 a66 w67 hX65 S68
    have S69 : St 11 (fun _ => False) D w a66 w67 ([] ++ Y64) ([⟨3, Int, cRef (cInt .u64), x0.getD (0 : Int).toNat 0⟩, ⟨4, Int, (cInt .u64), x0.getD (0 : Int).toNat 0⟩, ⟨5, (List UInt8), cStr, y12⟩, ⟨2, (List UInt8), cStr, ([] : List UInt8)⟩, ⟨1, (List Int), cRef (cArr 2 (cInt .u64)), x0⟩, ⟨0, (List Int), (cArr 2 (cInt .u64)), x0⟩] ++ X63) := S68
    clear S68
    refine op_cat S69 (okX rfl (hX65 _ rfl)) (S69.str 2 rfl) rfl g18 (fun a71 S72 => ?_)
    clear S69 a66
    exact wpList_nil ⟨rfl, (0, undef), S72⟩
  · intro f80 X73 Y74 a76 w77 hX75 S78
    have S79 : St 11 (fun _ => False) D w a76 w77 ([] ++ Y74) ([⟨2, (List UInt8), cStr, ([] : List UInt8)⟩, ⟨1, (List Int), cRef (cArr 2 (cInt .u64)), x0⟩, ⟨0, (List Int), (cArr 2 (cInt .u64)), x0⟩] ++ X73) := S78
    clear S78
    refine op_indexAddrr (z0 := 0) S79 (okX rfl (hX75 _ rfl)) (S79.at 1 rfl) rfl (by decide) Tryd.underlying24 Tryd.sizeOf23 (fun a81 S82 => ?_)
    clear S79 a76
    exact wpList_nil ⟨rfl, (0, undef), S82⟩
  · intro f90 X83 Y84 a86 w87 hX85 S88
    have S89 : St 11 (fun _ => False) D w a86 w87 ([] ++ Y84) ([⟨7, Int, cRef (cInt .u64), x0.getD (1 : Int).toNat 0⟩, ⟨2, (List UInt8), cStr, ([] : List UInt8)⟩, ⟨1, (List Int), cRef (cArr 2 (cInt .u64)), x0⟩, ⟨0, (List Int), (cArr 2 (cInt .u64)), x0⟩] ++ X83) := S88
    clear S88
    refine op_loadr S89 (okX rfl (hX85 _ rfl)) (S89.at 0 rfl) Tryd.isAgg23 Tryd.sizeOf23 (fun a91 S92 => ?_)
    clear S89 a86
    exact wpList_nil ⟨rfl, (0, undef), S92⟩
  · intro f100 X93 Y94 a96 w97 hX95 S98
    have S99 : St 11 (fun _ => False) D w a96 w97 ([] ++ Y94) ([⟨3, Int, cRef (cInt .u64), x0.getD (0 : Int).toNat 0⟩, ⟨4, Int, (cInt .u64), x0.getD (0 : Int).toNat 0⟩, ⟨5, (List UInt8), cStr, y12⟩, ⟨7, Int, cRef (cInt .u64), x0.getD (1 : Int).toNat 0⟩, ⟨8, Int, (cInt .u64), x0.getD (1 : Int).toNat 0⟩, ⟨2, (List UInt8), cStr, ([] : List UInt8)⟩, ⟨1, (List Int), cRef (cArr 2 (cInt .u64)), x0⟩, ⟨0, (List Int), (cArr 2 (cInt .u64)), x0⟩] ++ X93) := S98
    clear S98
    refine op_call S99 (okX rfl (hX95 _ rfl)) Tryd.call43 (tollhouseref31_Num_ok (S99.at 4 rfl) S99.dirty_lt h27) (fun a101 w103 S102 => ?_)
    clear S99 a96 w97
    exact wpList_nil ⟨rfl, (0, undef), S102⟩
  · intro f108 a104 w105 _ S106
    have S107 : St 11 (fun _ => False) D w a104 w105 [] [⟨9, (List UInt8), cStr, y26⟩, ⟨8, Int, (cInt .u64), x0.getD (1 : Int).toNat 0⟩, ⟨7, Int, cRef (cInt .u64), x0.getD (1 : Int).toNat 0⟩, ⟨6, (List UInt8), cStr, y12 ++ ([32] : List UInt8)⟩, ⟨5, (List UInt8), cStr, y12⟩, ⟨4, Int, (cInt .u64), x0.getD (0 : Int).toNat 0⟩, ⟨3, Int, cRef (cInt .u64), x0.getD (0 : Int).toNat 0⟩, ⟨2, (List UInt8), cStr, ([] : List UInt8)⟩, ⟨1, (List Int), cRef (cArr 2 (cInt .u64)), x0⟩, ⟨0, (List Int), (cArr 2 (cInt .u64)), x0⟩] := S106
    clear S106 S6
    obtain ⟨g109, hr110⟩ := guard_some hr28
    clear hr28
    refine op_cat S107 rfl (S107.str 3 rfl) (S107.str 0 rfl) g109 (fun a111 S112 => ?_)
    clear S107 a104
    have S113 := S112.erase 8
    clear S112
    refine op_assign S113 rfl (S113.at 0 rfl) (fun a114 S115 => ?_)
    clear S113 a111
    refine wpList_nil ?_
    refine hK7 _ _ ?_
    clear hK7 K7
    refine wp_ret ?_
    cases hr110
    exact ret1 S115 rfl 0 rfl
/-- tollhouse/tollhouseref31.Short -/
noncomputable def tollhouseref31_Short (x0 : (List Int)) : Option (List UInt8) :=
  ((loopM (fun (s700 : Int × (List UInt8)) => match s700 with | (s17, s18) => ((if decide (s17 < 4) then (if (0 : Int) ≤ s17 ∧ s17 < (32 : Int) then (if (0 : Int) ≤ (IntKind.wrap .u8 (Int.tdiv (x0.getD (s17 : Int).toNat 0) 16)) ∧ (IntKind.wrap .u8 (Int.tdiv (x0.getD (s17 : Int).toNat 0) 16)) < (([48, 49, 50, 51, 52, 53, 54, 55, 56, 57, 97, 98, 99, 100, 101, 102] : List UInt8).length : Int) then (if (0 : Int) ≤ s17 ∧ s17 < (32 : Int) then (if (0 : Int) ≤ (Int.tmod (x0.getD (s17 : Int).toNat 0) 16) ∧ (Int.tmod (x0.getD (s17 : Int).toNat 0) 16) < (([48, 49, 50, 51, 52, 53, 54, 55, 56, 57, 97, 98, 99, 100, 101, 102] : List UInt8).length : Int) then (if s18.length + (bytesOf [((([48, 49, 50, 51, 52, 53, 54, 55, 56, 57, 97, 98, 99, 100, 101, 102] : List UInt8).getD ((IntKind.wrap .u8 (Int.tdiv (x0.getD (s17 : Int).toNat 0) 16)) : Int).toNat 0).toNat : Int), ((([48, 49, 50, 51, 52, 53, 54, 55, 56, 57, 97, 98, 99, 100, 101, 102] : List UInt8).getD ((Int.tmod (x0.getD (s17 : Int).toNat 0) 16) : Int).toNat 0).toNat : Int)]).length ≤ 9223372036854775807 then some (.inl (IntKind.wrap .i64 (s17 + 1), s18 ++ (bytesOf [((([48, 49, 50, 51, 52, 53, 54, 55, 56, 57, 97, 98, 99, 100, 101, 102] : List UInt8).getD ((IntKind.wrap .u8 (Int.tdiv (x0.getD (s17 : Int).toNat 0) 16)) : Int).toNat 0).toNat : Int), ((([48, 49, 50, 51, 52, 53, 54, 55, 56, 57, 97, 98, 99, 100, 101, 102] : List UInt8).getD ((Int.tmod (x0.getD (s17 : Int).toNat 0) 16) : Int).toNat 0).toNat : Int)]))) else none) else none) else none) else none) else none) else some (.inr s18)) : Option ((Int × (List UInt8)) ⊕ ((List UInt8))))) (0, ([] : List UInt8))).bind fun s462 => some s462)
set_option maxRecDepth 100000 in
set_option maxHeartbeats 8000000 in
theorem tollhouseref31_Short_ok {D : Dirty} {w : World} {v0 : Value} {x0 : (List Int)} {r : (List UInt8)} (h0 : (cArr 32 (cInt .u8)).val D w v0 x0) (hD : ∀ k, D k → k < w.heap.size) (hr : tollhouseref31_Short x0 = some r) :
    Calls Tryd.prog 47 [v0].toArray w (Ret cStr D w r) := by
  refine calls_start (n := 27) Tryd.func47 rfl rfl ?_
  have S := St.start (w := w) (args := [v0].toArray) 27 rfl hD
  replace S := S.arg 0 rfl (val_dirt0 h0)
  unfold tollhouseref31_Short at hr
  refine wp_seq_k (fun K1 hK1 => ?_)
  refine wp_region_lit ?_
  refine op_boxr S rfl (S.at 0 rfl) (cArr_flat (cInt_flat _)) (fun a2 w4 S3 => ?_)
  clear S
  refine op_assign S3 rfl (cPlain_mk (f := strV) ([] : List UInt8)) (fun a5 S6 => ?_)
  clear S3 a2
  refine wpList_nil ?_
  refine hK1 _ _ ?_
  clear hK1 K1
  refine wp_seq_k (fun K7 hK7 => ?_)
  refine wp_region_lit ?_
  refine op_assign S6 rfl (cPlain_mk (f := strV) ([48, 49, 50, 51, 52, 53, 54, 55, 56, 57, 97, 98, 99, 100, 101, 102] : List UInt8)) (fun a8 S9 => ?_)
  clear S6 a5
  refine wpList_nil ?_
  refine hK7 _ _ ?_
  clear hK7 K7
  refine wp_seq_k (fun K10 hK10 => ?_)
  refine wp_region_lit ?_
  refine op_assign S9 rfl (cPlain_mk (f := strV) ([] : List UInt8)) (fun a11 S12 => ?_)
  clear S9 a8
  refine wpList_nil ?_
  refine hK10 _ _ ?_
  clear hK10 K10
  refine wp_seq_k (fun K13 hK13 => ?_)
  refine wp_seq_k (fun K14 hK14 => ?_)
  refine wp_region_lit ?_
  refine op_assign S12 rfl (cPlain_mk (f := Value.int .i64) 0) (fun a15 S16 => ?_)
  clear S12 a11
  refine wpList_nil ?_
  refine hK14 _ _ ?_
  clear hK14 K14
  refine wp_block ?_
  refine wp_q (fun Q458 hQ458 => ?_)
  have X467 : ∀ (s462 : (List UInt8)) (a464 : Act) (w465 : World), St 27 (fun _ => False) D w a464 w465 [] [⟨4, (List UInt8), cStr, s462⟩] → (some s462 : Option ((List UInt8))) = some r → Q458 (.exit 0) a464 w465 := by
    intro s462 a464 w465 S463 hr466
    refine hQ458 _ _ _ ?_
    clear hQ458
    refine hK13 _ _ ?_
    clear hK13 K13
    refine wp_seq_k (fun K468 hK468 => ?_)
    refine wp_region_lit ?_
    refine op_move S463 rfl (S463.at 0 rfl) (fun a469 S470 => ?_)
    clear S463 a464
    refine op_assign S470 rfl (S470.at 0 rfl) (fun a471 S472 => ?_)
    clear S470 a469
    refine wpList_nil ?_
    refine hK468 _ _ ?_
    clear hK468 K468
    refine wp_ret ?_
    cases hr466
    exact ret1 S472 rfl 0 rfl
  obtain ⟨t459, hr461, h460⟩ := bind_some hr
  clear hr
  have S701 := S16.pick [0, 1, 2, 4]
  clear S16
  refine wp_loopM (fun (s700 : Int × (List UInt8)) a475 w476 => match s700 with | (s17, s18) => St 27 (fun _ => False) D w a475 w476 [] [⟨5, Int, (cInt .i64), s17⟩, ⟨4, (List UInt8), cStr, s18⟩, ⟨3, (List UInt8), cStr, ([48, 49, 50, 51, 52, 53, 54, 55, 56, 57, 97, 98, 99, 100, 101, 102] : List UInt8)⟩, ⟨1, (List Int), cRef (cArr 32 (cInt .u8)), x0⟩]) ?_ (0, ([] : List UInt8)) ?_ hr461
  · intro s700 a475 w476 x473 S702 hr477
    obtain ⟨s17, s18⟩ := s700
    have S474 : St 27 (fun _ => False) D w a475 w476 [] [⟨5, Int, (cInt .i64), s17⟩, ⟨4, (List UInt8), cStr, s18⟩, ⟨3, (List UInt8), cStr, ([48, 49, 50, 51, 52, 53, 54, 55, 56, 57, 97, 98, 99, 100, 101, 102] : List UInt8)⟩, ⟨1, (List Int), cRef (cArr 32 (cInt .u8)), x0⟩] := S702
    clear S702
    refine wp_seq_k (fun K478 hK478 => ?_)
    refine wp_seq_k (fun K479 hK479 => ?_)
    refine wp_region_lit ?_
    refine op_move S474 rfl (S474.at 0 rfl) (fun a480 S481 => ?_)
    clear S474 a475
    refine op_lss S481 rfl (S481.int 0 rfl) rfl (fun a482 S483 => ?_)
    clear S481 a480
    refine wpList_nil ?_
    refine hK479 _ _ ?_
    clear hK479 K479
    rcases cond_some hr477 with ⟨b484, hr485⟩ | ⟨b484, hr486⟩
    · clear hr477
      refine c_true (S483.bool 0 rfl) b484 ?_
      refine wp_skip ?_
      refine hK478 _ _ ?_
      clear hK478 K478
      refine wp_seq_k (fun K487 hK487 => ?_)
      refine wp_block ?_
      obtain ⟨g494, hr495⟩ := guard_some hr485
      clear hr485
      obtain ⟨g502, hr503⟩ := guard_some hr495
      clear hr495
      obtain ⟨g510, hr511⟩ := guard_some hr503
      clear hr503
      obtain ⟨g518, hr519⟩ := guard_some hr511
      clear hr511
      refine wp_drawn follows_mixed [[], [], [], [2], [2, 3], [2, 3, 4], [1, 2, 3, 4, 5], [], [], [8], [8, 9], [8, 9, 10], [7, 8, 9, 10, 11], [1, 2, 3, 4, 5, 6, 7, 8, 9, 10, 11, 12], [1, 2, 3, 4, 5, 6, 7, 8, 9, 10, 11, 12, 13], [0, 1, 2, 3, 4, 5, 6, 7, 8, 9, 10, 11, 12, 13, 14], [0, 1, 2, 3, 4, 5, 6, 7, 8, 9, 10, 11, 12, 13, 14, 15]] [none, none, none, none, none, none, none, none, none, none, none, none, none, none, none] 15 rfl rfl 0 rfl (fun i p => List.getD [[⟨10, (List UInt8), cStr, s18⟩], [⟨11, (List UInt8), cStr, ([48, 49, 50, 51, 52, 53, 54, 55, 56, 57, 97, 98, 99, 100, 101, 102] : List UInt8)⟩], [⟨12, Int, (cInt .i64), s17⟩], [⟨13, Int, cRef (cInt .u8), x0.getD (s17 : Int).toNat 0⟩], [⟨14, Int, (cInt .u8), x0.getD (s17 : Int).toNat 0⟩], [⟨15, Int, (cInt .u8), IntKind.wrap .u8 (Int.tdiv (x0.getD (s17 : Int).toNat 0) 16)⟩], [⟨16, Int, (cInt .u8), ((([48, 49, 50, 51, 52, 53, 54, 55, 56, 57, 97, 98, 99, 100, 101, 102] : List UInt8).getD ((IntKind.wrap .u8 (Int.tdiv (x0.getD (s17 : Int).toNat 0) 16)) : Int).toNat 0).toNat : Int)⟩], [⟨17, (List UInt8), cStr, ([48, 49, 50, 51, 52, 53, 54, 55, 56, 57, 97, 98, 99, 100, 101, 102] : List UInt8)⟩], [⟨18, Int, (cInt .i64), s17⟩], [⟨19, Int, cRef (cInt .u8), x0.getD (s17 : Int).toNat 0⟩], [⟨20, Int, (cInt .u8), x0.getD (s17 : Int).toNat 0⟩], [⟨21, Int, (cInt .u8), Int.tmod (x0.getD (s17 : Int).toNat 0) 16⟩], [⟨22, Int, (cInt .u8), ((([48, 49, 50, 51, 52, 53, 54, 55, 56, 57, 97, 98, 99, 100, 101, 102] : List UInt8).getD ((Int.tmod (x0.getD (s17 : Int).toNat 0) 16) : Int).toNat 0).toNat : Int)⟩], [⟨23, (List Int), (cSlice (cInt .u8)), [((([48, 49, 50, 51, 52, 53, 54, 55, 56, 57, 97, 98, 99, 100, 101, 102] : List UInt8).getD ((IntKind.wrap .u8 (Int.tdiv (x0.getD (s17 : Int).toNat 0) 16)) : Int).toNat 0).toNat : Int), ((([48, 49, 50, 51, 52, 53, 54, 55, 56, 57, 97, 98, 99, 100, 101, 102] : List UInt8).getD ((Int.tmod (x0.getD (s17 : Int).toNat 0) 16) : Int).toNat 0).toNat : Int)]⟩], [⟨24, (List UInt8), cStr, bytesOf [((([48, 49, 50, 51, 52, 53, 54, 55, 56, 57, 97, 98, 99, 100, 101, 102] : List UInt8).getD ((IntKind.wrap .u8 (Int.tdiv (x0.getD (s17 : Int).toNat 0) 16)) : Int).toNat 0).toNat : Int), ((([48, 49, 50, 51, 52, 53, 54, 55, 56, 57, 97, 98, 99, 100, 101, 102] : List UInt8).getD ((Int.tmod (x0.getD (s17 : Int).toNat 0) 16) : Int).toNat 0).toNat : Int)]⟩]] i []) (fun _ _ _ => []) (fun _ => (0, undef)) S483 rfl (fun _ => rfl) (Obs.cons ?_ (Obs.cons ?_ (Obs.cons ?_ (Obs.cons ?_ (Obs.cons ?_ (Obs.cons ?_ (Obs.cons ?_ (Obs.cons ?_ (Obs.cons ?_ (Obs.cons ?_ (Obs.cons ?_ (Obs.cons ?_ (Obs.cons ?_ (Obs.cons ?_ (Obs.cons ?_ Obs.nil))))))))))))))) ?_
      · intro f534 X527 Y528 a530 w531 hX529 S532
        have S533 : St 27 (fun _ => False) D w a530 w531 ([] ++ Y528) ([⟨7, Bool, cBool, decide (s17 < 4)⟩, ⟨6, Int, (cInt .i64), s17⟩, ⟨5, Int, (cInt .i64), s17⟩, ⟨4, (List UInt8), cStr, s18⟩, ⟨3, (List UInt8), cStr, ([48, 49, 50, 51, 52, 53, 54, 55, 56, 57, 97, 98, 99, 100, 101, 102] : List UInt8)⟩, ⟨1, (List Int), cRef (cArr 32 (cInt .u8)), x0⟩] ++ X527) := S532
        clear S532
        refine op_move S533 (okX rfl (hX529 _ rfl)) (S533.at 3 rfl) (fun a535 S536 => ?_)
        clear S533 a530
        exact wpList_nil ⟨rfl, (0, undef), S536⟩
      · intro f544 X537 Y538 a540 w541 hX539 S542
        have S543 : St 27 (fun _ => False) D w a540 w541 ([] ++ Y538) ([⟨7, Bool, cBool, decide (s17 < 4)⟩, ⟨6, Int, (cInt .i64), s17⟩, ⟨5, Int, (cInt .i64), s17⟩, ⟨4, (List UInt8), cStr, s18⟩, ⟨3, (List UInt8), cStr, ([48, 49, 50, 51, 52, 53, 54, 55, 56, 57, 97, 98, 99, 100, 101, 102] : List UInt8)⟩, ⟨1, (List Int), cRef (cArr 32 (cInt .u8)), x0⟩] ++ X537) := S542
        clear S542
        refine op_move S543 (okX rfl (hX539 _ rfl)) (S543.at 4 rfl) (fun a545 S546 => ?_)
        clear S543 a540
        exact wpList_nil ⟨rfl, (0, undef), S546⟩
      · intro f554 X547 Y548 a550 w551 hX549 S552
        have S553 : St 27 (fun _ => False) D w a550 w551 ([] ++ Y548) ([⟨7, Bool, cBool, decide (s17 < 4)⟩, ⟨6, Int, (cInt .i64), s17⟩, ⟨5, Int, (cInt .i64), s17⟩, ⟨4, (List UInt8), cStr, s18⟩, ⟨3, (List UInt8), cStr, ([48, 49, 50, 51, 52, 53, 54, 55, 56, 57, 97, 98, 99, 100, 101, 102] : List UInt8)⟩, ⟨1, (List Int), cRef (cArr 32 (cInt .u8)), x0⟩] ++ X547) := S552
        clear S552
        refine op_move S553 (okX rfl (hX549 _ rfl)) (S553.at 2 rfl) (fun a555 S556 => ?_)
        clear S553 a550
        exact wpList_nil ⟨rfl, (0, undef), S556⟩
      · intro f564 X557 Y558 a560 w561 hX559 S562
        have S563 : St 27 (fun _ => False) D w a560 w561 ([] ++ Y558) ([⟨12, Int, (cInt .i64), s17⟩, ⟨7, Bool, cBool, decide (s17 < 4)⟩, ⟨6, Int, (cInt .i64), s17⟩, ⟨5, Int, (cInt .i64), s17⟩, ⟨4, (List UInt8), cStr, s18⟩, ⟨3, (List UInt8), cStr, ([48, 49, 50, 51, 52, 53, 54, 55, 56, 57, 97, 98, 99, 100, 101, 102] : List UInt8)⟩, ⟨1, (List Int), cRef (cArr 32 (cInt .u8)), x0⟩] ++ X557) := S562
        clear S562
        refine op_indexAddrr (z0 := 0) S563 (okX rfl (hX559 _ rfl)) (S563.at 6 rfl) (S563.int 0 rfl) g494 Tryd.underlying28 Tryd.sizeOf5 (fun a565 S566 => ?_)
        clear S563 a560
        exact wpList_nil ⟨rfl, (0, undef), S566⟩
      · intro f574 X567 Y568 a570 w571 hX569 S572
        have S573 : St 27 (fun _ => False) D w a570 w571 ([] ++ Y568) ([⟨12, Int, (cInt .i64), s17⟩, ⟨13, Int, cRef (cInt .u8), x0.getD (s17 : Int).toNat 0⟩, ⟨7, Bool, cBool, decide (s17 < 4)⟩, ⟨6, Int, (cInt .i64), s17⟩, ⟨5, Int, (cInt .i64), s17⟩, ⟨4, (List UInt8), cStr, s18⟩, ⟨3, (List UInt8), cStr, ([48, 49, 50, 51, 52, 53, 54, 55, 56, 57, 97, 98, 99, 100, 101, 102] : List UInt8)⟩, ⟨1, (List Int), cRef (cArr 32 (cInt .u8)), x0⟩] ++ X567) := S572
        clear S572
        refine op_loadr S573 (okX rfl (hX569 _ rfl)) (S573.at 1 rfl) Tryd.isAgg5 Tryd.sizeOf5 (fun a575 S576 => ?_)
        clear S573 a570
        exact wpList_nil ⟨rfl, (0, undef), S576⟩
      · intro f584 X577 Y578 a580 w581 hX579 S582
        have S583 : St 27 (fun _ => False) D w a580 w581 ([] ++ Y578) ([⟨12, Int, (cInt .i64), s17⟩, ⟨13, Int, cRef (cInt .u8), x0.getD (s17 : Int).toNat 0⟩, ⟨14, Int, (cInt .u8), x0.getD (s17 : Int).toNat 0⟩, ⟨7, Bool, cBool, decide (s17 < 4)⟩, ⟨6, Int, (cInt .i64), s17⟩, ⟨5, Int, (cInt .i64), s17⟩, ⟨4, (List UInt8), cStr, s18⟩, ⟨3, (List UInt8), cStr, ([48, 49, 50, 51, 52, 53, 54, 55, 56, 57, 97, 98, 99, 100, 101, 102] : List UInt8)⟩, ⟨1, (List Int), cRef (cArr 32 (cInt .u8)), x0⟩] ++ X577) := S582
        clear S582
        refine op_quo S583 (okX rfl (hX579 _ rfl)) (S583.int 2 rfl) rfl (by decide) (fun a585 S586 => ?_)
        clear S583 a580
        exact wpList_nil ⟨rfl, (0, undef), S586⟩
      · intro f594 X587 Y588 a590 w591 hX589 S592
        have S593 : St 27 (fun _ => False) D w a590 w591 ([] ++ Y588) ([⟨11, (List UInt8), cStr, ([48, 49, 50, 51, 52, 53, 54, 55, 56, 57, 97, 98, 99, 100, 101, 102] : List UInt8)⟩, ⟨12, Int, (cInt .i64), s17⟩, ⟨13, Int, cRef (cInt .u8), x0.getD (s17 : Int).toNat 0⟩, ⟨14, Int, (cInt .u8), x0.getD (s17 : Int).toNat 0⟩, ⟨15, Int, (cInt .u8), IntKind.wrap .u8 (Int.tdiv (x0.getD (s17 : Int).toNat 0) 16)⟩, ⟨7, Bool, cBool, decide (s17 < 4)⟩, ⟨6, Int, (cInt .i64), s17⟩, ⟨5, Int, (cInt .i64), s17⟩, ⟨4, (List UInt8), cStr, s18⟩, ⟨3, (List UInt8), cStr, ([48, 49, 50, 51, 52, 53, 54, 55, 56, 57, 97, 98, 99, 100, 101, 102] : List UInt8)⟩, ⟨1, (List Int), cRef (cArr 32 (cInt .u8)), x0⟩] ++ X587) := S592
        clear S592
        refine op_sidx S593 (okX rfl (hX589 _ rfl)) Tryd.underlying9 (S593.str 0 rfl) (S593.int 4 rfl) g502 (fun a595 S596 => ?_)
        clear S593 a590
        exact wpList_nil ⟨rfl, (0, undef), S596⟩
      · intro f604 X597 Y598 a600 w601 hX599 S602
        have S603 : St 27 (fun _ => False) D w a600 w601 ([] ++ Y598) ([⟨7, Bool, cBool, decide (s17 < 4)⟩, ⟨6, Int, (cInt .i64), s17⟩, ⟨5, Int, (cInt .i64), s17⟩, ⟨4, (List UInt8), cStr, s18⟩, ⟨3, (List UInt8), cStr, ([48, 49, 50, 51, 52, 53, 54, 55, 56, 57, 97, 98, 99, 100, 101, 102] : List UInt8)⟩, ⟨1, (List Int), cRef (cArr 32 (cInt .u8)), x0⟩] ++ X597) := S602
        clear S602
        refine op_move S603 (okX rfl (hX599 _ rfl)) (S603.at 4 rfl) (fun a605 S606 => ?_)
        clear S603 a600
        exact wpList_nil ⟨rfl, (0, undef), S606⟩
      · intro f614 X607 Y608 a610 w611 hX609 S612
        have S613 : St 27 (fun _ => False) D w a610 w611 ([] ++ Y608) ([⟨7, Bool, cBool, decide (s17 < 4)⟩, ⟨6, Int, (cInt .i64), s17⟩, ⟨5, Int, (cInt .i64), s17⟩, ⟨4, (List UInt8), cStr, s18⟩, ⟨3, (List UInt8), cStr, ([48, 49, 50, 51, 52, 53, 54, 55, 56, 57, 97, 98, 99, 100, 101, 102] : List UInt8)⟩, ⟨1, (List Int), cRef (cArr 32 (cInt .u8)), x0⟩] ++ X607) := S612
        clear S612
        refine op_move S613 (okX rfl (hX609 _ rfl)) (S613.at 2 rfl) (fun a615 S616 => ?_)
        clear S613 a610
        exact wpList_nil ⟨rfl, (0, undef), S616⟩
      · intro f624 X617 Y618 a620 w621 hX619 S622
        have S623 : St 27 (fun _ => False) D w a620 w621 ([] ++ Y618) ([⟨18, Int, (cInt .i64), s17⟩, ⟨7, Bool, cBool, decide (s17 < 4)⟩, ⟨6, Int, (cInt .i64), s17⟩, ⟨5, Int, (cInt .i64), s17⟩, ⟨4, (List UInt8), cStr, s18⟩, ⟨3, (List UInt8), cStr, ([48, 49, 50, 51, 52, 53, 54, 55, 56, 57, 97, 98, 99, 100, 101, 102] : List UInt8)⟩, ⟨1, (List Int), cRef (cArr 32 (cInt .u8)), x0⟩] ++ X617) := S622
        clear S622
        refine op_indexAddrr (z0 := 0) S623 (okX rfl (hX619 _ rfl)) (S623.at 6 rfl) (S623.int 0 rfl) g510 Tryd.underlying28 Tryd.sizeOf5 (fun a625 S626 => ?_)
        clear S623 a620
        exact wpList_nil ⟨rfl, (0, undef), S626⟩
      · intro f634 X627 Y628 a630 w631 hX629 S632
        have S633 : St 27 (fun _ => False) D w a630 w631 ([] ++ Y628) ([⟨18, Int, (cInt .i64), s17⟩, ⟨19, Int, cRef (cInt .u8), x0.getD (s17 : Int).toNat 0⟩, ⟨7, Bool, cBool, decide (s17 < 4)⟩, ⟨6, Int, (cInt .i64), s17⟩, ⟨5, Int, (cInt .i64), s17⟩, ⟨4, (List UInt8), cStr, s18⟩, ⟨3, (List UInt8), cStr, ([48, 49, 50, 51, 52, 53, 54, 55, 56, 57, 97, 98, 99, 100, 101, 102] : List UInt8)⟩, ⟨1, (List Int), cRef (cArr 32 (cInt .u8)), x0⟩] ++ X627) := S632
        clear S632
        refine op_loadr S633 (okX rfl (hX629 _ rfl)) (S633.at 1 rfl) Tryd.isAgg5 Tryd.sizeOf5 (fun a635 S636 => ?_)
        clear S633 a630
        exact wpList_nil ⟨rfl, (0, undef), S636⟩
      · intro f644 X637 Y638 a640 w641 hX639 S642
        have S643 : St 27 (fun _ => False) D w a640 w641 ([] ++ Y638) ([⟨18, Int, (cInt .i64), s17⟩, ⟨19, Int, cRef (cInt .u8), x0.getD (s17 : Int).toNat 0⟩, ⟨20, Int, (cInt .u8), x0.getD (s17 : Int).toNat 0⟩, ⟨7, Bool, cBool, decide (s17 < 4)⟩, ⟨6, Int, (cInt .i64), s17⟩, ⟨5, Int, (cInt .i64), s17⟩, ⟨4, (List UInt8), cStr, s18⟩, ⟨3, (List UInt8), cStr, ([48, 49, 50, 51, 52, 53, 54, 55, 56, 57, 97, 98, 99, 100, 101, 102] : List UInt8)⟩, ⟨1, (List Int), cRef (cArr 32 (cInt .u8)), x0⟩] ++ X637) := S642
        clear S642
        refine op_rem S643 (okX rfl (hX639 _ rfl)) (S643.int 2 rfl) rfl (by decide) (fun a645 S646 => ?_)
        clear S643 a640
        exact wpList_nil ⟨rfl, (0, undef), S646⟩
      · intro f654 X647 Y648 a650 w651 hX649 S652
        have S653 : St 27 (fun _ => False) D w a650 w651 ([] ++ Y648) ([⟨17, (List UInt8), cStr, ([48, 49, 50, 51, 52, 53, 54, 55, 56, 57, 97, 98, 99, 100, 101, 102] : List UInt8)⟩, ⟨18, Int, (cInt .i64), s17⟩, ⟨19, Int, cRef (cInt .u8), x0.getD (s17 : Int).toNat 0⟩, ⟨20, Int, (cInt .u8), x0.getD (s17 : Int).toNat 0⟩, ⟨21, Int, (cInt .u8), Int.tmod (x0.getD (s17 : Int).toNat 0) 16⟩, ⟨7, Bool, cBool, decide (s17 < 4)⟩, ⟨6, Int, (cInt .i64), s17⟩, ⟨5, Int, (cInt .i64), s17⟩, ⟨4, (List UInt8), cStr, s18⟩, ⟨3, (List UInt8), cStr, ([48, 49, 50, 51, 52, 53, 54, 55, 56, 57, 97, 98, 99, 100, 101, 102] : List UInt8)⟩, ⟨1, (List Int), cRef (cArr 32 (cInt .u8)), x0⟩] ++ X647) := S652
        clear S652
        refine op_sidx S653 (okX rfl (hX649 _ rfl)) Tryd.underlying9 (S653.str 0 rfl) (S653.int 4 rfl) g518 (fun a655 S656 => ?_)
        clear S653 a650
        exact wpList_nil ⟨rfl, (0, undef), S656⟩
      · intro f664 X657 Y658 a660 w661 hX659 S662
        have S663 : St 27 (fun _ => False) D w a660 w661 ([] ++ Y658) ([⟨11, (List UInt8), cStr, ([48, 49, 50, 51, 52, 53, 54, 55, 56, 57, 97, 98, 99, 100, 101, 102] : List UInt8)⟩, ⟨12, Int, (cInt .i64), s17⟩, ⟨13, Int, cRef (cInt .u8), x0.getD (s17 : Int).toNat 0⟩, ⟨14, Int, (cInt .u8), x0.getD (s17 : Int).toNat 0⟩, ⟨15, Int, (cInt .u8), IntKind.wrap .u8 (Int.tdiv (x0.getD (s17 : Int).toNat 0) 16)⟩, ⟨16, Int, (cInt .u8), ((([48, 49, 50, 51, 52, 53, 54, 55, 56, 57, 97, 98, 99, 100, 101, 102] : List UInt8).getD ((IntKind.wrap .u8 (Int.tdiv (x0.getD (s17 : Int).toNat 0) 16)) : Int).toNat 0).toNat : Int)⟩, ⟨17, (List UInt8), cStr, ([48, 49, 50, 51, 52, 53, 54, 55, 56, 57, 97, 98, 99, 100, 101, 102] : List UInt8)⟩, ⟨18, Int, (cInt .i64), s17⟩, ⟨19, Int, cRef (cInt .u8), x0.getD (s17 : Int).toNat 0⟩, ⟨20, Int, (cInt .u8), x0.getD (s17 : Int).toNat 0⟩, ⟨21, Int, (cInt .u8), Int.tmod (x0.getD (s17 : Int).toNat 0) 16⟩, ⟨22, Int, (cInt .u8), ((([48, 49, 50, 51, 52, 53, 54, 55, 56, 57, 97, 98, 99, 100, 101, 102] : List UInt8).getD ((Int.tmod (x0.getD (s17 : Int).toNat 0) 16) : Int).toNat 0).toNat : Int)⟩, ⟨7, Bool, cBool, decide (s17 < 4)⟩, ⟨6, Int, (cInt .i64), s17⟩, ⟨5, Int, (cInt .i64), s17⟩, ⟨4, (List UInt8), cStr, s18⟩, ⟨3, (List UInt8), cStr, ([48, 49, 50, 51, 52, 53, 54, 55, 56, 57, 97, 98, 99, 100, 101, 102] : List UInt8)⟩, ⟨1, (List Int), cRef (cArr 32 (cInt .u8)), x0⟩] ++ X657) := S662
        clear S662
        refine op_lit S663 (okX rfl (hX659 _ rfl)) (cInt_flat _) Tryd.underlying54 Tryd.sizeOf5 Tryd.zeroValue5 rfl rfl rfl (.cons (S663.at 5 rfl) (.cons (S663.at 11 rfl) (.nil _))) (fun a665 w667 S666 => ?_)
        clear S663 a660 w661
        exact wpList_nil ⟨rfl, (0, undef), S666⟩
      · intro f675 X668 Y669 a671 w672 hX670 S673
        have S674 : St 27 (fun _ => False) D w a671 w672 ([] ++ Y669) ([⟨11, (List UInt8), cStr, ([48, 49, 50, 51, 52, 53, 54, 55, 56, 57, 97, 98, 99, 100, 101, 102] : List UInt8)⟩, ⟨12, Int, (cInt .i64), s17⟩, ⟨13, Int, cRef (cInt .u8), x0.getD (s17 : Int).toNat 0⟩, ⟨14, Int, (cInt .u8), x0.getD (s17 : Int).toNat 0⟩, ⟨15, Int, (cInt .u8), IntKind.wrap .u8 (Int.tdiv (x0.getD (s17 : Int).toNat 0) 16)⟩, ⟨16, Int, (cInt .u8), ((([48, 49, 50, 51, 52, 53, 54, 55, 56, 57, 97, 98, 99, 100, 101, 102] : List UInt8).getD ((IntKind.wrap .u8 (Int.tdiv (x0.getD (s17 : Int).toNat 0) 16)) : Int).toNat 0).toNat : Int)⟩, ⟨17, (List UInt8), cStr, ([48, 49, 50, 51, 52, 53, 54, 55, 56, 57, 97, 98, 99, 100, 101, 102] : List UInt8)⟩, ⟨18, Int, (cInt .i64), s17⟩, ⟨19, Int, cRef (cInt .u8), x0.getD (s17 : Int).toNat 0⟩, ⟨20, Int, (cInt .u8), x0.getD (s17 : Int).toNat 0⟩, ⟨21, Int, (cInt .u8), Int.tmod (x0.getD (s17 : Int).toNat 0) 16⟩, ⟨22, Int, (cInt .u8), ((([48, 49, 50, 51, 52, 53, 54, 55, 56, 57, 97, 98, 99, 100, 101, 102] : List UInt8).getD ((Int.tmod (x0.getD (s17 : Int).toNat 0) 16) : Int).toNat 0).toNat : Int)⟩, ⟨23, (List Int), (cSlice (cInt .u8)), [((([48, 49, 50, 51, 52, 53, 54, 55, 56, 57, 97, 98, 99, 100, 101, 102] : List UInt8).getD ((IntKind.wrap .u8 (Int.tdiv (x0.getD (s17 : Int).toNat 0) 16)) : Int).toNat 0).toNat : Int), ((([48, 49, 50, 51, 52, 53, 54, 55, 56, 57, 97, 98, 99, 100, 101, 102] : List UInt8).getD ((Int.tmod (x0.getD (s17 : Int).toNat 0) 16) : Int).toNat 0).toNat : Int)]⟩, ⟨7, Bool, cBool, decide (s17 < 4)⟩, ⟨6, Int, (cInt .i64), s17⟩, ⟨5, Int, (cInt .i64), s17⟩, ⟨4, (List UInt8), cStr, s18⟩, ⟨3, (List UInt8), cStr, ([48, 49, 50, 51, 52, 53, 54, 55, 56, 57, 97, 98, 99, 100, 101, 102] : List UInt8)⟩, ⟨1, (List Int), cRef (cArr 32 (cInt .u8)), x0⟩] ++ X668) := S673
        clear S673
        refine op_bstr S674 (okX rfl (hX670 _ rfl)) Tryd.underlying54 Tryd.underlying5 Tryd.underlying9 (S674.at 12 rfl) (fun a676 S677 => ?_)
        clear S674 a671
        exact wpList_nil ⟨rfl, (0, undef), S677⟩
      · intro f682 a678 w679 _ S680
        have S681 : St 27 (fun _ => False) D w a678 w679 [] [⟨24, (List UInt8), cStr, bytesOf [((([48, 49, 50, 51, 52, 53, 54, 55, 56, 57, 97, 98, 99, 100, 101, 102] : List UInt8).getD ((IntKind.wrap .u8 (Int.tdiv (x0.getD (s17 : Int).toNat 0) 16)) : Int).toNat 0).toNat : Int), ((([48, 49, 50, 51, 52, 53, 54, 55, 56, 57, 97, 98, 99, 100, 101, 102] : List UInt8).getD ((Int.tmod (x0.getD (s17 : Int).toNat 0) 16) : Int).toNat 0).toNat : Int)]⟩, ⟨23, (List Int), (cSlice (cInt .u8)), [((([48, 49, 50, 51, 52, 53, 54, 55, 56, 57, 97, 98, 99, 100, 101, 102] : List UInt8).getD ((IntKind.wrap .u8 (Int.tdiv (x0.getD (s17 : Int).toNat 0) 16)) : Int).toNat 0).toNat : Int), ((([48, 49, 50, 51, 52, 53, 54, 55, 56, 57, 97, 98, 99, 100, 101, 102] : List UInt8).getD ((Int.tmod (x0.getD (s17 : Int).toNat 0) 16) : Int).toNat 0).toNat : Int)]⟩, ⟨22, Int, (cInt .u8), ((([48, 49, 50, 51, 52, 53, 54, 55, 56, 57, 97, 98, 99, 100, 101, 102] : List UInt8).getD ((Int.tmod (x0.getD (s17 : Int).toNat 0) 16) : Int).toNat 0).toNat : Int)⟩, ⟨21, Int, (cInt .u8), Int.tmod (x0.getD (s17 : Int).toNat 0) 16⟩, ⟨20, Int, (cInt .u8), x0.getD (s17 : Int).toNat 0⟩, ⟨19, Int, cRef (cInt .u8), x0.getD (s17 : Int).toNat 0⟩, ⟨18, Int, (cInt .i64), s17⟩, ⟨17, (List UInt8), cStr, ([48, 49, 50, 51, 52, 53, 54, 55, 56, 57, 97, 98, 99, 100, 101, 102] : List UInt8)⟩, ⟨16, Int, (cInt .u8), ((([48, 49, 50, 51, 52, 53, 54, 55, 56, 57, 97, 98, 99, 100, 101, 102] : List UInt8).getD ((IntKind.wrap .u8 (Int.tdiv (x0.getD (s17 : Int).toNat 0) 16)) : Int).toNat 0).toNat : Int)⟩, ⟨15, Int, (cInt .u8), IntKind.wrap .u8 (Int.tdiv (x0.getD (s17 : Int).toNat 0) 16)⟩, ⟨14, Int, (cInt .u8), x0.getD (s17 : Int).toNat 0⟩, ⟨13, Int, cRef (cInt .u8), x0.getD (s17 : Int).toNat 0⟩, ⟨12, Int, (cInt .i64), s17⟩, ⟨11, (List UInt8), cStr, ([48, 49, 50, 51, 52, 53, 54, 55, 56, 57, 97, 98, 99, 100, 101, 102] : List UInt8)⟩, ⟨10, (List UInt8), cStr, s18⟩, ⟨7, Bool, cBool, decide (s17 < 4)⟩, ⟨6, Int, (cInt .i64), s17⟩, ⟨5, Int, (cInt .i64), s17⟩, ⟨4, (List UInt8), cStr, s18⟩, ⟨3, (List UInt8), cStr, ([48, 49, 50, 51, 52, 53, 54, 55, 56, 57, 97, 98, 99, 100, 101, 102] : List UInt8)⟩, ⟨1, (List Int), cRef (cArr 32 (cInt .u8)), x0⟩] := S680
        clear S680 S483
        obtain ⟨g683, hr684⟩ := guard_some hr519
        clear hr519
        refine op_cat S681 rfl (S681.str 14 rfl) (S681.str 0 rfl) g683 (fun a685 S686 => ?_)
        clear S681 a678
        have S687 := S686.erase 19
        clear S686
        refine op_assign S687 rfl (S687.at 0 rfl) (fun a688 S689 => ?_)
        clear S687 a685
        refine wpList_nil ?_
        refine hK487 _ _ ?_
        clear hK487 K487
        refine wp_region_lit ?_
        refine op_move S689 rfl (S689.at 19 rfl) (fun a690 S691 => ?_)
        clear S689 a688
        refine op_add S691 rfl (S691.int 0 rfl) rfl (fun a692 S693 => ?_)
        clear S691 a690
        have S694 := S693.erase 21
        clear S693
        refine op_assign S694 rfl (S694.at 0 rfl) (fun a695 S696 => ?_)
        clear S694 a692
        refine wpList_nil ?_
        have S697 := S696.pick [0, 3, 22, 23]
        clear S696
        cases hr684
        exact ⟨rfl, S697⟩
    · clear hr477
      refine c_false (S483.bool 0 rfl) b484 ?_
      refine wp_exit ?_
      have S698 := S483.pick [3]
      clear S483
      cases hr486
      intro h699
      refine ⟨(by intro h; cases h), ?_⟩
      exact X467 s18 _ _ S698 (by subst h699; exact h460)
  · exact S701
/-- tollhouse/tollhouseref31.Int -/
noncomputable def tollhouseref31_Int (x0 : Int) : Option (List UInt8) :=
  (if decide (x0 < 0) then ((tollhouseref31_Num (IntKind.wrap .u64 ((IntKind.wrap .u64 (IntKind.wrap .i64 (-(IntKind.wrap .i64 (x0 + 1))))) + 1))).bind fun y24 => (if ([45] : List UInt8).length + y24.length ≤ 9223372036854775807 then some (([45] : List UInt8) ++ y24) else none)) else ((tollhouseref31_Num (IntKind.wrap .u64 x0)).bind fun y42 => some y42))
set_option maxRecDepth 100000 in
set_option maxHeartbeats 8000000 in
theorem tollhouseref31_Int_ok {D : Dirty} {w : World} {v0 : Value} {x0 : Int} {r : (List UInt8)} (h0 : (cInt .i64).val D w v0 x0) (hD : ∀ k, D k → k < w.heap.size) (hr : tollhouseref31_Int x0 = some r) :
    Calls Tryd.prog 48 [v0].toArray w (Ret cStr D w r) := by
  refine calls_start (n := 15) Tryd.func48 rfl rfl ?_
  have S := St.start (w := w) (args := [v0].toArray) 15 rfl hD
  replace S := S.arg 0 rfl (val_dirt0 h0)
  unfold tollhouseref31_Int at hr
  refine wp_seq_k (fun K1 hK1 => ?_)
  refine wp_region_lit ?_
  refine op_assign S rfl (cPlain_mk (f := strV) ([] : List UInt8)) (fun a2 S3 => ?_)
  clear S
  refine wpList_nil ?_
  refine hK1 _ _ ?_
  clear hK1 K1
  refine wp_seq_k (fun K4 hK4 => ?_)
  refine wp_seq_k (fun K5 hK5 => ?_)
  refine wp_region_lit ?_
  refine op_move S3 rfl (S3.at 1 rfl) (fun a6 S7 => ?_)
  clear S3 a2
  refine op_lss S7 rfl (S7.int 0 rfl) rfl (fun a8 S9 => ?_)
  clear S7 a6
  refine wpList_nil ?_
  refine hK5 _ _ ?_
  clear hK5 K5
  rcases cond_some hr with ⟨b10, hr11⟩ | ⟨b10, hr12⟩
  · clear hr
    refine c_true (S9.bool 0 rfl) b10 ?_
    refine wp_seq_k (fun K13 hK13 => ?_)
    refine wp_region_lit ?_
    refine op_move S9 rfl (S9.at 3 rfl) (fun a14 S15 => ?_)
    clear S9 a8
    refine op_add S15 rfl (S15.int 0 rfl) rfl (fun a16 S17 => ?_)
    clear S15 a14
    refine op_neg S17 rfl (S17.int 0 rfl) (fun a18 S19 => ?_)
    clear S17 a16
    refine op_conv S19 rfl Tryd.underlying3 Tryd.underlying23 (S19.int 0 rfl) (fun a20 S21 => ?_)
    clear S19 a18
    refine op_add S21 rfl (S21.int 0 rfl) rfl (fun a22 S23 => ?_)
    clear S21 a20
    obtain ⟨y24, h25, hr26⟩ := bind_some hr11
    clear hr11
    refine op_call S23 rfl Tryd.call43 (tollhouseref31_Num_ok (S23.at 0 rfl) S23.dirty_lt h25) (fun a27 w29 S28 => ?_)
    clear S23 a22
    obtain ⟨g30, hr31⟩ := guard_some hr26
    clear hr26
    refine op_cat S28 rfl rfl (S28.str 0 rfl) g30 (fun a32 S33 => ?_)
    clear S28 a27
    have S34 := S33.erase 9
    clear S33
    refine op_assign S34 rfl (S34.at 0 rfl) (fun a35 S36 => ?_)
    clear S34 a32
    refine wpList_nil ?_
    refine hK13 _ _ ?_
    clear hK13 K13
    refine wp_ret ?_
    cases hr31
    exact ret1 S36 rfl 0 rfl
  · clear hr
    refine c_false (S9.bool 0 rfl) b10 ?_
    refine wp_skip ?_
    refine hK4 _ _ ?_
    clear hK4 K4
    refine wp_seq_k (fun K37 hK37 => ?_)
    refine wp_region_lit ?_
    refine op_move S9 rfl (S9.at 3 rfl) (fun a38 S39 => ?_)
    clear S9 a8
    refine op_conv S39 rfl Tryd.underlying3 Tryd.underlying23 (S39.int 0 rfl) (fun a40 S41 => ?_)
    clear S39 a38
    obtain ⟨y42, h43, hr44⟩ := bind_some hr12
    clear hr12
    refine op_call S41 rfl Tryd.call43 (tollhouseref31_Num_ok (S41.at 0 rfl) S41.dirty_lt h43) (fun a45 w47 S46 => ?_)
    clear S41 a40
    have S48 := S46.erase 5
    clear S46
    refine op_assign S48 rfl (S48.at 0 rfl) (fun a49 S50 => ?_)
    clear S48 a45
    refine wpList_nil ?_
    refine hK37 _ _ ?_
    clear hK37 K37
    refine wp_ret ?_
    cases hr44
    exact ret1 S50 rfl 0 rfl
/-- tollhouse/tollhouseref31.Payment -/
noncomputable def tollhouseref31_Payment (x0 : S_tollhouseref10_Cond) : Option (List UInt8) :=
  ((tollhouseref31_Num x0.Id).bind fun y12 => (if ([112, 97, 121, 109, 101, 110, 116, 32] : List UInt8).length + y12.length ≤ 9223372036854775807 then (if (([112, 97, 121, 109, 101, 110, 116, 32] : List UInt8) ++ y12).length + ([32, 98, 121, 32] : List UInt8).length ≤ 9223372036854775807 then ((tollhouseref31_Int x0.By).bind fun y30 => (if ((([112, 97, 121, 109, 101, 110, 116, 32] : List UInt8) ++ y12) ++ ([32, 98, 121, 32] : List UInt8)).length + y30.length ≤ 9223372036854775807 then (if (((([112, 97, 121, 109, 101, 110, 116, 32] : List UInt8) ++ y12) ++ ([32, 98, 121, 32] : List UInt8)) ++ y30).length + ([32, 111, 102, 32] : List UInt8).length ≤ 9223372036854775807 then ((tollhouseref31_Num x0.Amount).bind fun y48 => (if ((((([112, 97, 121, 109, 101, 110, 116, 32] : List UInt8) ++ y12) ++ ([32, 98, 121, 32] : List UInt8)) ++ y30) ++ ([32, 111, 102, 32] : List UInt8)).length + y48.length ≤ 9223372036854775807 then (if (((((([112, 97, 121, 109, 101, 110, 116, 32] : List UInt8) ++ y12) ++ ([32, 98, 121, 32] : List UInt8)) ++ y30) ++ ([32, 111, 102, 32] : List UInt8)) ++ y48).length + ([32, 102, 111, 114, 32] : List UInt8).length ≤ 9223372036854775807 then ((tollhouseref31_Short x0.Hash).bind fun y66 => (if ((((((([112, 97, 121, 109, 101, 110, 116, 32] : List UInt8) ++ y12) ++ ([32, 98, 121, 32] : List UInt8)) ++ y30) ++ ([32, 111, 102, 32] : List UInt8)) ++ y48) ++ ([32, 102, 111, 114, 32] : List UInt8)).length + y66.length ≤ 9223372036854775807 then (if (((((((([112, 97, 121, 109, 101, 110, 116, 32] : List UInt8) ++ y12) ++ ([32, 98, 121, 32] : List UInt8)) ++ y30) ++ ([32, 111, 102, 32] : List UInt8)) ++ y48) ++ ([32, 102, 111, 114, 32] : List UInt8)) ++ y66).length + ([32, 117, 112, 32, 116, 111, 32] : List UInt8).length ≤ 9223372036854775807 then ((tollhouseref31_Num x0.Expiry).bind fun y84 => (if ((((((((([112, 97, 121, 109, 101, 110, 116, 32] : List UInt8) ++ y12) ++ ([32, 98, 121, 32] : List UInt8)) ++ y30) ++ ([32, 111, 102, 32] : List UInt8)) ++ y48) ++ ([32, 102, 111, 114, 32] : List UInt8)) ++ y66) ++ ([32, 117, 112, 32, 116, 111, 32] : List UInt8)).length + y84.length ≤ 9223372036854775807 then some (((((((((([112, 97, 121, 109, 101, 110, 116, 32] : List UInt8) ++ y12) ++ ([32, 98, 121, 32] : List UInt8)) ++ y30) ++ ([32, 111, 102, 32] : List UInt8)) ++ y48) ++ ([32, 102, 111, 114, 32] : List UInt8)) ++ y66) ++ ([32, 117, 112, 32, 116, 111, 32] : List UInt8)) ++ y84) else none)) else none) else none)) else none) else none)) else none) else none)) else none) else none))
set_option maxRecDepth 100000 in
set_option maxHeartbeats 8000000 in
theorem tollhouseref31_Payment_ok {D : Dirty} {w : World} {v0 : Value} {x0 : S_tollhouseref10_Cond} {r : (List UInt8)} (h0 : cS_tollhouseref10_Cond.val D w v0 x0) (hD : ∀ k, D k → k < w.heap.size) (hr : tollhouseref31_Payment x0 = some r) :
    Calls Tryd.prog 45 [v0].toArray w (Ret cStr D w r) := by
  refine calls_start (n := 27) Tryd.func45 rfl rfl ?_
  have S := St.start (w := w) (args := [v0].toArray) 27 rfl hD
  replace S := S.arg 0 rfl (val_dirt0 h0)
  unfold tollhouseref31_Payment at hr
  refine wp_seq_k (fun K1 hK1 => ?_)
  refine wp_region_lit ?_
  refine op_boxr S rfl (S.at 0 rfl) cS_tollhouseref10_Cond_flat (fun a2 w4 S3 => ?_)
  clear S
  refine op_assign S3 rfl (cPlain_mk (f := strV) ([] : List UInt8)) (fun a5 S6 => ?_)
  clear S3 a2
  refine wpList_nil ?_
  refine hK1 _ _ ?_
  clear hK1 K1
  refine wp_seq_k (fun K7 hK7 => ?_)
  obtain ⟨y12, h13, hr14⟩ := bind_some hr
  clear hr
  obtain ⟨g18, hr19⟩ := guard_some hr14
  clear hr14
  obtain ⟨g22, hr23⟩ := guard_some hr19
  clear hr19
  obtain ⟨y30, h31, hr32⟩ := bind_some hr23
  clear hr23
  obtain ⟨g36, hr37⟩ := guard_some hr32
  clear hr32
  obtain ⟨g40, hr41⟩ := guard_some hr37
  clear hr37
  obtain ⟨y48, h49, hr50⟩ := bind_some hr41
  clear hr41
  obtain ⟨g54, hr55⟩ := guard_some hr50
  clear hr50
  obtain ⟨g58, hr59⟩ := guard_some hr55
  clear hr55
  obtain ⟨y66, h67, hr68⟩ := bind_some hr59
  clear hr59
  obtain ⟨g72, hr73⟩ := guard_some hr68
  clear hr68
  obtain ⟨g76, hr77⟩ := guard_some hr73
  clear hr73
  obtain ⟨y84, h85, hr86⟩ := bind_some hr77
  clear hr77
  refine wp_drawn follows_mixed [[], [0], [0, 1], [0, 1, 2], [0, 1, 2, 3], [], [5], [0, 1, 2, 5, 6], [0, 1, 2, 3, 4, 5, 6, 7], [0, 1, 2, 3, 4, 5, 6, 7, 8], [], [10], [0, 1, 2, 5, 6, 7, 10, 11], [0, 1, 2, 3, 4, 5, 6, 7, 8, 9, 10, 11, 12], [0, 1, 2, 3, 4, 5, 6, 7, 8, 9, 10, 11, 12, 13], [], [15], [0, 1, 2, 5, 6, 7, 10, 11, 12, 15, 16], [0, 1, 2, 3, 4, 5, 6, 7, 8, 9, 10, 11, 12, 13, 14, 15, 16, 17], [0, 1, 2, 3, 4, 5, 6, 7, 8, 9, 10, 11, 12, 13, 14, 15, 16, 17, 18], [], [20], [0, 1, 2, 5, 6, 7, 10, 11, 12, 15, 16, 17, 20, 21], [0, 1, 2, 3, 4, 5, 6, 7, 8, 9, 10, 11, 12, 13, 14, 15, 16, 17, 18, 19, 20, 21, 22], [0, 1, 2, 3, 4, 5, 6, 7, 8, 9, 10, 11, 12, 13, 14, 15, 16, 17, 18, 19, 20, 21, 22, 23]] [none, none, none, none, none, none, none, none, none, none, none, none, none, none, none, none, none, none, none, none, none, none, none] 23 rfl rfl 0 rfl (fun i p => List.getD [[⟨3, Int, cRef (cInt .u64), x0.Id⟩], [⟨4, Int, (cInt .u64), x0.Id⟩], [⟨5, (List UInt8), cStr, y12⟩], [⟨6, (List UInt8), cStr, ([112, 97, 121, 109, 101, 110, 116, 32] : List UInt8) ++ y12⟩], [⟨7, (List UInt8), cStr, (([112, 97, 121, 109, 101, 110, 116, 32] : List UInt8) ++ y12) ++ ([32, 98, 121, 32] : List UInt8)⟩], [⟨8, Int, cRef (cInt .i64), x0.By⟩], [⟨9, Int, (cInt .i64), x0.By⟩], [⟨10, (List UInt8), cStr, y30⟩], [⟨11, (List UInt8), cStr, ((([112, 97, 121, 109, 101, 110, 116, 32] : List UInt8) ++ y12) ++ ([32, 98, 121, 32] : List UInt8)) ++ y30⟩], [⟨12, (List UInt8), cStr, (((([112, 97, 121, 109, 101, 110, 116, 32] : List UInt8) ++ y12) ++ ([32, 98, 121, 32] : List UInt8)) ++ y30) ++ ([32, 111, 102, 32] : List UInt8)⟩], [⟨13, Int, cRef (cInt .u64), x0.Amount⟩], [⟨14, Int, (cInt .u64), x0.Amount⟩], [⟨15, (List UInt8), cStr, y48⟩], [⟨16, (List UInt8), cStr, ((((([112, 97, 121, 109, 101, 110, 116, 32] : List UInt8) ++ y12) ++ ([32, 98, 121, 32] : List UInt8)) ++ y30) ++ ([32, 111, 102, 32] : List UInt8)) ++ y48⟩], [⟨17, (List UInt8), cStr, (((((([112, 97, 121, 109, 101, 110, 116, 32] : List UInt8) ++ y12) ++ ([32, 98, 121, 32] : List UInt8)) ++ y30) ++ ([32, 111, 102, 32] : List UInt8)) ++ y48) ++ ([32, 102, 111, 114, 32] : List UInt8)⟩], [⟨18, (List Int), cRef (cArr 32 (cInt .u8)), x0.Hash⟩], [⟨19, (List Int), (cArr 32 (cInt .u8)), x0.Hash⟩], [⟨20, (List UInt8), cStr, y66⟩], [⟨21, (List UInt8), cStr, ((((((([112, 97, 121, 109, 101, 110, 116, 32] : List UInt8) ++ y12) ++ ([32, 98, 121, 32] : List UInt8)) ++ y30) ++ ([32, 111, 102, 32] : List UInt8)) ++ y48) ++ ([32, 102, 111, 114, 32] : List UInt8)) ++ y66⟩], [⟨22, (List UInt8), cStr, (((((((([112, 97, 121, 109, 101, 110, 116, 32] : List UInt8) ++ y12) ++ ([32, 98, 121, 32] : List UInt8)) ++ y30) ++ ([32, 111, 102, 32] : List UInt8)) ++ y48) ++ ([32, 102, 111, 114, 32] : List UInt8)) ++ y66) ++ ([32, 117, 112, 32, 116, 111, 32] : List UInt8)⟩], [⟨23, Int, cRef (cInt .u64), x0.Expiry⟩], [⟨24, Int, (cInt .u64), x0.Expiry⟩], [⟨25, (List UInt8), cStr, y84⟩]] i []) (fun _ _ _ => []) (fun _ => (0, undef)) S6 rfl (fun _ => rfl) (Obs.cons ?_ (Obs.cons ?_ (Obs.cons ?_ (Obs.cons ?_ (Obs.cons ?_ (Obs.cons ?_ (Obs.cons ?_ (Obs.cons ?_ (Obs.cons ?_ (Obs.cons ?_ (Obs.cons ?_ (Obs.cons ?_ (Obs.cons ?_ (Obs.cons ?_ (Obs.cons ?_ (Obs.cons ?_ (Obs.cons ?_ (Obs.cons ?_ (Obs.cons ?_ (Obs.cons ?_ (Obs.cons ?_ (Obs.cons ?_ (Obs.cons ?_ Obs.nil))))))))))))))))))))))) ?_
  · intro f97 X90 Y91 a93 w94 hX92 S95
    have S96 : St 27 (fun _ => False) D w a93 w94 ([] ++ Y91) ([⟨2, (List UInt8), cStr, ([] : List UInt8)⟩, ⟨1, S_tollhouseref10_Cond, cRef cS_tollhouseref10_Cond, x0⟩, ⟨0, S_tollhouseref10_Cond, cS_tollhouseref10_Cond, x0⟩] ++ X90) := S95
    clear S95
    refine op_fieldAddrr S96 (okX rfl (hX92 _ rfl)) (S96.at 1 rfl) Tryd.underlying30 rfl Tryd.sizeOf23 rfl LS_tollhouseref10_Cond_Id rfl (fun a98 S99 => ?_)
    clear S96 a93
    exact wpList_nil ⟨rfl, (0, undef), S99⟩
  · intro f107 X100 Y101 a103 w104 hX102 S105
    have S106 : St 27 (fun _ => False) D w a103 w104 ([] ++ Y101) ([⟨3, Int, cRef (cInt .u64), x0.Id⟩, ⟨2, (List UInt8), cStr, ([] : List UInt8)⟩, ⟨1, S_tollhouseref10_Cond, cRef cS_tollhouseref10_Cond, x0⟩, ⟨0, S_tollhouseref10_Cond, cS_tollhouseref10_Cond, x0⟩] ++ X100) := S105
    clear S105
    refine op_loadr S106 (okX rfl (hX102 _ rfl)) (S106.at 0 rfl) Tryd.isAgg23 Tryd.sizeOf23 (fun a108 S109 => ?_)
    clear S106 a103
    exact wpList_nil ⟨rfl, (0, undef), S109⟩
  · intro f117 X110 Y111 a113 w114 hX112 S115
    have S116 : St 27 (fun _ => False) D w a113 w114 ([] ++ Y111) ([⟨3, Int, cRef (cInt .u64), x0.Id⟩, ⟨4, Int, (cInt .u64), x0.Id⟩, ⟨2, (List UInt8), cStr, ([] : List UInt8)⟩, ⟨1, S_tollhouseref10_Cond, cRef cS_tollhouseref10_Cond, x0⟩, ⟨0, S_tollhouseref10_Cond, cS_tollhouseref10_Cond, x0⟩] ++ X110) := S115
    clear S115
    refine op_call S116 (okX rfl (hX112 _ rfl)) Tryd.call43 (tollhouseref31_Num_ok (S116.at 1 rfl) S116.dirty_lt h13) (fun a118 w120 S119 => ?_)
    clear S116 a113 w114
    exact wpList_nil ⟨rfl, (0, undef), S119⟩
  · intro f128 X121 Y122 a124 w125 hX123 S126
    have S127 : St 27 (fun _ => False) D w a124 w125 ([] ++ Y122) ([⟨3, Int, cRef (cInt .u64), x0.Id⟩, ⟨4, Int, (cInt .u64), x0.Id⟩, ⟨5, (List UInt8), cStr, y12⟩, ⟨2, (List UInt8), cStr, ([] : List UInt8)⟩, ⟨1, S_tollhouseref10_Cond, cRef cS_tollhouseref10_Cond, x0⟩, ⟨0, S_tollhouseref10_Cond, cS_tollhouseref10_Cond, x0⟩] ++ X121) := S126
    clear S126
    refine op_cat S127 (okX rfl (hX123 _ rfl)) rfl (S127.str 2 rfl) g18 (fun a129 S130 => ?_)
    clear S127 a124
    exact wpList_nil ⟨rfl, (0, undef), S130⟩
  · intro f138 X131 Y132 a134 w135 hX133 S136
    have S137 : St 27 (fun _ => False) D w a134 w135 ([] ++ Y132) ([⟨3, Int, cRef (cInt .u64), x0.Id⟩, ⟨4, Int, (cInt .u64), x0.Id⟩, ⟨5, (List UInt8), cStr, y12⟩, ⟨6, (List UInt8), cStr, ([112, 97, 121, 109, 101, 110, 116, 32] : List UInt8) ++ y12⟩, ⟨2, (List UInt8), cStr, ([] : List UInt8)⟩, ⟨1, S_tollhouseref10_Cond, cRef cS_tollhouseref10_Cond, x0⟩, ⟨0, S_tollhouseref10_Cond, cS_tollhouseref10_Cond, x0⟩] ++ X131) := S136
    clear S136
    refine op_cat S137 (okX rfl (hX133 _ rfl)) (S137.str 3 rfl) rfl g22 (fun a139 S140 => ?_)
    clear S137 a134
    exact wpList_nil ⟨rfl, (0, undef), S140⟩
  · intro f148 X141 Y142 a144 w145 hX143 S146
    have S147 : St 27 (fun _ => False) D w a144 w145 ([] ++ Y142) ([⟨2, (List UInt8), cStr, ([] : List UInt8)⟩, ⟨1, S_tollhouseref10_Cond, cRef cS_tollhouseref10_Cond, x0⟩, ⟨0, S_tollhouseref10_Cond, cS_tollhouseref10_Cond, x0⟩] ++ X141) := S146
    clear S146
    refine op_fieldAddrr S147 (okX rfl (hX143 _ rfl)) (S147.at 1 rfl) Tryd.underlying30 rfl Tryd.sizeOf3 rfl LS_tollhouseref10_Cond_By rfl (fun a149 S150 => ?_)
    clear S147 a144
    exact wpList_nil ⟨rfl, (0, undef), S150⟩
  · intro f158 X151 Y152 a154 w155 hX153 S156
    have S157 : St 27 (fun _ => False) D w a154 w155 ([] ++ Y152) ([⟨8, Int, cRef (cInt .i64), x0.By⟩, ⟨2, (List UInt8), cStr, ([] : List UInt8)⟩, ⟨1, S_tollhouseref10_Cond, cRef cS_tollhouseref10_Cond, x0⟩, ⟨0, S_tollhouseref10_Cond, cS_tollhouseref10_Cond, x0⟩] ++ X151) := S156
    clear S156
    refine op_loadr S157 (okX rfl (hX153 _ rfl)) (S157.at 0 rfl) Tryd.isAgg3 Tryd.sizeOf3 (fun a159 S160 => ?_)
    clear S157 a154
    exact wpList_nil ⟨rfl, (0, undef), S160⟩
  · intro f168 X161 Y162 a164 w165 hX163 S166
    have S167 : St 27 (fun _ => False) D w a164 w165 ([] ++ Y162) ([⟨3, Int, cRef (cInt .u64), x0.Id⟩, ⟨4, Int, (cInt .u64), x0.Id⟩, ⟨5, (List UInt8), cStr, y12⟩, ⟨8, Int, cRef (cInt .i64), x0.By⟩, ⟨9, Int, (cInt .i64), x0.By⟩, ⟨2, (List UInt8), cStr, ([] : List UInt8)⟩, ⟨1, S_tollhouseref10_Cond, cRef cS_tollhouseref10_Cond, x0⟩, ⟨0, S_tollhouseref10_Cond, cS_tollhouseref10_Cond, x0⟩] ++ X161) := S166
    clear S166
    refine op_call S167 (okX rfl (hX163 _ rfl)) Tryd.call48 (tollhouseref31_Int_ok (S167.at 4 rfl) S167.dirty_lt h31) (fun a169 w171 S170 => ?_)
    clear S167 a164 w165
    exact wpList_nil ⟨rfl, (0, undef), S170⟩
  · intro f179 X172 Y173 a175 w176 hX174 S177
    have S178 : St 27 (fun _ => False) D w a175 w176 ([] ++ Y173) ([⟨3, Int, cRef (cInt .u64), x0.Id⟩, ⟨4, Int, (cInt .u64), x0.Id⟩, ⟨5, (List UInt8), cStr, y12⟩, ⟨6, (List UInt8), cStr, ([112, 97, 121, 109, 101, 110, 116, 32] : List UInt8) ++ y12⟩, ⟨7, (List UInt8), cStr, (([112, 97, 121, 109, 101, 110, 116, 32] : List UInt8) ++ y12) ++ ([32, 98, 121, 32] : List UInt8)⟩, ⟨8, Int, cRef (cInt .i64), x0.By⟩, ⟨9, Int, (cInt .i64), x0.By⟩, ⟨10, (List UInt8), cStr, y30⟩, ⟨2, (List UInt8), cStr, ([] : List UInt8)⟩, ⟨1, S_tollhouseref10_Cond, cRef cS_tollhouseref10_Cond, x0⟩, ⟨0, S_tollhouseref10_Cond, cS_tollhouseref10_Cond, x0⟩] ++ X172) := S177
    clear S177
    refine op_cat S178 (okX rfl (hX174 _ rfl)) (S178.str 4 rfl) (S178.str 7 rfl) g36 (fun a180 S181 => ?_)
    clear S178 a175
    exact wpList_nil ⟨rfl, (0, undef), S181⟩
  · intro f189 X182 Y183 a185 w186 hX184 S187
    have S188 : St 27 (fun _ => False) D w a185 w186 ([] ++ Y183) ([⟨3, Int, cRef (cInt .u64), x0.Id⟩, ⟨4, Int, (cInt .u64), x0.Id⟩, ⟨5, (List UInt8), cStr, y12⟩, ⟨6, (List UInt8), cStr, ([112, 97, 121, 109, 101, 110, 116, 32] : List UInt8) ++ y12⟩, ⟨7, (List UInt8), cStr, (([112, 97, 121, 109, 101, 110, 116, 32] : List UInt8) ++ y12) ++ ([32, 98, 121, 32] : List UInt8)⟩, ⟨8, Int, cRef (cInt .i64), x0.By⟩, ⟨9, Int, (cInt .i64), x0.By⟩, ⟨10, (List UInt8), cStr, y30⟩, ⟨11, (List UInt8), cStr, ((([112, 97, 121, 109, 101, 110, 116, 32] : List UInt8) ++ y12) ++ ([32, 98, 121, 32] : List UInt8)) ++ y30⟩, ⟨2, (List UInt8), cStr, ([] : List UInt8)⟩, ⟨1, S_tollhouseref10_Cond, cRef cS_tollhouseref10_Cond, x0⟩, ⟨0, S_tollhouseref10_Cond, cS_tollhouseref10_Cond, x0⟩] ++ X182) := S187
    clear S187
    refine op_cat S188 (okX rfl (hX184 _ rfl)) (S188.str 8 rfl) rfl g40 (fun a190 S191 => ?_)
    clear S188 a185
    exact wpList_nil ⟨rfl, (0, undef), S191⟩
  · intro f199 X192 Y193 a195 w196 hX194 S197
    have S198 : St 27 (fun _ => False) D w a195 w196 ([] ++ Y193) ([⟨2, (List UInt8), cStr, ([] : List UInt8)⟩, ⟨1, S_tollhouseref10_Cond, cRef cS_tollhouseref10_Cond, x0⟩, ⟨0, S_tollhouseref10_Cond, cS_tollhouseref10_Cond, x0⟩] ++ X192) := S197
    clear S197
    refine op_fieldAddrr S198 (okX rfl (hX194 _ rfl)) (S198.at 1 rfl) Tryd.underlying30 rfl Tryd.sizeOf23 rfl LS_tollhouseref10_Cond_Amount rfl (fun a200 S201 => ?_)
    clear S198 a195
    exact wpList_nil ⟨rfl, (0, undef), S201⟩
  · intro f209 X202 Y203 a205 w206 hX204 S207
    have S208 : St 27 (fun _ => False) D w a205 w206 ([] ++ Y203) ([⟨13, Int, cRef (cInt .u64), x0.Amount⟩, ⟨2, (List UInt8), cStr, ([] : List UInt8)⟩, ⟨1, S_tollhouseref10_Cond, cRef cS_tollhouseref10_Cond, x0⟩, ⟨0, S_tollhouseref10_Cond, cS_tollhouseref10_Cond, x0⟩] ++ X202) := S207
    clear S207
    refine op_loadr S208 (okX rfl (hX204 _ rfl)) (S208.at 0 rfl) Tryd.isAgg23 Tryd.sizeOf23 (fun a210 S211 => ?_)
    clear S208 a205
    exact wpList_nil ⟨rfl, (0, undef), S211⟩
  · intro f219 X212 Y213 a215 w216 hX214 S217
    have S218 : St 27 (fun _ => False) D w a215 w216 ([] ++ Y213) ([⟨3, Int, cRef (cInt .u64), x0.Id⟩, ⟨4, Int, (cInt .u64), x0.Id⟩, ⟨5, (List UInt8), cStr, y12⟩, ⟨8, Int, cRef (cInt .i64), x0.By⟩, ⟨9, Int, (cInt .i64), x0.By⟩, ⟨10, (List UInt8), cStr, y30⟩, ⟨13, Int, cRef (cInt .u64), x0.Amount⟩, ⟨14, Int, (cInt .u64), x0.Amount⟩, ⟨2, (List UInt8), cStr, ([] : List UInt8)⟩, ⟨1, S_tollhouseref10_Cond, cRef cS_tollhouseref10_Cond, x0⟩, ⟨0, S_tollhouseref10_Cond, cS_tollhouseref10_Cond, x0⟩] ++ X212) := S217
    clear S217
    refine op_call S218 (okX rfl (hX214 _ rfl)) Tryd.call43 (tollhouseref31_Num_ok (S218.at 7 rfl) S218.dirty_lt h49) (fun a220 w222 S221 => ?_)
    clear S218 a215 w216
    exact wpList_nil ⟨rfl, (0, undef), S221⟩
  · intro f230 X223 Y224 a226 w227 hX225 S228
    have S229 : St 27 (fun _ => False) D w a226 w227 ([] ++ Y224) ([⟨3, Int, cRef (cInt .u64), x0.Id⟩, ⟨4, Int, (cInt .u64), x0.Id⟩, ⟨5, (List UInt8), cStr, y12⟩, ⟨6, (List UInt8), cStr, ([112, 97, 121, 109, 101, 110, 116, 32] : List UInt8) ++ y12⟩, ⟨7, (List UInt8), cStr, (([112, 97, 121, 109, 101, 110, 116, 32] : List UInt8) ++ y12) ++ ([32, 98, 121, 32] : List UInt8)⟩, ⟨8, Int, cRef (cInt .i64), x0.By⟩, ⟨9, Int, (cInt .i64), x0.By⟩, ⟨10, (List UInt8), cStr, y30⟩, ⟨11, (List UInt8), cStr, ((([112, 97, 121, 109, 101, 110, 116, 32] : List UInt8) ++ y12) ++ ([32, 98, 121, 32] : List UInt8)) ++ y30⟩, ⟨12, (List UInt8), cStr, (((([112, 97, 121, 109, 101, 110, 116, 32] : List UInt8) ++ y12) ++ ([32, 98, 121, 32] : List UInt8)) ++ y30) ++ ([32, 111, 102, 32] : List UInt8)⟩, ⟨13, Int, cRef (cInt .u64), x0.Amount⟩, ⟨14, Int, (cInt .u64), x0.Amount⟩, ⟨15, (List UInt8), cStr, y48⟩, ⟨2, (List UInt8), cStr, ([] : List UInt8)⟩, ⟨1, S_tollhouseref10_Cond, cRef cS_tollhouseref10_Cond, x0⟩, ⟨0, S_tollhouseref10_Cond, cS_tollhouseref10_Cond, x0⟩] ++ X223) := S228
    clear S228
    refine op_cat S229 (okX rfl (hX225 _ rfl)) (S229.str 9 rfl) (S229.str 12 rfl) g54 (fun a231 S232 => ?_)
    clear S229 a226
    exact wpList_nil ⟨rfl, (0, undef), S232⟩
  · intro f240 X233 Y234 a236 w237 hX235 S238
    have S239 : St 27 (fun _ => False) D w a236 w237 ([] ++ Y234) ([⟨3, Int, cRef (cInt .u64), x0.Id⟩, ⟨4, Int, (cInt .u64), x0.Id⟩, ⟨5, (List UInt8), cStr, y12⟩, ⟨6, (List UInt8), cStr, ([112, 97, 121, 109, 101, 110, 116, 32] : List UInt8) ++ y12⟩, ⟨7, (List UInt8), cStr, (([112, 97, 121, 109, 101, 110, 116, 32] : List UInt8) ++ y12) ++ ([32, 98, 121, 32] : List UInt8)⟩, ⟨8, Int, cRef (cInt .i64), x0.By⟩, ⟨9, Int, (cInt .i64), x0.By⟩, ⟨10, (List UInt8), cStr, y30⟩, ⟨11, (List UInt8), cStr, ((([112, 97, 121, 109, 101, 110, 116, 32] : List UInt8) ++ y12) ++ ([32, 98, 121, 32] : List UInt8)) ++ y30⟩, ⟨12, (List UInt8), cStr, (((([112, 97, 121, 109, 101, 110, 116, 32] : List UInt8) ++ y12) ++ ([32, 98, 121, 32] : List UInt8)) ++ y30) ++ ([32, 111, 102, 32] : List UInt8)⟩, ⟨13, Int, cRef (cInt .u64), x0.Amount⟩, ⟨14, Int, (cInt .u64), x0.Amount⟩, ⟨15, (List UInt8), cStr, y48⟩, ⟨16, (List UInt8), cStr, ((((([112, 97, 121, 109, 101, 110, 116, 32] : List UInt8) ++ y12) ++ ([32, 98, 121, 32] : List UInt8)) ++ y30) ++ ([32, 111, 102, 32] : List UInt8)) ++ y48⟩, ⟨2, (List UInt8), cStr, ([] : List UInt8)⟩, ⟨1, S_tollhouseref10_Cond, cRef cS_tollhouseref10_Cond, x0⟩, ⟨0, S_tollhouseref10_Cond, cS_tollhouseref10_Cond, x0⟩] ++ X233) := S238
    clear S238
    refine op_cat S239 (okX rfl (hX235 _ rfl)) (S239.str 13 rfl) rfl g58 (fun a241 S242 => ?_)
    clear S239 a236
    exact wpList_nil ⟨rfl, (0, undef), S242⟩
  · intro f250 X243 Y244 a246 w247 hX245 S248
    have S249 : St 27 (fun _ => False) D w a246 w247 ([] ++ Y244) ([⟨2, (List UInt8), cStr, ([] : List UInt8)⟩, ⟨1, S_tollhouseref10_Cond, cRef cS_tollhouseref10_Cond, x0⟩, ⟨0, S_tollhouseref10_Cond, cS_tollhouseref10_Cond, x0⟩] ++ X243) := S248
    clear S248
    refine op_fieldAddrr S249 (okX rfl (hX245 _ rfl)) (S249.at 1 rfl) Tryd.underlying30 rfl Tryd.sizeOf28 rfl LS_tollhouseref10_Cond_Hash rfl (fun a251 S252 => ?_)
    clear S249 a246
    exact wpList_nil ⟨rfl, (0, undef), S252⟩
  · intro f260 X253 Y254 a256 w257 hX255 S258
    have S259 : St 27 (fun _ => False) D w a256 w257 ([] ++ Y254) ([⟨18, (List Int), cRef (cArr 32 (cInt .u8)), x0.Hash⟩, ⟨2, (List UInt8), cStr, ([] : List UInt8)⟩, ⟨1, S_tollhouseref10_Cond, cRef cS_tollhouseref10_Cond, x0⟩, ⟨0, S_tollhouseref10_Cond, cS_tollhouseref10_Cond, x0⟩] ++ X253) := S258
    clear S258
    refine op_loadr S259 (okX rfl (hX255 _ rfl)) (S259.at 0 rfl) Tryd.isAgg28 Tryd.sizeOf28 (fun a261 S262 => ?_)
    clear S259 a256
    exact wpList_nil ⟨rfl, (0, undef), S262⟩
  · intro f270 X263 Y264 a266 w267 hX265 S268
    have S269 : St 27 (fun _ => False) D w a266 w267 ([] ++ Y264) ([⟨3, Int, cRef (cInt .u64), x0.Id⟩, ⟨4, Int, (cInt .u64), x0.Id⟩, ⟨5, (List UInt8), cStr, y12⟩, ⟨8, Int, cRef (cInt .i64), x0.By⟩, ⟨9, Int, (cInt .i64), x0.By⟩, ⟨10, (List UInt8), cStr, y30⟩, ⟨13, Int, cRef (cInt .u64), x0.Amount⟩, ⟨14, Int, (cInt .u64), x0.Amount⟩, ⟨15, (List UInt8), cStr, y48⟩, ⟨18, (List Int), cRef (cArr 32 (cInt .u8)), x0.Hash⟩, ⟨19, (List Int), (cArr 32 (cInt .u8)), x0.Hash⟩, ⟨2, (List UInt8), cStr, ([] : List UInt8)⟩, ⟨1, S_tollhouseref10_Cond, cRef cS_tollhouseref10_Cond, x0⟩, ⟨0, S_tollhouseref10_Cond, cS_tollhouseref10_Cond, x0⟩] ++ X263) := S268
    clear S268
    refine op_call S269 (okX rfl (hX265 _ rfl)) Tryd.call47 (tollhouseref31_Short_ok (S269.at 10 rfl) S269.dirty_lt h67) (fun a271 w273 S272 => ?_)
    clear S269 a266 w267
    exact wpList_nil ⟨rfl, (0, undef), S272⟩
  · intro f281 X274 Y275 a277 w278 hX276 S279
    have S280 : St 27 (fun _ => False) D w a277 w278 ([] ++ Y275) ([⟨3, Int, cRef (cInt .u64), x0.Id⟩, ⟨4, Int, (cInt .u64), x0.Id⟩, ⟨5, (List UInt8), cStr, y12⟩, ⟨6, (List UInt8), cStr, ([112, 97, 121, 109, 101, 110, 116, 32] : List UInt8) ++ y12⟩, ⟨7, (List UInt8), cStr, (([112, 97, 121, 109, 101, 110, 116, 32] : List UInt8) ++ y12) ++ ([32, 98, 121, 32] : List UInt8)⟩, ⟨8, Int, cRef (cInt .i64), x0.By⟩, ⟨9, Int, (cInt .i64), x0.By⟩, ⟨10, (List UInt8), cStr, y30⟩, ⟨11, (List UInt8), cStr, ((([112, 97, 121, 109, 101, 110, 116, 32] : List UInt8) ++ y12) ++ ([32, 98, 121, 32] : List UInt8)) ++ y30⟩, ⟨12, (List UInt8), cStr, (((([112, 97, 121, 109, 101, 110, 116, 32] : List UInt8) ++ y12) ++ ([32, 98, 121, 32] : List UInt8)) ++ y30) ++ ([32, 111, 102, 32] : List UInt8)⟩, ⟨13, Int, cRef (cInt .u64), x0.Amount⟩, ⟨14, Int, (cInt .u64), x0.Amount⟩, ⟨15, (List UInt8), cStr, y48⟩, ⟨16, (List UInt8), cStr, ((((([112, 97, 121, 109, 101, 110, 116, 32] : List UInt8) ++ y12) ++ ([32, 98, 121, 32] : List UInt8)) ++ y30) ++ ([32, 111, 102, 32] : List UInt8)) ++ y48⟩, ⟨17, (List UInt8), cStr, (((((([112, 97, 121, 109, 101, 110, 116, 32] : List UInt8) ++ y12) ++ ([32, 98, 121, 32] : List UInt8)) ++ y30) ++ ([32, 111, 102, 32] : List UInt8)) ++ y48) ++ ([32, 102, 111, 114, 32] : List UInt8)⟩, ⟨18, (List Int), cRef (cArr 32 (cInt .u8)), x0.Hash⟩, ⟨19, (List Int), (cArr 32 (cInt .u8)), x0.Hash⟩, ⟨20, (List UInt8), cStr, y66⟩, ⟨2, (List UInt8), cStr, ([] : List UInt8)⟩, ⟨1, S_tollhouseref10_Cond, cRef cS_tollhouseref10_Cond, x0⟩, ⟨0, S_tollhouseref10_Cond, cS_tollhouseref10_Cond, x0⟩] ++ X274) := S279
    clear S279
    refine op_cat S280 (okX rfl (hX276 _ rfl)) (S280.str 14 rfl) (S280.str 17 rfl) g72 (fun a282 S283 => ?_)
    clear S280 a277
    exact wpList_nil ⟨rfl, (0, undef), S283⟩
  · intro f291 X284 Y285 a287 w288 hX286 S289
    have S290 : St 27 (fun _ => False) D w a287 w288 ([] ++ Y285) ([⟨3, Int, cRef (cInt .u64), x0.Id⟩, ⟨4, Int, (cInt .u64), x0.Id⟩, ⟨5, (List UInt8), cStr, y12⟩, ⟨6, (List UInt8), cStr, ([112, 97, 121, 109, 101, 110, 116, 32] : List UInt8) ++ y12⟩, ⟨7, (List UInt8), cStr, (([112, 97, 121, 109, 101, 110, 116, 32] : List UInt8) ++ y12) ++ ([32, 98, 121, 32] : List UInt8)⟩, ⟨8, Int, cRef (cInt .i64), x0.By⟩, ⟨9, Int, (cInt .i64), x0.By⟩, ⟨10, (List UInt8), cStr, y30⟩, ⟨11, (List UInt8), cStr, ((([112, 97, 121, 109, 101, 110, 116, 32] : List UInt8) ++ y12) ++ ([32, 98, 121, 32] : List UInt8)) ++ y30⟩, ⟨12, (List UInt8), cStr, (((([112, 97, 121, 109, 101, 110, 116, 32] : List UInt8) ++ y12) ++ ([32, 98, 121, 32] : List UInt8)) ++ y30) ++ ([32, 111, 102, 32] : List UInt8)⟩, ⟨13, Int, cRef (cInt .u64), x0.Amount⟩, ⟨14, Int, (cInt .u64), x0.Amount⟩, ⟨15, (List UInt8), cStr, y48⟩, ⟨16, (List UInt8), cStr, ((((([112, 97, 121, 109, 101, 110, 116, 32] : List UInt8) ++ y12) ++ ([32, 98, 121, 32] : List UInt8)) ++ y30) ++ ([32, 111, 102, 32] : List UInt8)) ++ y48⟩, ⟨17, (List UInt8), cStr, (((((([112, 97, 121, 109, 101, 110, 116, 32] : List UInt8) ++ y12) ++ ([32, 98, 121, 32] : List UInt8)) ++ y30) ++ ([32, 111, 102, 32] : List UInt8)) ++ y48) ++ ([32, 102, 111, 114, 32] : List UInt8)⟩, ⟨18, (List Int), cRef (cArr 32 (cInt .u8)), x0.Hash⟩, ⟨19, (List Int), (cArr 32 (cInt .u8)), x0.Hash⟩, ⟨20, (List UInt8), cStr, y66⟩, ⟨21, (List UInt8), cStr, ((((((([112, 97, 121, 109, 101, 110, 116, 32] : List UInt8) ++ y12) ++ ([32, 98, 121, 32] : List UInt8)) ++ y30) ++ ([32, 111, 102, 32] : List UInt8)) ++ y48) ++ ([32, 102, 111, 114, 32] : List UInt8)) ++ y66⟩, ⟨2, (List UInt8), cStr, ([] : List UInt8)⟩, ⟨1, S_tollhouseref10_Cond, cRef cS_tollhouseref10_Cond, x0⟩, ⟨0, S_tollhouseref10_Cond, cS_tollhouseref10_Cond, x0⟩] ++ X284) := S289
    clear S289
    refine op_cat S290 (okX rfl (hX286 _ rfl)) (S290.str 18 rfl) rfl g76 (fun a292 S293 => ?_)
    clear S290 a287
    exact wpList_nil ⟨rfl, (0, undef), S293⟩
  · intro f301 X294 Y295 a297 w298 hX296 S299
    have S300 : St 27 (fun _ => False) D w a297 w298 ([] ++ Y295) ([⟨2, (List UInt8), cStr, ([] : List UInt8)⟩, ⟨1, S_tollhouseref10_Cond, cRef cS_tollhouseref10_Cond, x0⟩, ⟨0, S_tollhouseref10_Cond, cS_tollhouseref10_Cond, x0⟩] ++ X294) := S299
    clear S299
    refine op_fieldAddrr S300 (okX rfl (hX296 _ rfl)) (S300.at 1 rfl) Tryd.underlying30 rfl Tryd.sizeOf23 rfl LS_tollhouseref10_Cond_Expiry rfl (fun a302 S303 => ?_)
    clear S300 a297
    exact wpList_nil ⟨rfl, (0, undef), S303⟩
  · intro f311 X304 Y305 a307 w308 hX306 S309
    have S310 : St 27 (fun _ => False) D w a307 w308 ([] ++ Y305) ([⟨23, Int, cRef (cInt .u64), x0.Expiry⟩, ⟨2, (List UInt8), cStr, ([] : List UInt8)⟩, ⟨1, S_tollhouseref10_Cond, cRef cS_tollhouseref10_Cond, x0⟩, ⟨0, S_tollhouseref10_Cond, cS_tollhouseref10_Cond, x0⟩] ++ X304) := S309
    clear S309
    refine op_loadr S310 (okX rfl (hX306 _ rfl)) (S310.at 0 rfl) Tryd.isAgg23 Tryd.sizeOf23 (fun a312 S313 => ?_)
    clear S310 a307
    exact wpList_nil ⟨rfl, (0, undef), S313⟩
  · intro f321 X314 Y315 a317 w318 hX316 S319
    have S320 : St 27 (fun _ => False) D w a317 w318 ([] ++ Y315) ([⟨3, Int, cRef (cInt .u64), x0.Id⟩, ⟨4, Int, (cInt .u64), x0.Id⟩, ⟨5, (List UInt8), cStr, y12⟩, ⟨8, Int, cRef (cInt .i64), x0.By⟩, ⟨9, Int, (cInt .i64), x0.By⟩, ⟨10, (List UInt8), cStr, y30⟩, ⟨13, Int, cRef (cInt .u64), x0.Amount⟩, ⟨14, Int, (cInt .u64), x0.Amount⟩, ⟨15, (List UInt8), cStr, y48⟩, ⟨18, (List Int), cRef (cArr 32 (cInt .u8)), x0.Hash⟩, ⟨19, (List Int), (cArr 32 (cInt .u8)), x0.Hash⟩, ⟨20, (List UInt8), cStr, y66⟩, ⟨23, Int, cRef (cInt .u64), x0.Expiry⟩, ⟨24, Int, (cInt .u64), x0.Expiry⟩, ⟨2, (List UInt8), cStr, ([] : List UInt8)⟩, ⟨1, S_tollhouseref10_Cond, cRef cS_tollhouseref10_Cond, x0⟩, ⟨0, S_tollhouseref10_Cond, cS_tollhouseref10_Cond, x0⟩] ++ X314) := S319
    clear S319
    refine op_call S320 (okX rfl (hX316 _ rfl)) Tryd.call43 (tollhouseref31_Num_ok (S320.at 13 rfl) S320.dirty_lt h85) (fun a322 w324 S323 => ?_)
    clear S320 a317 w318
    exact wpList_nil ⟨rfl, (0, undef), S323⟩
  · intro f329 a325 w326 _ S327
    have S328 : St 27 (fun _ => False) D w a325 w326 [] [⟨25, (List UInt8), cStr, y84⟩, ⟨24, Int, (cInt .u64), x0.Expiry⟩, ⟨23, Int, cRef (cInt .u64), x0.Expiry⟩, ⟨22, (List UInt8), cStr, (((((((([112, 97, 121, 109, 101, 110, 116, 32] : List UInt8) ++ y12) ++ ([32, 98, 121, 32] : List UInt8)) ++ y30) ++ ([32, 111, 102, 32] : List UInt8)) ++ y48) ++ ([32, 102, 111, 114, 32] : List UInt8)) ++ y66) ++ ([32, 117, 112, 32, 116, 111, 32] : List UInt8)⟩, ⟨21, (List UInt8), cStr, ((((((([112, 97, 121, 109, 101, 110, 116, 32] : List UInt8) ++ y12) ++ ([32, 98, 121, 32] : List UInt8)) ++ y30) ++ ([32, 111, 102, 32] : List UInt8)) ++ y48) ++ ([32, 102, 111, 114, 32] : List UInt8)) ++ y66⟩, ⟨20, (List UInt8), cStr, y66⟩, ⟨19, (List Int), (cArr 32 (cInt .u8)), x0.Hash⟩, ⟨18, (List Int), cRef (cArr 32 (cInt .u8)), x0.Hash⟩, ⟨17, (List UInt8), cStr, (((((([112, 97, 121, 109, 101, 110, 116, 32] : List UInt8) ++ y12) ++ ([32, 98, 121, 32] : List UInt8)) ++ y30) ++ ([32, 111, 102, 32] : List UInt8)) ++ y48) ++ ([32, 102, 111, 114, 32] : List UInt8)⟩, ⟨16, (List UInt8), cStr, ((((([112, 97, 121, 109, 101, 110, 116, 32] : List UInt8) ++ y12) ++ ([32, 98, 121, 32] : List UInt8)) ++ y30) ++ ([32, 111, 102, 32] : List UInt8)) ++ y48⟩, ⟨15, (List UInt8), cStr, y48⟩, ⟨14, Int, (cInt .u64), x0.Amount⟩, ⟨13, Int, cRef (cInt .u64), x0.Amount⟩, ⟨12, (List UInt8), cStr, (((([112, 97, 121, 109, 101, 110, 116, 32] : List UInt8) ++ y12) ++ ([32, 98, 121, 32] : List UInt8)) ++ y30) ++ ([32, 111, 102, 32] : List UInt8)⟩, ⟨11, (List UInt8), cStr, ((([112, 97, 121, 109, 101, 110, 116, 32] : List UInt8) ++ y12) ++ ([32, 98, 121, 32] : List UInt8)) ++ y30⟩, ⟨10, (List UInt8), cStr, y30⟩, ⟨9, Int, (cInt .i64), x0.By⟩, ⟨8, Int, cRef (cInt .i64), x0.By⟩, ⟨7, (List UInt8), cStr, (([112, 97, 121, 109, 101, 110, 116, 32] : List UInt8) ++ y12) ++ ([32, 98, 121, 32] : List UInt8)⟩, ⟨6, (List UInt8), cStr, ([112, 97, 121, 109, 101, 110, 116, 32] : List UInt8) ++ y12⟩, ⟨5, (List UInt8), cStr, y12⟩, ⟨4, Int, (cInt .u64), x0.Id⟩, ⟨3, Int, cRef (cInt .u64), x0.Id⟩, ⟨2, (List UInt8), cStr, ([] : List UInt8)⟩, ⟨1, S_tollhouseref10_Cond, cRef cS_tollhouseref10_Cond, x0⟩, ⟨0, S_tollhouseref10_Cond, cS_tollhouseref10_Cond, x0⟩] := S327
    clear S327 S6
    obtain ⟨g330, hr331⟩ := guard_some hr86
    clear hr86
    refine op_cat S328 rfl (S328.str 3 rfl) (S328.str 0 rfl) g330 (fun a332 S333 => ?_)
    clear S328 a325
    have S334 := S333.erase 24
    clear S333
    refine op_assign S334 rfl (S334.at 0 rfl) (fun a335 S336 => ?_)
    clear S334 a332
    refine wpList_nil ?_
    refine hK7 _ _ ?_
    clear hK7 K7
    refine wp_ret ?_
    cases hr331
    exact ret1 S336 rfl 0 rfl
/-- tollhouse/tollhouseref31.State -/
noncomputable def tollhouseref31_State (x0 : S_tollhouseref12_State) : Option (List (List UInt8)) :=
  ((tollhouseref31_Num (IntKind.wrap .u64 x0.Channel)).bind fun y14 => (if ([99, 104, 97, 110, 110, 101, 108, 32] : List UInt8).length + y14.length ≤ 9223372036854775807 then (if (([99, 104, 97, 110, 110, 101, 108, 32] : List UInt8) ++ y14).length + ([32, 114, 111, 117, 110, 100, 32] : List UInt8).length ≤ 9223372036854775807 then ((tollhouseref31_Num x0.Round).bind fun y32 => (if ((([99, 104, 97, 110, 110, 101, 108, 32] : List UInt8) ++ y14) ++ ([32, 114, 111, 117, 110, 100, 32] : List UInt8)).length + y32.length ≤ 9223372036854775807 then (if (((([99, 104, 97, 110, 110, 101, 108, 32] : List UInt8) ++ y14) ++ ([32, 114, 111, 117, 110, 100, 32] : List UInt8)) ++ y32).length + ([32, 109, 111, 118, 101, 100, 32] : List UInt8).length ≤ 9223372036854775807 then ((tollhouseref31_two x0.Moved).bind fun y50 => (if ((((([99, 104, 97, 110, 110, 101, 108, 32] : List UInt8) ++ y14) ++ ([32, 114, 111, 117, 110, 100, 32] : List UInt8)) ++ y32) ++ ([32, 109, 111, 118, 101, 100, 32] : List UInt8)).length + y50.length ≤ 9223372036854775807 then (if (((((([99, 104, 97, 110, 110, 101, 108, 32] : List UInt8) ++ y14) ++ ([32, 114, 111, 117, 110, 100, 32] : List UInt8)) ++ y32) ++ ([32, 109, 111, 118, 101, 100, 32] : List UInt8)) ++ y50).length + ([32, 116, 97, 107, 101, 110, 32] : List UInt8).length ≤ 9223372036854775807 then ((tollhouseref31_two x0.Taken).bind fun y68 => (if ((((((([99, 104, 97, 110, 110, 101, 108, 32] : List UInt8) ++ y14) ++ ([32, 114, 111, 117, 110, 100, 32] : List UInt8)) ++ y32) ++ ([32, 109, 111, 118, 101, 100, 32] : List UInt8)) ++ y50) ++ ([32, 116, 97, 107, 101, 110, 32] : List UInt8)).length + y68.length ≤ 9223372036854775807 then ((loopM (fun (s481 : Int × (List (List UInt8))) => match s481 with | (s288, s289) => ((if decide (s288 < (x0.Conds.length : Int)) then (if (0 : Int) ≤ s288 ∧ s288 < (x0.Conds.length : Int) then ((tollhouseref31_Payment (x0.Conds.getD (s288 : Int).toNat zS_tollhouseref10_Cond)).bind fun y453 => (if (s289.length + [y453].length) * 16 ≤ 140737488355328 then some (.inl (IntKind.wrap .i64 (s288 + 1), s289 ++ [y453])) else none)) else none) else some (.inr s289)) : Option ((Int × (List (List UInt8))) ⊕ ((List (List UInt8)))))) (0, [((((((([99, 104, 97, 110, 110, 101, 108, 32] : List UInt8) ++ y14) ++ ([32, 114, 111, 117, 110, 100, 32] : List UInt8)) ++ y32) ++ ([32, 109, 111, 118, 101, 100, 32] : List UInt8)) ++ y50) ++ ([32, 116, 97, 107, 101, 110, 32] : List UInt8)) ++ y68])).bind fun s405 => some s405) else none)) else none) else none)) else none) else none)) else none) else none))
set_option maxRecDepth 100000 in
set_option maxHeartbeats 8000000 in
theorem tollhouseref31_State_ok {D : Dirty} {w : World} {v0 : Value} {x0 : S_tollhouseref12_State} {r : (List (List UInt8))} (h0 : cS_tollhouseref12_State.val D w v0 x0) (hD : ∀ k, D k → k < w.heap.size) (hr : tollhouseref31_State x0 = some r) :
    Calls Tryd.prog 11 [v0].toArray w (Ret (cSlice cStr) D w r) := by
  refine calls_start (n := 43) Tryd.func11 rfl rfl ?_
  have S := St.start (w := w) (args := [v0].toArray) 43 rfl hD
  replace S := S.arg 0 rfl (val_dirt0 h0)
  unfold tollhouseref31_State at hr
  refine wp_seq_k (fun K1 hK1 => ?_)
  refine wp_region_lit ?_
  refine op_boxr S rfl (S.at 0 rfl) cS_tollhouseref12_State_flat (fun a2 w4 S3 => ?_)
  clear S
  refine op_assign S3 rfl (cSlice_nil (c := cStr)) (fun a5 S6 => ?_)
  clear S3 a2
  refine wpList_nil ?_
  refine hK1 _ _ ?_
  clear hK1 K1
  refine wp_seq_k (fun K7 hK7 => ?_)
  obtain ⟨y14, h15, hr16⟩ := bind_some hr
  clear hr
  obtain ⟨g20, hr21⟩ := guard_some hr16
  clear hr16
  obtain ⟨g24, hr25⟩ := guard_some hr21
  clear hr21
  obtain ⟨y32, h33, hr34⟩ := bind_some hr25
  clear hr25
  obtain ⟨g38, hr39⟩ := guard_some hr34
  clear hr34
  obtain ⟨g42, hr43⟩ := guard_some hr39
  clear hr39
  obtain ⟨y50, h51, hr52⟩ := bind_some hr43
  clear hr43
  obtain ⟨g56, hr57⟩ := guard_some hr52
  clear hr52
  obtain ⟨g60, hr61⟩ := guard_some hr57
  clear hr57
  obtain ⟨y68, h69, hr70⟩ := bind_some hr61
  clear hr61
  refine wp_drawn follows_mixed [[], [0], [0, 1], [0, 1, 2], [0, 1, 2, 3], [0, 1, 2, 3, 4], [], [6], [0, 1, 2, 3, 6, 7], [0, 1, 2, 3, 4, 5, 6, 7, 8], [0, 1, 2, 3, 4, 5, 6, 7, 8, 9], [], [11], [0, 1, 2, 3, 6, 7, 8, 11, 12], [0, 1, 2, 3, 4, 5, 6, 7, 8, 9, 10, 11, 12, 13], [0, 1, 2, 3, 4, 5, 6, 7, 8, 9, 10, 11, 12, 13, 14], [], [16], [0, 1, 2, 3, 6, 7, 8, 11, 12, 13, 16, 17], [0, 1, 2, 3, 4, 5, 6, 7, 8, 9, 10, 11, 12, 13, 14, 15, 16, 17, 18], [0, 1, 2, 3, 4, 5, 6, 7, 8, 9, 10, 11, 12, 13, 14, 15, 16, 17, 18, 19], [0, 1, 2, 3, 4, 5, 6, 7, 8, 9, 10, 11, 12, 13, 14, 15, 16, 17, 18, 19, 20]] [none, none, none, none, none, none, none, none, none, none, none, none, none, none, none, none, none, none, none] 19 rfl rfl 0 rfl (fun i p => List.getD [[⟨5, Int, cRef (cInt .u32), x0.Channel⟩], [⟨6, Int, (cInt .u32), x0.Channel⟩], [⟨7, Int, (cInt .u64), IntKind.wrap .u64 x0.Channel⟩], [⟨8, (List UInt8), cStr, y14⟩], [⟨9, (List UInt8), cStr, ([99, 104, 97, 110, 110, 101, 108, 32] : List UInt8) ++ y14⟩], [⟨10, (List UInt8), cStr, (([99, 104, 97, 110, 110, 101, 108, 32] : List UInt8) ++ y14) ++ ([32, 114, 111, 117, 110, 100, 32] : List UInt8)⟩], [⟨11, Int, cRef (cInt .u64), x0.Round⟩], [⟨12, Int, (cInt .u64), x0.Round⟩], [⟨13, (List UInt8), cStr, y32⟩], [⟨14, (List UInt8), cStr, ((([99, 104, 97, 110, 110, 101, 108, 32] : List UInt8) ++ y14) ++ ([32, 114, 111, 117, 110, 100, 32] : List UInt8)) ++ y32⟩], [⟨15, (List UInt8), cStr, (((([99, 104, 97, 110, 110, 101, 108, 32] : List UInt8) ++ y14) ++ ([32, 114, 111, 117, 110, 100, 32] : List UInt8)) ++ y32) ++ ([32, 109, 111, 118, 101, 100, 32] : List UInt8)⟩], [⟨16, (List Int), cRef (cArr 2 (cInt .u64)), x0.Moved⟩], [⟨17, (List Int), (cArr 2 (cInt .u64)), x0.Moved⟩], [⟨18, (List UInt8), cStr, y50⟩], [⟨19, (List UInt8), cStr, ((((([99, 104, 97, 110, 110, 101, 108, 32] : List UInt8) ++ y14) ++ ([32, 114, 111, 117, 110, 100, 32] : List UInt8)) ++ y32) ++ ([32, 109, 111, 118, 101, 100, 32] : List UInt8)) ++ y50⟩], [⟨20, (List UInt8), cStr, (((((([99, 104, 97, 110, 110, 101, 108, 32] : List UInt8) ++ y14) ++ ([32, 114, 111, 117, 110, 100, 32] : List UInt8)) ++ y32) ++ ([32, 109, 111, 118, 101, 100, 32] : List UInt8)) ++ y50) ++ ([32, 116, 97, 107, 101, 110, 32] : List UInt8)⟩], [⟨21, (List Int), cRef (cArr 2 (cInt .u64)), x0.Taken⟩], [⟨22, (List Int), (cArr 2 (cInt .u64)), x0.Taken⟩], [⟨23, (List UInt8), cStr, y68⟩]] i []) (fun _ _ _ => []) (fun _ => (0, undef)) S6 rfl (fun _ => rfl) (Obs.cons ?_ (Obs.cons ?_ (Obs.cons ?_ (Obs.cons ?_ (Obs.cons ?_ (Obs.cons ?_ (Obs.cons ?_ (Obs.cons ?_ (Obs.cons ?_ (Obs.cons ?_ (Obs.cons ?_ (Obs.cons ?_ (Obs.cons ?_ (Obs.cons ?_ (Obs.cons ?_ (Obs.cons ?_ (Obs.cons ?_ (Obs.cons ?_ (Obs.cons ?_ Obs.nil))))))))))))))))))) ?_
  · intro f81 X74 Y75 a77 w78 hX76 S79
    have S80 : St 43 (fun _ => False) D w a77 w78 ([] ++ Y75) ([⟨2, (List (List UInt8)), (cSlice cStr), ([] : (List (List UInt8)))⟩, ⟨1, S_tollhouseref12_State, cRef cS_tollhouseref12_State, x0⟩, ⟨0, S_tollhouseref12_State, cS_tollhouseref12_State, x0⟩] ++ X74) := S79
    clear S79
    refine op_fieldAddrr S80 (okX rfl (hX76 _ rfl)) (S80.at 1 rfl) Tryd.underlying27 rfl Tryd.sizeOf22 rfl LS_tollhouseref12_State_Channel rfl (fun a82 S83 => ?_)
    clear S80 a77
    exact wpList_nil ⟨rfl, (0, undef), S83⟩
  · intro f91 X84 Y85 a87 w88 hX86 S89
    have S90 : St 43 (fun _ => False) D w a87 w88 ([] ++ Y85) ([⟨5, Int, cRef (cInt .u32), x0.Channel⟩, ⟨2, (List (List UInt8)), (cSlice cStr), ([] : (List (List UInt8)))⟩, ⟨1, S_tollhouseref12_State, cRef cS_tollhouseref12_State, x0⟩, ⟨0, S_tollhouseref12_State, cS_tollhouseref12_State, x0⟩] ++ X84) := S89
    clear S89
    refine op_loadr S90 (okX rfl (hX86 _ rfl)) (S90.at 0 rfl) Tryd.isAgg22 Tryd.sizeOf22 (fun a92 S93 => ?_)
    clear S90 a87
    exact wpList_nil ⟨rfl, (0, undef), S93⟩
  · intro f101 X94 Y95 a97 w98 hX96 S99
    have S100 : St 43 (fun _ => False) D w a97 w98 ([] ++ Y95) ([⟨5, Int, cRef (cInt .u32), x0.Channel⟩, ⟨6, Int, (cInt .u32), x0.Channel⟩, ⟨2, (List (List UInt8)), (cSlice cStr), ([] : (List (List UInt8)))⟩, ⟨1, S_tollhouseref12_State, cRef cS_tollhouseref12_State, x0⟩, ⟨0, S_tollhouseref12_State, cS_tollhouseref12_State, x0⟩] ++ X94) := S99
    clear S99
    refine op_conv S100 (okX rfl (hX96 _ rfl)) Tryd.underlying22 Tryd.underlying23 (S100.int 1 rfl) (fun a102 S103 => ?_)
    clear S100 a97
    exact wpList_nil ⟨rfl, (0, undef), S103⟩
  · intro f111 X104 Y105 a107 w108 hX106 S109
    have S110 : St 43 (fun _ => False) D w a107 w108 ([] ++ Y105) ([⟨5, Int, cRef (cInt .u32), x0.Channel⟩, ⟨6, Int, (cInt .u32), x0.Channel⟩, ⟨7, Int, (cInt .u64), IntKind.wrap .u64 x0.Channel⟩, ⟨2, (List (List UInt8)), (cSlice cStr), ([] : (List (List UInt8)))⟩, ⟨1, S_tollhouseref12_State, cRef cS_tollhouseref12_State, x0⟩, ⟨0, S_tollhouseref12_State, cS_tollhouseref12_State, x0⟩] ++ X104) := S109
    clear S109
    refine op_call S110 (okX rfl (hX106 _ rfl)) Tryd.call43 (tollhouseref31_Num_ok (S110.at 2 rfl) S110.dirty_lt h15) (fun a112 w114 S113 => ?_)
    clear S110 a107 w108
    exact wpList_nil ⟨rfl, (0, undef), S113⟩
  · intro f122 X115 Y116 a118 w119 hX117 S120
    have S121 : St 43 (fun _ => False) D w a118 w119 ([] ++ Y116) ([⟨5, Int, cRef (cInt .u32), x0.Channel⟩, ⟨6, Int, (cInt .u32), x0.Channel⟩, ⟨7, Int, (cInt .u64), IntKind.wrap .u64 x0.Channel⟩, ⟨8, (List UInt8), cStr, y14⟩, ⟨2, (List (List UInt8)), (cSlice cStr), ([] : (List (List UInt8)))⟩, ⟨1, S_tollhouseref12_State, cRef cS_tollhouseref12_State, x0⟩, ⟨0, S_tollhouseref12_State, cS_tollhouseref12_State, x0⟩] ++ X115) := S120
    clear S120
    refine op_cat S121 (okX rfl (hX117 _ rfl)) rfl (S121.str 3 rfl) g20 (fun a123 S124 => ?_)
    clear S121 a118
    exact wpList_nil ⟨rfl, (0, undef), S124⟩
  · intro f132 X125 Y126 a128 w129 hX127 S130
    have S131 : St 43 (fun _ => False) D w a128 w129 ([] ++ Y126) ([⟨5, Int, cRef (cInt .u32), x0.Channel⟩, ⟨6, Int, (cInt .u32), x0.Channel⟩, ⟨7, Int, (cInt .u64), IntKind.wrap .u64 x0.Channel⟩, ⟨8, (List UInt8), cStr, y14⟩, ⟨9, (List UInt8), cStr, ([99, 104, 97, 110, 110, 101, 108, 32] : List UInt8) ++ y14⟩, ⟨2, (List (List UInt8)), (cSlice cStr), ([] : (List (List UInt8)))⟩, ⟨1, S_tollhouseref12_State, cRef cS_tollhouseref12_State, x0⟩, ⟨0, S_tollhouseref12_State, cS_tollhouseref12_State, x0⟩] ++ X125) := S130
    clear S130
    refine op_cat S131 (okX rfl (hX127 _ rfl)) (S131.str 4 rfl) rfl g24 (fun a133 S134 => ?_)
    clear S131 a128
    exact wpList_nil ⟨rfl, (0, undef), S134⟩
  · intro f142 X135 Y136 a138 w139 hX137 S140
    have S141 : St 43 (fun _ => False) D w a138 w139 ([] ++ Y136) ([⟨2, (List (List UInt8)), (cSlice cStr), ([] : (List (List UInt8)))⟩, ⟨1, S_tollhouseref12_State, cRef cS_tollhouseref12_State, x0⟩, ⟨0, S_tollhouseref12_State, cS_tollhouseref12_State, x0⟩] ++ X135) := S140
    clear S140
    refine op_fieldAddrr S141 (okX rfl (hX137 _ rfl)) (S141.at 1 rfl) Tryd.underlying27 rfl Tryd.sizeOf23 rfl LS_tollhouseref12_State_Round rfl (fun a143 S144 => ?_)
    clear S141 a138
    exact wpList_nil ⟨rfl, (0, undef), S144⟩
  · intro f152 X145 Y146 a148 w149 hX147 S150
    have S151 : St 43 (fun _ => False) D w a148 w149 ([] ++ Y146) ([⟨11, Int, cRef (cInt .u64), x0.Round⟩, ⟨2, (List (List UInt8)), (cSlice cStr), ([] : (List (List UInt8)))⟩, ⟨1, S_tollhouseref12_State, cRef cS_tollhouseref12_State, x0⟩, ⟨0, S_tollhouseref12_State, cS_tollhouseref12_State, x0⟩] ++ X145) := S150
    clear S150
    refine op_loadr S151 (okX rfl (hX147 _ rfl)) (S151.at 0 rfl) Tryd.isAgg23 Tryd.sizeOf23 (fun a153 S154 => ?_)
    clear S151 a148
    exact wpList_nil ⟨rfl, (0, undef), S154⟩
  · intro f162 X155 Y156 a158 w159 hX157 S160
    have S161 : St 43 (fun _ => False) D w a158 w159 ([] ++ Y156) ([⟨5, Int, cRef (cInt .u32), x0.Channel⟩, ⟨6, Int, (cInt .u32), x0.Channel⟩, ⟨7, Int, (cInt .u64), IntKind.wrap .u64 x0.Channel⟩, ⟨8, (List UInt8), cStr, y14⟩, ⟨11, Int, cRef (cInt .u64), x0.Round⟩, ⟨12, Int, (cInt .u64), x0.Round⟩, ⟨2, (List (List UInt8)), (cSlice cStr), ([] : (List (List UInt8)))⟩, ⟨1, S_tollhouseref12_State, cRef cS_tollhouseref12_State, x0⟩, ⟨0, S_tollhouseref12_State, cS_tollhouseref12_State, x0⟩] ++ X155) := S160
    clear S160
    refine op_call S161 (okX rfl (hX157 _ rfl)) Tryd.call43 (tollhouseref31_Num_ok (S161.at 5 rfl) S161.dirty_lt h33) (fun a163 w165 S164 => ?_)
    clear S161 a158 w159
    exact wpList_nil ⟨rfl, (0, undef), S164⟩
  · intro f173 X166 Y167 a169 w170 hX168 S171
    have S172 : St 43 (fun _ => False) D w a169 w170 ([] ++ Y167) ([⟨5, Int, cRef (cInt .u32), x0.Channel⟩, ⟨6, Int, (cInt .u32), x0.Channel⟩, ⟨7, Int, (cInt .u64), IntKind.wrap .u64 x0.Channel⟩, ⟨8, (List UInt8), cStr, y14⟩, ⟨9, (List UInt8), cStr, ([99, 104, 97, 110, 110, 101, 108, 32] : List UInt8) ++ y14⟩, ⟨10, (List UInt8), cStr, (([99, 104, 97, 110, 110, 101, 108, 32] : List UInt8) ++ y14) ++ ([32, 114, 111, 117, 110, 100, 32] : List UInt8)⟩, ⟨11, Int, cRef (cInt .u64), x0.Round⟩, ⟨12, Int, (cInt .u64), x0.Round⟩, ⟨13, (List UInt8), cStr, y32⟩, ⟨2, (List (List UInt8)), (cSlice cStr), ([] : (List (List UInt8)))⟩, ⟨1, S_tollhouseref12_State, cRef cS_tollhouseref12_State, x0⟩, ⟨0, S_tollhouseref12_State, cS_tollhouseref12_State, x0⟩] ++ X166) := S171
    clear S171
    refine op_cat S172 (okX rfl (hX168 _ rfl)) (S172.str 5 rfl) (S172.str 8 rfl) g38 (fun a174 S175 => ?_)
    clear S172 a169
    exact wpList_nil ⟨rfl, (0, undef), S175⟩
  · intro f183 X176 Y177 a179 w180 hX178 S181
    have S182 : St 43 (fun _ => False) D w a179 w180 ([] ++ Y177) ([⟨5, Int, cRef (cInt .u32), x0.Channel⟩, ⟨6, Int, (cInt .u32), x0.Channel⟩, ⟨7, Int, (cInt .u64), IntKind.wrap .u64 x0.Channel⟩, ⟨8, (List UInt8), cStr, y14⟩, ⟨9, (List UInt8), cStr, ([99, 104, 97, 110, 110, 101, 108, 32] : List UInt8) ++ y14⟩, ⟨10, (List UInt8), cStr, (([99, 104, 97, 110, 110, 101, 108, 32] : List UInt8) ++ y14) ++ ([32, 114, 111, 117, 110, 100, 32] : List UInt8)⟩, ⟨11, Int, cRef (cInt .u64), x0.Round⟩, ⟨12, Int, (cInt .u64), x0.Round⟩, ⟨13, (List UInt8), cStr, y32⟩, ⟨14, (List UInt8), cStr, ((([99, 104, 97, 110, 110, 101, 108, 32] : List UInt8) ++ y14) ++ ([32, 114, 111, 117, 110, 100, 32] : List UInt8)) ++ y32⟩, ⟨2, (List (List UInt8)), (cSlice cStr), ([] : (List (List UInt8)))⟩, ⟨1, S_tollhouseref12_State, cRef cS_tollhouseref12_State, x0⟩, ⟨0, S_tollhouseref12_State, cS_tollhouseref12_State, x0⟩] ++ X176) := S181
    clear S181
    refine op_cat S182 (okX rfl (hX178 _ rfl)) (S182.str 9 rfl) rfl g42 (fun a184 S185 => ?_)
    clear S182 a179
    exact wpList_nil ⟨rfl, (0, undef), S185⟩
  · intro f193 X186 Y187 a189 w190 hX188 S191
    have S192 : St 43 (fun _ => False) D w a189 w190 ([] ++ Y187) ([⟨2, (List (List UInt8)), (cSlice cStr), ([] : (List (List UInt8)))⟩, ⟨1, S_tollhouseref12_State, cRef cS_tollhouseref12_State, x0⟩, ⟨0, S_tollhouseref12_State, cS_tollhouseref12_State, x0⟩] ++ X186) := S191
    clear S191
    refine op_fieldAddrr S192 (okX rfl (hX188 _ rfl)) (S192.at 1 rfl) Tryd.underlying27 rfl Tryd.sizeOf24 rfl LS_tollhouseref12_State_Moved rfl (fun a194 S195 => ?_)
    clear S192 a189
    exact wpList_nil ⟨rfl, (0, undef), S195⟩
  · intro f203 X196 Y197 a199 w200 hX198 S201
    have S202 : St 43 (fun _ => False) D w a199 w200 ([] ++ Y197) ([⟨16, (List Int), cRef (cArr 2 (cInt .u64)), x0.Moved⟩, ⟨2, (List (List UInt8)), (cSlice cStr), ([] : (List (List UInt8)))⟩, ⟨1, S_tollhouseref12_State, cRef cS_tollhouseref12_State, x0⟩, ⟨0, S_tollhouseref12_State, cS_tollhouseref12_State, x0⟩] ++ X196) := S201
    clear S201
    refine op_loadr S202 (okX rfl (hX198 _ rfl)) (S202.at 0 rfl) Tryd.isAgg24 Tryd.sizeOf24 (fun a204 S205 => ?_)
    clear S202 a199
    exact wpList_nil ⟨rfl, (0, undef), S205⟩
  · intro f213 X206 Y207 a209 w210 hX208 S211
    have S212 : St 43 (fun _ => False) D w a209 w210 ([] ++ Y207) ([⟨5, Int, cRef (cInt .u32), x0.Channel⟩, ⟨6, Int, (cInt .u32), x0.Channel⟩, ⟨7, Int, (cInt .u64), IntKind.wrap .u64 x0.Channel⟩, ⟨8, (List UInt8), cStr, y14⟩, ⟨11, Int, cRef (cInt .u64), x0.Round⟩, ⟨12, Int, (cInt .u64), x0.Round⟩, ⟨13, (List UInt8), cStr, y32⟩, ⟨16, (List Int), cRef (cArr 2 (cInt .u64)), x0.Moved⟩, ⟨17, (List Int), (cArr 2 (cInt .u64)), x0.Moved⟩, ⟨2, (List (List UInt8)), (cSlice cStr), ([] : (List (List UInt8)))⟩, ⟨1, S_tollhouseref12_State, cRef cS_tollhouseref12_State, x0⟩, ⟨0, S_tollhouseref12_State, cS_tollhouseref12_State, x0⟩] ++ X206) := S211
    clear S211
    refine op_call S212 (okX rfl (hX208 _ rfl)) Tryd.call44 (tollhouseref31_two_ok (S212.at 8 rfl) S212.dirty_lt h51) (fun a214 w216 S215 => ?_)
    clear S212 a209 w210
    exact wpList_nil ⟨rfl, (0, undef), S215⟩
  · intro f224 X217 Y218 a220 w221 hX219 S222
    have S223 : St 43 (fun _ => False) D w a220 w221 ([] ++ Y218) ([⟨5, Int, cRef (cInt .u32), x0.Channel⟩, ⟨6, Int, (cInt .u32), x0.Channel⟩, ⟨7, Int, (cInt .u64), IntKind.wrap .u64 x0.Channel⟩, ⟨8, (List UInt8), cStr, y14⟩, ⟨9, (List UInt8), cStr, ([99, 104, 97, 110, 110, 101, 108, 32] : List UInt8) ++ y14⟩, ⟨10, (List UInt8), cStr, (([99, 104, 97, 110, 110, 101, 108, 32] : List UInt8) ++ y14) ++ ([32, 114, 111, 117, 110, 100, 32] : List UInt8)⟩, ⟨11, Int, cRef (cInt .u64), x0.Round⟩, ⟨12, Int, (cInt .u64), x0.Round⟩, ⟨13, (List UInt8), cStr, y32⟩, ⟨14, (List UInt8), cStr, ((([99, 104, 97, 110, 110, 101, 108, 32] : List UInt8) ++ y14) ++ ([32, 114, 111, 117, 110, 100, 32] : List UInt8)) ++ y32⟩, ⟨15, (List UInt8), cStr, (((([99, 104, 97, 110, 110, 101, 108, 32] : List UInt8) ++ y14) ++ ([32, 114, 111, 117, 110, 100, 32] : List UInt8)) ++ y32) ++ ([32, 109, 111, 118, 101, 100, 32] : List UInt8)⟩, ⟨16, (List Int), cRef (cArr 2 (cInt .u64)), x0.Moved⟩, ⟨17, (List Int), (cArr 2 (cInt .u64)), x0.Moved⟩, ⟨18, (List UInt8), cStr, y50⟩, ⟨2, (List (List UInt8)), (cSlice cStr), ([] : (List (List UInt8)))⟩, ⟨1, S_tollhouseref12_State, cRef cS_tollhouseref12_State, x0⟩, ⟨0, S_tollhouseref12_State, cS_tollhouseref12_State, x0⟩] ++ X217) := S222
    clear S222
    refine op_cat S223 (okX rfl (hX219 _ rfl)) (S223.str 10 rfl) (S223.str 13 rfl) g56 (fun a225 S226 => ?_)
    clear S223 a220
    exact wpList_nil ⟨rfl, (0, undef), S226⟩
  · intro f234 X227 Y228 a230 w231 hX229 S232
    have S233 : St 43 (fun _ => False) D w a230 w231 ([] ++ Y228) ([⟨5, Int, cRef (cInt .u32), x0.Channel⟩, ⟨6, Int, (cInt .u32), x0.Channel⟩, ⟨7, Int, (cInt .u64), IntKind.wrap .u64 x0.Channel⟩, ⟨8, (List UInt8), cStr, y14⟩, ⟨9, (List UInt8), cStr, ([99, 104, 97, 110, 110, 101, 108, 32] : List UInt8) ++ y14⟩, ⟨10, (List UInt8), cStr, (([99, 104, 97, 110, 110, 101, 108, 32] : List UInt8) ++ y14) ++ ([32, 114, 111, 117, 110, 100, 32] : List UInt8)⟩, ⟨11, Int, cRef (cInt .u64), x0.Round⟩, ⟨12, Int, (cInt .u64), x0.Round⟩, ⟨13, (List UInt8), cStr, y32⟩, ⟨14, (List UInt8), cStr, ((([99, 104, 97, 110, 110, 101, 108, 32] : List UInt8) ++ y14) ++ ([32, 114, 111, 117, 110, 100, 32] : List UInt8)) ++ y32⟩, ⟨15, (List UInt8), cStr, (((([99, 104, 97, 110, 110, 101, 108, 32] : List UInt8) ++ y14) ++ ([32, 114, 111, 117, 110, 100, 32] : List UInt8)) ++ y32) ++ ([32, 109, 111, 118, 101, 100, 32] : List UInt8)⟩, ⟨16, (List Int), cRef (cArr 2 (cInt .u64)), x0.Moved⟩, ⟨17, (List Int), (cArr 2 (cInt .u64)), x0.Moved⟩, ⟨18, (List UInt8), cStr, y50⟩, ⟨19, (List UInt8), cStr, ((((([99, 104, 97, 110, 110, 101, 108, 32] : List UInt8) ++ y14) ++ ([32, 114, 111, 117, 110, 100, 32] : List UInt8)) ++ y32) ++ ([32, 109, 111, 118, 101, 100, 32] : List UInt8)) ++ y50⟩, ⟨2, (List (List UInt8)), (cSlice cStr), ([] : (List (List UInt8)))⟩, ⟨1, S_tollhouseref12_State, cRef cS_tollhouseref12_State, x0⟩, ⟨0, S_tollhouseref12_State, cS_tollhouseref12_State, x0⟩] ++ X227) := S232
    clear S232
    refine op_cat S233 (okX rfl (hX229 _ rfl)) (S233.str 14 rfl) rfl g60 (fun a235 S236 => ?_)
    clear S233 a230
    exact wpList_nil ⟨rfl, (0, undef), S236⟩
  · intro f244 X237 Y238 a240 w241 hX239 S242
    have S243 : St 43 (fun _ => False) D w a240 w241 ([] ++ Y238) ([⟨2, (List (List UInt8)), (cSlice cStr), ([] : (List (List UInt8)))⟩, ⟨1, S_tollhouseref12_State, cRef cS_tollhouseref12_State, x0⟩, ⟨0, S_tollhouseref12_State, cS_tollhouseref12_State, x0⟩] ++ X237) := S242
    clear S242
    refine op_fieldAddrr S243 (okX rfl (hX239 _ rfl)) (S243.at 1 rfl) Tryd.underlying27 rfl Tryd.sizeOf24 rfl LS_tollhouseref12_State_Taken rfl (fun a245 S246 => ?_)
    clear S243 a240
    exact wpList_nil ⟨rfl, (0, undef), S246⟩
  · intro f254 X247 Y248 a250 w251 hX249 S252
    have S253 : St 43 (fun _ => False) D w a250 w251 ([] ++ Y248) ([⟨21, (List Int), cRef (cArr 2 (cInt .u64)), x0.Taken⟩, ⟨2, (List (List UInt8)), (cSlice cStr), ([] : (List (List UInt8)))⟩, ⟨1, S_tollhouseref12_State, cRef cS_tollhouseref12_State, x0⟩, ⟨0, S_tollhouseref12_State, cS_tollhouseref12_State, x0⟩] ++ X247) := S252
    clear S252
    refine op_loadr S253 (okX rfl (hX249 _ rfl)) (S253.at 0 rfl) Tryd.isAgg24 Tryd.sizeOf24 (fun a255 S256 => ?_)
    clear S253 a250
    exact wpList_nil ⟨rfl, (0, undef), S256⟩
  · intro f264 X257 Y258 a260 w261 hX259 S262
    have S263 : St 43 (fun _ => False) D w a260 w261 ([] ++ Y258) ([⟨5, Int, cRef (cInt .u32), x0.Channel⟩, ⟨6, Int, (cInt .u32), x0.Channel⟩, ⟨7, Int, (cInt .u64), IntKind.wrap .u64 x0.Channel⟩, ⟨8, (List UInt8), cStr, y14⟩, ⟨11, Int, cRef (cInt .u64), x0.Round⟩, ⟨12, Int, (cInt .u64), x0.Round⟩, ⟨13, (List UInt8), cStr, y32⟩, ⟨16, (List Int), cRef (cArr 2 (cInt .u64)), x0.Moved⟩, ⟨17, (List Int), (cArr 2 (cInt .u64)), x0.Moved⟩, ⟨18, (List UInt8), cStr, y50⟩, ⟨21, (List Int), cRef (cArr 2 (cInt .u64)), x0.Taken⟩, ⟨22, (List Int), (cArr 2 (cInt .u64)), x0.Taken⟩, ⟨2, (List (List UInt8)), (cSlice cStr), ([] : (List (List UInt8)))⟩, ⟨1, S_tollhouseref12_State, cRef cS_tollhouseref12_State, x0⟩, ⟨0, S_tollhouseref12_State, cS_tollhouseref12_State, x0⟩] ++ X257) := S262
    clear S262
    refine op_call S263 (okX rfl (hX259 _ rfl)) Tryd.call44 (tollhouseref31_two_ok (S263.at 11 rfl) S263.dirty_lt h69) (fun a265 w267 S266 => ?_)
    clear S263 a260 w261
    exact wpList_nil ⟨rfl, (0, undef), S266⟩
  · intro f272 a268 w269 _ S270
    have S271 : St 43 (fun _ => False) D w a268 w269 [] [⟨23, (List UInt8), cStr, y68⟩, ⟨22, (List Int), (cArr 2 (cInt .u64)), x0.Taken⟩, ⟨21, (List Int), cRef (cArr 2 (cInt .u64)), x0.Taken⟩, ⟨20, (List UInt8), cStr, (((((([99, 104, 97, 110, 110, 101, 108, 32] : List UInt8) ++ y14) ++ ([32, 114, 111, 117, 110, 100, 32] : List UInt8)) ++ y32) ++ ([32, 109, 111, 118, 101, 100, 32] : List UInt8)) ++ y50) ++ ([32, 116, 97, 107, 101, 110, 32] : List UInt8)⟩, ⟨19, (List UInt8), cStr, ((((([99, 104, 97, 110, 110, 101, 108, 32] : List UInt8) ++ y14) ++ ([32, 114, 111, 117, 110, 100, 32] : List UInt8)) ++ y32) ++ ([32, 109, 111, 118, 101, 100, 32] : List UInt8)) ++ y50⟩, ⟨18, (List UInt8), cStr, y50⟩, ⟨17, (List Int), (cArr 2 (cInt .u64)), x0.Moved⟩, ⟨16, (List Int), cRef (cArr 2 (cInt .u64)), x0.Moved⟩, ⟨15, (List UInt8), cStr, (((([99, 104, 97, 110, 110, 101, 108, 32] : List UInt8) ++ y14) ++ ([32, 114, 111, 117, 110, 100, 32] : List UInt8)) ++ y32) ++ ([32, 109, 111, 118, 101, 100, 32] : List UInt8)⟩, ⟨14, (List UInt8), cStr, ((([99, 104, 97, 110, 110, 101, 108, 32] : List UInt8) ++ y14) ++ ([32, 114, 111, 117, 110, 100, 32] : List UInt8)) ++ y32⟩, ⟨13, (List UInt8), cStr, y32⟩, ⟨12, Int, (cInt .u64), x0.Round⟩, ⟨11, Int, cRef (cInt .u64), x0.Round⟩, ⟨10, (List UInt8), cStr, (([99, 104, 97, 110, 110, 101, 108, 32] : List UInt8) ++ y14) ++ ([32, 114, 111, 117, 110, 100, 32] : List UInt8)⟩, ⟨9, (List UInt8), cStr, ([99, 104, 97, 110, 110, 101, 108, 32] : List UInt8) ++ y14⟩, ⟨8, (List UInt8), cStr, y14⟩, ⟨7, Int, (cInt .u64), IntKind.wrap .u64 x0.Channel⟩, ⟨6, Int, (cInt .u32), x0.Channel⟩, ⟨5, Int, cRef (cInt .u32), x0.Channel⟩, ⟨2, (List (List UInt8)), (cSlice cStr), ([] : (List (List UInt8)))⟩, ⟨1, S_tollhouseref12_State, cRef cS_tollhouseref12_State, x0⟩, ⟨0, S_tollhouseref12_State, cS_tollhouseref12_State, x0⟩] := S270
    clear S270 S6
    obtain ⟨g273, hr274⟩ := guard_some hr70
    clear hr70
    refine op_cat S271 rfl (S271.str 3 rfl) (S271.str 0 rfl) g273 (fun a275 S276 => ?_)
    clear S271 a268
    refine op_litrow S276 rfl cStr_flat Tryd.underlying34 Tryd.sizeOf9 Tryd.zeroValue9 rfl rfl rfl (.cons (S276.at 0 rfl) (.nil _)) (fun v277 a278 w279 S280 => ?_)
    clear S276 a275 w269
    refine op_assign S280 rfl (S280.at 0 rfl) (fun a282 S283 => ?_)
    clear S280 a278
    refine wpList_nil ?_
    refine hK7 _ _ ?_
    clear hK7 K7
    refine wp_seq_k (fun K284 hK284 => ?_)
    refine wp_seq_k (fun K285 hK285 => ?_)
    refine wp_region_lit ?_
    refine op_assign S283 rfl (cPlain_mk (f := Value.int .i64) 0) (fun a286 S287 => ?_)
    clear S283 a282
    refine wpList_nil ?_
    refine hK285 _ _ ?_
    clear hK285 K285
    refine wp_block ?_
    refine wp_q (fun Q401 hQ401 => ?_)
    have X411 : ∀ (s405 : (List (List UInt8))) (v406 : Value) (a408 : Act) (w409 : World), St 43 (fun _ => False) D w a408 w409 [Res.row v406 9 cStr s405] [⟨3, Value, cRaw, v406⟩] → (some s405 : Option ((List (List UInt8)))) = some r → Q401 (.exit 0) a408 w409 := by
      intro s405 v406 a408 w409 S407 hr410
      refine hQ401 _ _ _ ?_
      clear hQ401
      refine hK284 _ _ ?_
      clear hK284 K284
      refine wp_seq_k (fun K412 hK412 => ?_)
      refine wp_region_lit ?_
      refine op_move S407 rfl (S407.at 0 rfl) (fun a413 S414 => ?_)
      clear S407 a408
      refine op_assign S414 rfl (S414.at 0 rfl) (fun a415 S416 => ?_)
      clear S414 a413
      refine wpList_nil ?_
      refine hK412 _ _ ?_
      clear hK412 K412
      refine wp_ret ?_
      have S417 := S416.still 0 0 rfl rfl
      clear S416
      cases hr410
      exact ret1 S417 rfl 0 rfl
    obtain ⟨t402, hr404, h403⟩ := bind_some hr274
    clear hr274
    have S482 := S287.pick [0, 1, 24]
    clear S287
    refine wp_loopM (fun (s481 : Int × (List (List UInt8))) a420 w421 => match s481 with | (s288, s289) => ∃ v290 : Value, St 43 (fun _ => False) D w a420 w421 [Res.row v290 9 cStr s289] [⟨4, Int, (cInt .i64), s288⟩, ⟨3, Value, cRaw, v290⟩, ⟨1, S_tollhouseref12_State, cRef cS_tollhouseref12_State, x0⟩]) ?_ (0, [((((((([99, 104, 97, 110, 110, 101, 108, 32] : List UInt8) ++ y14) ++ ([32, 114, 111, 117, 110, 100, 32] : List UInt8)) ++ y32) ++ ([32, 109, 111, 118, 101, 100, 32] : List UInt8)) ++ y50) ++ ([32, 116, 97, 107, 101, 110, 32] : List UInt8)) ++ y68]) ?_ hr404
    · intro s481 a420 w421 x418 S483 hr422
      obtain ⟨s288, s289⟩ := s481
      obtain ⟨v290, S419⟩ := S483
      replace S419 : St 43 (fun _ => False) D w a420 w421 [Res.row v290 9 cStr s289] [⟨4, Int, (cInt .i64), s288⟩, ⟨3, Value, cRaw, v290⟩, ⟨1, S_tollhouseref12_State, cRef cS_tollhouseref12_State, x0⟩] := S419
      refine wp_seq_k (fun K423 hK423 => ?_)
      refine wp_seq_k (fun K424 hK424 => ?_)
      refine wp_region_lit ?_
      refine op_move S419 rfl (S419.at 0 rfl) (fun a425 S426 => ?_)
      clear S419 a420
      refine op_fieldAddrr S426 rfl (S426.at 3 rfl) Tryd.underlying27 rfl Tryd.sizeOf25 rfl LS_tollhouseref12_State_Conds rfl (fun a427 S428 => ?_)
      clear S426 a425
      refine op_loadr S428 rfl (S428.at 0 rfl) Tryd.isAgg25 Tryd.sizeOf25 (fun a429 S430 => ?_)
      clear S428 a427
      refine op_len S430 rfl (S430.at 0 rfl) Tryd.underlying25 (fun a431 S432 => ?_)
      clear S430 a429
      refine op_lss S432 rfl (S432.int 3 rfl) (S432.int 0 rfl) (fun a433 S434 => ?_)
      clear S432 a431
      refine wpList_nil ?_
      refine hK424 _ _ ?_
      clear hK424 K424
      rcases cond_some hr422 with ⟨b435, hr436⟩ | ⟨b435, hr437⟩
      · clear hr422
        refine c_true (S434.bool 0 rfl) b435 ?_
        refine wp_skip ?_
        refine hK423 _ _ ?_
        clear hK423 K423
        refine wp_seq_k (fun K438 hK438 => ?_)
        refine wp_block ?_
        refine wp_region_lit ?_
        refine op_move S434 rfl (S434.at 6 rfl) (fun a439 S440 => ?_)
        clear S434 a433
        refine op_fieldAddrr S440 rfl (S440.at 8 rfl) Tryd.underlying27 rfl Tryd.sizeOf25 rfl LS_tollhouseref12_State_Conds rfl (fun a441 S442 => ?_)
        clear S440 a439
        refine op_loadr S442 rfl (S442.at 0 rfl) Tryd.isAgg25 Tryd.sizeOf25 (fun a443 S444 => ?_)
        clear S442 a441
        refine op_move S444 rfl (S444.at 8 rfl) (fun a445 S446 => ?_)
        clear S444 a443
        obtain ⟨g447, hr448⟩ := guard_some hr436
        clear hr436
        refine op_indexAddr (z0 := zS_tollhouseref10_Cond) S446 rfl (S446.at 1 rfl) (S446.int 0 rfl) g447 Tryd.underlying25 Tryd.sizeOf30 (fun a449 S450 => ?_)
        clear S446 a445
        refine op_loadr S450 rfl (S450.at 0 rfl) Tryd.isAgg30 Tryd.sizeOf30 (fun a451 S452 => ?_)
        clear S450 a449
        obtain ⟨y453, h454, hr455⟩ := bind_some hr448
        clear hr448
        refine op_call S452 rfl Tryd.call45 (tollhouseref31_Payment_ok (S452.at 0 rfl) S452.dirty_lt h454) (fun a456 w458 S457 => ?_)
        clear S452 a451 w421
        refine op_lit S457 rfl cStr_flat Tryd.underlying34 Tryd.sizeOf9 Tryd.zeroValue9 rfl rfl rfl (.cons (S457.at 0 rfl) (.nil _)) (fun a459 w461 S460 => ?_)
        clear S457 a456 w458
        obtain ⟨g462, hr463⟩ := guard_some hr455
        clear hr455
        refine op_append S460 rfl 0 rfl (S460.raw 7 rfl) (S460.at 0 rfl) cStr_flat Tryd.underlying34 info9 rfl rfl rfl g462 (fun v464 a465 w466 S467 => ?_)
        clear S460 a459 w461
        have S468 := S467.erase 15
        clear S467
        refine op_assign S468 rfl (S468.at 0 rfl) (fun a469 S470 => ?_)
        clear S468 a465
        refine wpList_nil ?_
        refine hK438 _ _ ?_
        clear hK438 K438
        refine wp_region_lit ?_
        refine op_move S470 rfl (S470.at 15 rfl) (fun a471 S472 => ?_)
        clear S470 a469
        refine op_add S472 rfl (S472.int 0 rfl) rfl (fun a473 S474 => ?_)
        clear S472 a471
        have S475 := S474.erase 17
        clear S474
        refine op_assign S475 rfl (S475.at 0 rfl) (fun a476 S477 => ?_)
        clear S475 a473
        refine wpList_nil ?_
        have S478 := S477.pick [0, 3, 18]
        clear S477
        cases hr463
        exact ⟨rfl, v464, S478⟩
      · clear hr422
        refine c_false (S434.bool 0 rfl) b435 ?_
        refine wp_exit ?_
        have S479 := S434.pick [6]
        clear S434
        cases hr437
        intro h480
        refine ⟨(by intro h; cases h), ?_⟩
        exact X411 s289 v290 _ _ S479 (by subst h480; exact h403)
    · exact ⟨v277, S482⟩
/-- tollhouse/report.word -/
noncomputable def report_word (x0 : (List (List UInt8))) (x1 : Int) : Option (List UInt8) :=
  (((if decide (x1 < 0) then some true else some (decide (x1 ≥ (x0.length : Int)))) : Option (Bool)).bind fun s35 => (if s35 then ((strconv_Itoa x1).bind fun y48 => some y48) else (if (0 : Int) ≤ x1 ∧ x1 < (x0.length : Int) then some (x0.getD (x1 : Int).toNat []) else none)))
set_option maxRecDepth 100000 in
set_option maxHeartbeats 8000000 in
theorem report_word_ok {D : Dirty} {w : World} {v0 : Value} {v1 : Value} {x0 : (List (List UInt8))} {x1 : Int} {r : (List UInt8)} (h0 : (cSlice cStr).val D w v0 x0) (h1 : (cInt .i64).val D w v1 x1) (hD : ∀ k, D k → k < w.heap.size) (hT2 : tabAt D w 2 tab2_cells) (hr : report_word x0 x1 = some r) :
    Calls Tryd.prog 46 [v0, v1].toArray w (Ret cStr D w r) := by
  refine calls_start (n := 19) Tryd.func46 rfl rfl ?_
  have S := St.start (w := w) (args := [v0, v1].toArray) 19 rfl hD
  replace S := S.arg 0 rfl (val_dirt0 h0)
  replace S := S.arg 1 rfl (val_dirt0 h1)
  unfold report_word at hr
  refine wp_seq_k (fun K1 hK1 => ?_)
  refine wp_region_lit ?_
  refine op_assign S rfl (cPlain_mk (f := strV) ([] : List UInt8)) (fun a2 S3 => ?_)
  clear S
  refine wpList_nil ?_
  refine hK1 _ _ ?_
  clear hK1 K1
  refine wp_seq_k (fun K4 hK4 => ?_)
  refine wp_seq_k (fun K5 hK5 => ?_)
  refine wp_k (fun K36 hK36 => ?_)
  have X37 : ∀ (s35 : Bool) (a39 : Act) (w40 : World), St 19 (fun _ => False) D w a39 w40 [] [⟨12, Bool, cBool, s35⟩, ⟨1, Int, (cInt .i64), x1⟩, ⟨0, (List (List UInt8)), (cSlice cStr), x0⟩] → ((if s35 then ((strconv_Itoa x1).bind fun y48 => some y48) else (if (0 : Int) ≤ x1 ∧ x1 < (x0.length : Int) then some (x0.getD (x1 : Int).toNat []) else none)) : Option ((List UInt8))) = some r → K36 a39 w40 := by
    intro s35 a39 w40 S38 hr41
    refine hK36 _ _ ?_
    clear hK36
    refine hK5 _ _ ?_
    clear hK5 K5
    rcases cond_some hr41 with ⟨b42, hr43⟩ | ⟨b42, hr44⟩
    · clear hr41
      refine c_true (S38.bool 0 rfl) b42 ?_
      refine wp_seq_k (fun K45 hK45 => ?_)
      refine wp_region_lit ?_
      refine op_move S38 rfl (S38.at 1 rfl) (fun a46 S47 => ?_)
      clear S38 a39
      obtain ⟨y48, h49, hr50⟩ := bind_some hr43
      clear hr43
      refine op_call S47 rfl Tryd.call40 (strconv_Itoa_ok (S47.at 0 rfl) S47.dirty_lt (S47.tab hT2) h49) (fun a51 w53 S52 => ?_)
      clear S47 a46 w40
      refine op_assign S52 rfl (S52.at 0 rfl) (fun a54 S55 => ?_)
      clear S52 a51
      refine wpList_nil ?_
      refine hK45 _ _ ?_
      clear hK45 K45
      refine wp_ret ?_
      cases hr50
      exact ret1 S55 rfl 0 rfl
    · clear hr41
      refine c_false (S38.bool 0 rfl) b42 ?_
      refine wp_skip ?_
      refine hK4 _ _ ?_
      clear hK4 K4
      refine wp_seq_k (fun K56 hK56 => ?_)
      refine wp_region_lit ?_
      refine op_move S38 rfl (S38.at 2 rfl) (fun a57 S58 => ?_)
      clear S38 a39
      refine op_move S58 rfl (S58.at 2 rfl) (fun a59 S60 => ?_)
      clear S58 a57
      obtain ⟨g61, hr62⟩ := guard_some hr44
      clear hr44
      refine op_indexAddr (z0 := []) S60 rfl (S60.at 1 rfl) (S60.int 0 rfl) g61 Tryd.underlying34 Tryd.sizeOf9 (fun a63 S64 => ?_)
      clear S60 a59
      refine op_loadr S64 rfl (S64.at 0 rfl) Tryd.isAgg9 Tryd.sizeOf9 (fun a65 S66 => ?_)
      clear S64 a63
      refine op_assign S66 rfl (S66.at 0 rfl) (fun a67 S68 => ?_)
      clear S66 a65
      refine wpList_nil ?_
      refine hK56 _ _ ?_
      clear hK56 K56
      refine wp_ret ?_
      cases hr62
      exact ret1 S68 rfl 0 rfl
  obtain ⟨t69, hr71, h70⟩ := bind_some hr
  clear hr
  refine wp_region_lit ?_
  refine op_move S3 rfl (S3.at 1 rfl) (fun a72 S73 => ?_)
  clear S3 a2
  refine op_lss S73 rfl (S73.int 0 rfl) rfl (fun a74 S75 => ?_)
  clear S73 a72
  refine op_move S75 rfl (S75.at 0 rfl) (fun a76 S77 => ?_)
  clear S75 a74
  rcases cond_some hr71 with ⟨b78, hr79⟩ | ⟨b78, hr80⟩
  · clear hr71
    refine op_off (l := _) S77 rfl rfl rfl (S77.bool 0 rfl) b78 (fun a82 S81 => ?_)
    clear S77 a76
    refine op_off (l := _) S81 rfl rfl rfl (S81.bool 0 rfl) b78 (fun a84 S83 => ?_)
    clear S81 a82
    refine op_off (l := _) S83 rfl rfl rfl (S83.bool 0 rfl) b78 (fun a86 S85 => ?_)
    clear S83 a84
    refine op_off (l := _) S85 rfl rfl rfl (S85.bool 0 rfl) b78 (fun a88 S87 => ?_)
    clear S85 a86
    refine op_pickt S87 rfl (S87.bool 0 rfl) b78 (cPlain_mk (f := Value.bool) true) (fun a89 S90 => ?_)
    clear S87 a88
    refine wpList_nil ?_
    have S91 := S90.pick [0, 5, 6]
    clear S90
    exact X37 true _ _ S91 (by cases hr79; exact h70)
  · clear hr71
    refine wpl_on (l := _) rfl rfl (S77.bool 0 rfl) b78 ?_
    refine op_move S77 rfl (S77.at 4 rfl) (fun a92 S93 => ?_)
    clear S77 a76
    refine wpl_on (l := _) rfl rfl (S93.bool 1 rfl) b78 ?_
    refine op_move S93 rfl (S93.at 6 rfl) (fun a94 S95 => ?_)
    clear S93 a92
    refine wpl_on (l := _) rfl rfl (S95.bool 2 rfl) b78 ?_
    refine op_len S95 rfl (S95.at 0 rfl) Tryd.underlying34 (fun a96 S97 => ?_)
    clear S95 a94
    refine wpl_on (l := _) rfl rfl (S97.bool 3 rfl) b78 ?_
    refine op_geq S97 rfl (S97.int 2 rfl) (S97.int 0 rfl) (fun a98 S99 => ?_)
    clear S97 a96
    refine op_pickf S99 rfl (S99.bool 4 rfl) b78 (S99.at 0 rfl) (fun a100 S101 => ?_)
    clear S99 a98
    refine wpList_nil ?_
    have S102 := S101.pick [0, 9, 10]
    clear S101
    exact X37 (decide (x1 ≥ (x0.length : Int))) _ _ S102 (by cases hr80; exact h70)
/-- tollhouse/report.Wish -/
noncomputable def report_Wish (x0 : S_pact_Op) : Option (List UInt8) :=
  ((report_word tab0 x0.Kind).bind fun y49 => (((if decide (x0.Kind = 1) then some (decide (x0.Kind = 1)) else some (decide (x0.Kind = 5))) : Option (Bool)).bind fun s77 => (((if s77 then ((report_num [x0.Amount]).bind fun y887 => (if ([32] : List UInt8).length + y887.length ≤ 9223372036854775807 then (if y49.length + (([32] : List UInt8) ++ y887).length ≤ 9223372036854775807 then some (y49 ++ (([32] : List UInt8) ++ y887)) else none) else none)) else (((if decide (x0.Kind = 2) then ((report_num [x0.Cond.Id, x0.Cond.Amount, x0.Cond.Expiry]).bind fun y1312 => (if ([32] : List UInt8).length + y1312.length ≤ 9223372036854775807 then (if (([32] : List UInt8) ++ y1312).length + ([32] : List UInt8).length ≤ 9223372036854775807 then ((report_short x0.Cond.Hash).bind fun y1332 => (if ((([32] : List UInt8) ++ y1312) ++ ([32] : List UInt8)).length + y1332.length ≤ 9223372036854775807 then (if y49.length + (((([32] : List UInt8) ++ y1312) ++ ([32] : List UInt8)) ++ y1332).length ≤ 9223372036854775807 then some (y49 ++ (((([32] : List UInt8) ++ y1312) ++ ([32] : List UInt8)) ++ y1332)) else none) else none)) else none) else none)) else (((if decide (x0.Kind = 3) then some (decide (x0.Kind = 3)) else some (decide (x0.Kind = 4))) : Option (Bool)).bind fun s1562 => (((if s1562 then ((report_num [x0.Id]).bind fun y1621 => (if ([32] : List UInt8).length + y1621.length ≤ 9223372036854775807 then (if y49.length + (([32] : List UInt8) ++ y1621).length ≤ 9223372036854775807 then some (y49 ++ (([32] : List UInt8) ++ y1621)) else none) else none)) else some y49) : Option ((List UInt8))).bind fun s1598 => some s1598))) : Option ((List UInt8))).bind fun s1275 => some s1275)) : Option ((List UInt8))).bind fun s860 => some s860)))
set_option maxRecDepth 100000 in
set_option maxHeartbeats 8000000 in
theorem report_Wish_ok {D : Dirty} {w : World} {v0 : Value} {x0 : S_pact_Op} {r : (List UInt8)} (h0 : cS_pact_Op.val D w v0 x0) (hD : ∀ k, D k → k < w.heap.size) (hT0 : tabAt D w 0 tab0_cells) (hT2 : tabAt D w 2 tab2_cells) (hr : report_Wish x0 = some r) :
    Calls Tryd.prog 12 [v0].toArray w (Ret cStr D w r) := by
  refine calls_start (n := 53) Tryd.func12 rfl rfl ?_
  have S := St.start (w := w) (args := [v0].toArray) 53 rfl hD
  replace S := S.arg 0 rfl (val_dirt0 h0)
  unfold report_Wish at hr
  refine wp_seq_k (fun K1 hK1 => ?_)
  refine wp_region_lit ?_
  refine op_boxr S rfl (S.at 0 rfl) cS_pact_Op_flat (fun a2 w4 S3 => ?_)
  clear S
  refine op_assign S3 rfl (cPlain_mk (f := strV) ([] : List UInt8)) (fun a5 S6 => ?_)
  clear S3 a2
  refine wpList_nil ?_
  refine hK1 _ _ ?_
  clear hK1 K1
  refine wp_seq_k (fun K7 hK7 => ?_)
  refine wp_drawn follows_mixed [[], [], [1], [0, 1, 2], [0, 1, 2, 3]] [none, none, none] 3 rfl rfl 0 rfl (fun i p => List.getD [[⟨4, (List (List UInt8)), (cSlice cStr), tab0⟩], [⟨5, Int, cRef (cInt .i64), x0.Kind⟩], [⟨6, Int, (cInt .i64), x0.Kind⟩]] i []) (fun _ _ _ => []) (fun _ => (0, undef)) S6 rfl (fun _ => rfl) (Obs.cons ?_ (Obs.cons ?_ (Obs.cons ?_ Obs.nil))) ?_
  · intro f21 X14 Y15 a17 w18 hX16 S19
    have S20 : St 53 (fun _ => False) D w a17 w18 ([] ++ Y15) ([⟨2, (List UInt8), cStr, ([] : List UInt8)⟩, ⟨1, S_pact_Op, cRef cS_pact_Op, x0⟩, ⟨0, S_pact_Op, cS_pact_Op, x0⟩] ++ X14) := S19
    clear S19
    refine op_slicearr S20 (okX rfl (hX16 _ rfl)) (gref (S20.tab hT0) tab0_enc) (by decide) Tryd.underlying127 Tryd.sizeOf9 (fun a22 S23 => ?_)
    clear S20 a17
    exact wpList_nil ⟨rfl, (0, undef), S23⟩
  · intro f31 X24 Y25 a27 w28 hX26 S29
    have S30 : St 53 (fun _ => False) D w a27 w28 ([] ++ Y25) ([⟨2, (List UInt8), cStr, ([] : List UInt8)⟩, ⟨1, S_pact_Op, cRef cS_pact_Op, x0⟩, ⟨0, S_pact_Op, cS_pact_Op, x0⟩] ++ X24) := S29
    clear S29
    refine op_fieldAddrr S30 (okX rfl (hX26 _ rfl)) (S30.at 1 rfl) Tryd.underlying48 rfl Tryd.sizeOf3 rfl LS_pact_Op_Kind rfl (fun a32 S33 => ?_)
    clear S30 a27
    exact wpList_nil ⟨rfl, (0, undef), S33⟩
  · intro f41 X34 Y35 a37 w38 hX36 S39
    have S40 : St 53 (fun _ => False) D w a37 w38 ([] ++ Y35) ([⟨5, Int, cRef (cInt .i64), x0.Kind⟩, ⟨2, (List UInt8), cStr, ([] : List UInt8)⟩, ⟨1, S_pact_Op, cRef cS_pact_Op, x0⟩, ⟨0, S_pact_Op, cS_pact_Op, x0⟩] ++ X34) := S39
    clear S39
    refine op_loadr S40 (okX rfl (hX36 _ rfl)) (S40.at 0 rfl) Tryd.isAgg3 Tryd.sizeOf3 (fun a42 S43 => ?_)
    clear S40 a37
    exact wpList_nil ⟨rfl, (0, undef), S43⟩
  · intro f48 a44 w45 _ S46
    have S47 : St 53 (fun _ => False) D w a44 w45 [] [⟨6, Int, (cInt .i64), x0.Kind⟩, ⟨5, Int, cRef (cInt .i64), x0.Kind⟩, ⟨4, (List (List UInt8)), (cSlice cStr), tab0⟩, ⟨2, (List UInt8), cStr, ([] : List UInt8)⟩, ⟨1, S_pact_Op, cRef cS_pact_Op, x0⟩, ⟨0, S_pact_Op, cS_pact_Op, x0⟩] := S46
    clear S46 S6
    obtain ⟨y49, h50, hr51⟩ := bind_some hr
    clear hr
    refine op_call S47 rfl Tryd.call46 (report_word_ok (S47.at 2 rfl) (S47.at 0 rfl) S47.dirty_lt (S47.tab hT2) h50) (fun a52 w54 S53 => ?_)
    clear S47 a44 w45
    refine op_assign S53 rfl (S53.at 0 rfl) (fun a55 S56 => ?_)
    clear S53 a52
    refine wpList_nil ?_
    refine hK7 _ _ ?_
    clear hK7 K7
    refine wp_seq_k (fun K57 hK57 => ?_)
    refine wp_seq_k (fun K58 hK58 => ?_)
    refine wp_region_lit ?_
    refine op_fieldAddrr S56 rfl (S56.at 6 rfl) Tryd.underlying48 rfl Tryd.sizeOf3 rfl LS_pact_Op_Kind rfl (fun a59 S60 => ?_)
    clear S56 a55
    refine op_loadr S60 rfl (S60.at 0 rfl) Tryd.isAgg3 Tryd.sizeOf3 (fun a61 S62 => ?_)
    clear S60 a59
    refine wpList_nil ?_
    refine hK58 _ _ ?_
    clear hK58 K58
    refine wp_block ?_
    refine wp_seq_k (fun K63 hK63 => ?_)
    refine wp_seq_k (fun K64 hK64 => ?_)
    refine wp_region_lit ?_
    refine op_eql S62 rfl (S62.int 0 rfl) rfl (fun a65 S66 => ?_)
    clear S62 a61
    refine op_assign S66 rfl (S66.at 0 rfl) (fun a67 S68 => ?_)
    clear S66 a65
    refine wpList_nil ?_
    refine hK64 _ _ ?_
    clear hK64 K64
    refine wp_k (fun K78 hK78 => ?_)
    have X79 : ∀ (s77 : Bool) (a81 : Act) (w82 : World), St 53 (fun _ => False) D w a81 w82 [] [⟨10, Bool, cBool, s77⟩, ⟨9, Int, (cInt .i64), x0.Kind⟩, ⟨3, (List UInt8), cStr, y49⟩, ⟨1, S_pact_Op, cRef cS_pact_Op, x0⟩] → ((((if s77 then ((report_num [x0.Amount]).bind fun y887 => (if ([32] : List UInt8).length + y887.length ≤ 9223372036854775807 then (if y49.length + (([32] : List UInt8) ++ y887).length ≤ 9223372036854775807 then some (y49 ++ (([32] : List UInt8) ++ y887)) else none) else none)) else (((if decide (x0.Kind = 2) then ((report_num [x0.Cond.Id, x0.Cond.Amount, x0.Cond.Expiry]).bind fun y1312 => (if ([32] : List UInt8).length + y1312.length ≤ 9223372036854775807 then (if (([32] : List UInt8) ++ y1312).length + ([32] : List UInt8).length ≤ 9223372036854775807 then ((report_short x0.Cond.Hash).bind fun y1332 => (if ((([32] : List UInt8) ++ y1312) ++ ([32] : List UInt8)).length + y1332.length ≤ 9223372036854775807 then (if y49.length + (((([32] : List UInt8) ++ y1312) ++ ([32] : List UInt8)) ++ y1332).length ≤ 9223372036854775807 then some (y49 ++ (((([32] : List UInt8) ++ y1312) ++ ([32] : List UInt8)) ++ y1332)) else none) else none)) else none) else none)) else (((if decide (x0.Kind = 3) then some (decide (x0.Kind = 3)) else some (decide (x0.Kind = 4))) : Option (Bool)).bind fun s1562 => (((if s1562 then ((report_num [x0.Id]).bind fun y1621 => (if ([32] : List UInt8).length + y1621.length ≤ 9223372036854775807 then (if y49.length + (([32] : List UInt8) ++ y1621).length ≤ 9223372036854775807 then some (y49 ++ (([32] : List UInt8) ++ y1621)) else none) else none)) else some y49) : Option ((List UInt8))).bind fun s1598 => some s1598))) : Option ((List UInt8))).bind fun s1275 => some s1275)) : Option ((List UInt8))).bind fun s860 => some s860) : Option ((List UInt8))) = some r → K78 a81 w82 := by
      intro s77 a81 w82 S80 hr83
      refine hK78 _ _ ?_
      clear hK78
      refine hK63 _ _ ?_
      clear hK63 K63
      refine wp_k (fun K861 hK861 => ?_)
      have X862 : ∀ (s860 : (List UInt8)) (a864 : Act) (w865 : World), St 53 (fun _ => False) D w a864 w865 [] [⟨3, (List UInt8), cStr, s860⟩] → (some s860 : Option ((List UInt8))) = some r → K861 a864 w865 := by
        intro s860 a864 w865 S863 hr866
        refine hK861 _ _ ?_
        clear hK861
        refine hK57 _ _ ?_
        clear hK57 K57
        refine wp_seq_k (fun K867 hK867 => ?_)
        refine wp_region_lit ?_
        refine op_move S863 rfl (S863.at 0 rfl) (fun a868 S869 => ?_)
        clear S863 a864
        refine op_assign S869 rfl (S869.at 0 rfl) (fun a870 S871 => ?_)
        clear S869 a868
        refine wpList_nil ?_
        refine hK867 _ _ ?_
        clear hK867 K867
        refine wp_ret ?_
        cases hr866
        exact ret1 S871 rfl 0 rfl
      obtain ⟨t872, hr874, h873⟩ := bind_some hr83
      clear hr83
      rcases cond_some hr874 with ⟨b875, hr876⟩ | ⟨b875, hr877⟩
      · clear hr874
        refine c_true (S80.bool 0 rfl) b875 ?_
        refine wp_region_lit ?_
        refine op_move S80 rfl (S80.at 2 rfl) (fun a878 S879 => ?_)
        clear S80 a81
        refine op_fieldAddrr S879 rfl (S879.at 4 rfl) Tryd.underlying48 rfl Tryd.sizeOf23 rfl LS_pact_Op_Amount rfl (fun a880 S881 => ?_)
        clear S879 a878
        refine op_loadr S881 rfl (S881.at 0 rfl) Tryd.isAgg23 Tryd.sizeOf23 (fun a882 S883 => ?_)
        clear S881 a880
        refine op_lit S883 rfl (cInt_flat _) Tryd.underlying119 Tryd.sizeOf23 Tryd.zeroValue23 rfl rfl rfl (.cons (S883.at 0 rfl) (.nil _)) (fun a884 w886 S885 => ?_)
        clear S883 a882 w82
        obtain ⟨y887, h888, hr889⟩ := bind_some hr876
        clear hr876
        refine op_call S885 rfl Tryd.call39 (report_num_ok (S885.at 0 rfl) S885.dirty_lt (S885.tab hT2) h888) (fun a890 w892 S891 => ?_)
        clear S885 a884 w886
        obtain ⟨g893, hr894⟩ := guard_some hr889
        clear hr889
        refine op_cat S891 rfl rfl (S891.str 0 rfl) g893 (fun a895 S896 => ?_)
        clear S891 a890
        obtain ⟨g897, hr898⟩ := guard_some hr894
        clear hr894
        refine op_cat S896 rfl (S896.str 5 rfl) (S896.str 0 rfl) g897 (fun a899 S900 => ?_)
        clear S896 a895
        have S901 := S900.erase 9
        clear S900
        refine op_assign S901 rfl (S901.at 0 rfl) (fun a902 S903 => ?_)
        clear S901 a899
        refine wpList_nil ?_
        have S904 := S903.pick [0]
        clear S903
        exact X862 (y49 ++ (([32] : List UInt8) ++ y887)) _ _ S904 (by cases hr898; exact h873)
      · clear hr874
        refine c_false (S80.bool 0 rfl) b875 ?_
        refine wp_seq_k (fun K905 hK905 => ?_)
        refine wp_region_lit ?_
        refine op_eql S80 rfl (S80.int 1 rfl) rfl (fun a906 S907 => ?_)
        clear S80 a81
        refine op_assign S907 rfl (S907.at 0 rfl) (fun a908 S909 => ?_)
        clear S907 a906
        refine wpList_nil ?_
        refine hK905 _ _ ?_
        clear hK905 K905
        refine wp_k (fun K1276 hK1276 => ?_)
        have X1277 : ∀ (s1275 : (List UInt8)) (a1279 : Act) (w1280 : World), St 53 (fun _ => False) D w a1279 w1280 [] [⟨3, (List UInt8), cStr, s1275⟩] → (some s1275 : Option ((List UInt8))) = some t872 → K1276 a1279 w1280 := by
          intro s1275 a1279 w1280 S1278 hr1281
          refine hK1276 _ _ ?_
          clear hK1276
          have S1282 := S1278.pick [0]
          clear S1278
          exact X862 s1275 _ _ S1282 (by cases hr1281; exact h873)
        obtain ⟨t1283, hr1285, h1284⟩ := bind_some hr877
        clear hr877
        rcases cond_some hr1285 with ⟨b1286, hr1287⟩ | ⟨b1286, hr1288⟩
        · clear hr1285
          refine c_true (S909.bool 0 rfl) b1286 ?_
          obtain ⟨y1312, h1313, hr1314⟩ := bind_some hr1287
          clear hr1287
          obtain ⟨g1318, hr1319⟩ := guard_some hr1314
          clear hr1314
          obtain ⟨g1322, hr1323⟩ := guard_some hr1319
          clear hr1319
          obtain ⟨y1332, h1333, hr1334⟩ := bind_some hr1323
          clear hr1323
          obtain ⟨g1338, hr1339⟩ := guard_some hr1334
          clear hr1334
          refine wp_drawn follows_mixed [[], [], [1], [1, 2], [], [4], [4, 5], [], [7], [7, 8], [1, 2, 3, 4, 5, 6, 7, 8, 9], [1, 2, 3, 4, 5, 6, 7, 8, 9, 10], [1, 2, 3, 4, 5, 6, 7, 8, 9, 10, 11], [1, 2, 3, 4, 5, 6, 7, 8, 9, 10, 11, 12], [], [14], [14, 15], [1, 2, 3, 4, 5, 6, 7, 8, 9, 10, 11, 14, 15, 16], [1, 2, 3, 4, 5, 6, 7, 8, 9, 10, 11, 12, 13, 14, 15, 16, 17], [0, 1, 2, 3, 4, 5, 6, 7, 8, 9, 10, 11, 12, 13, 14, 15, 16, 17, 18], [0, 1, 2, 3, 4, 5, 6, 7, 8, 9, 10, 11, 12, 13, 14, 15, 16, 17, 18, 19]] [none, none, none, none, none, none, none, none, none, none, none, none, none, none, none, none, none, none, none] 19 rfl rfl 0 rfl (fun i p => List.getD [[⟨22, (List UInt8), cStr, y49⟩], [⟨23, S_api_Cond, cRef cS_api_Cond, x0.Cond⟩], [⟨24, Int, cRef (cInt .u64), x0.Cond.Id⟩], [⟨25, Int, (cInt .u64), x0.Cond.Id⟩], [⟨26, S_api_Cond, cRef cS_api_Cond, x0.Cond⟩], [⟨27, Int, cRef (cInt .u64), x0.Cond.Amount⟩], [⟨28, Int, (cInt .u64), x0.Cond.Amount⟩], [⟨29, S_api_Cond, cRef cS_api_Cond, x0.Cond⟩], [⟨30, Int, cRef (cInt .u64), x0.Cond.Expiry⟩], [⟨31, Int, (cInt .u64), x0.Cond.Expiry⟩], [⟨32, (List Int), (cSlice (cInt .u64)), [x0.Cond.Id, x0.Cond.Amount, x0.Cond.Expiry]⟩], [⟨33, (List UInt8), cStr, y1312⟩], [⟨34, (List UInt8), cStr, ([32] : List UInt8) ++ y1312⟩], [⟨35, (List UInt8), cStr, (([32] : List UInt8) ++ y1312) ++ ([32] : List UInt8)⟩], [⟨36, S_api_Cond, cRef cS_api_Cond, x0.Cond⟩], [⟨37, (List Int), cRef (cArr 32 (cInt .u8)), x0.Cond.Hash⟩], [⟨38, (List Int), (cArr 32 (cInt .u8)), x0.Cond.Hash⟩], [⟨39, (List UInt8), cStr, y1332⟩], [⟨40, (List UInt8), cStr, ((([32] : List UInt8) ++ y1312) ++ ([32] : List UInt8)) ++ y1332⟩]] i []) (fun _ _ _ => []) (fun _ => (0, undef)) S909 rfl (fun _ => rfl) (Obs.cons ?_ (Obs.cons ?_ (Obs.cons ?_ (Obs.cons ?_ (Obs.cons ?_ (Obs.cons ?_ (Obs.cons ?_ (Obs.cons ?_ (Obs.cons ?_ (Obs.cons ?_ (Obs.cons ?_ (Obs.cons ?_ (Obs.cons ?_ (Obs.cons ?_ (Obs.cons ?_ (Obs.cons ?_ (Obs.cons ?_ (Obs.cons ?_ (Obs.cons ?_ Obs.nil))))))))))))))))))) ?_
          · intro f1349 X1342 Y1343 a1345 w1346 hX1344 S1347
            have S1348 : St 53 (fun _ => False) D w a1345 w1346 ([] ++ Y1343) ([⟨20, Bool, cBool, decide (x0.Kind = 2)⟩, ⟨21, Bool, cBool, decide (x0.Kind = 2)⟩, ⟨10, Bool, cBool, s77⟩, ⟨9, Int, (cInt .i64), x0.Kind⟩, ⟨3, (List UInt8), cStr, y49⟩, ⟨1, S_pact_Op, cRef cS_pact_Op, x0⟩] ++ X1342) := S1347
            clear S1347
            refine op_move S1348 (okX rfl (hX1344 _ rfl)) (S1348.at 4 rfl) (fun a1350 S1351 => ?_)
            clear S1348 a1345
            exact wpList_nil ⟨rfl, (0, undef), S1351⟩
          · intro f1359 X1352 Y1353 a1355 w1356 hX1354 S1357
            have S1358 : St 53 (fun _ => False) D w a1355 w1356 ([] ++ Y1353) ([⟨20, Bool, cBool, decide (x0.Kind = 2)⟩, ⟨21, Bool, cBool, decide (x0.Kind = 2)⟩, ⟨10, Bool, cBool, s77⟩, ⟨9, Int, (cInt .i64), x0.Kind⟩, ⟨3, (List UInt8), cStr, y49⟩, ⟨1, S_pact_Op, cRef cS_pact_Op, x0⟩] ++ X1352) := S1357
            clear S1357
            refine op_fieldAddrr S1358 (okX rfl (hX1354 _ rfl)) (S1358.at 5 rfl) Tryd.underlying48 rfl Tryd.sizeOf46 rfl LS_pact_Op_Cond rfl (fun a1360 S1361 => ?_)
            clear S1358 a1355
            exact wpList_nil ⟨rfl, (0, undef), S1361⟩
          · intro f1369 X1362 Y1363 a1365 w1366 hX1364 S1367
            have S1368 : St 53 (fun _ => False) D w a1365 w1366 ([] ++ Y1363) ([⟨23, S_api_Cond, cRef cS_api_Cond, x0.Cond⟩, ⟨20, Bool, cBool, decide (x0.Kind = 2)⟩, ⟨21, Bool, cBool, decide (x0.Kind = 2)⟩, ⟨10, Bool, cBool, s77⟩, ⟨9, Int, (cInt .i64), x0.Kind⟩, ⟨3, (List UInt8), cStr, y49⟩, ⟨1, S_pact_Op, cRef cS_pact_Op, x0⟩] ++ X1362) := S1367
            clear S1367
            refine op_fieldAddrr S1368 (okX rfl (hX1364 _ rfl)) (S1368.at 0 rfl) Tryd.underlying46 rfl Tryd.sizeOf23 rfl LS_api_Cond_Id rfl (fun a1370 S1371 => ?_)
            clear S1368 a1365
            exact wpList_nil ⟨rfl, (0, undef), S1371⟩
          · intro f1379 X1372 Y1373 a1375 w1376 hX1374 S1377
            have S1378 : St 53 (fun _ => False) D w a1375 w1376 ([] ++ Y1373) ([⟨23, S_api_Cond, cRef cS_api_Cond, x0.Cond⟩, ⟨24, Int, cRef (cInt .u64), x0.Cond.Id⟩, ⟨20, Bool, cBool, decide (x0.Kind = 2)⟩, ⟨21, Bool, cBool, decide (x0.Kind = 2)⟩, ⟨10, Bool, cBool, s77⟩, ⟨9, Int, (cInt .i64), x0.Kind⟩, ⟨3, (List UInt8), cStr, y49⟩, ⟨1, S_pact_Op, cRef cS_pact_Op, x0⟩] ++ X1372) := S1377
            clear S1377
            refine op_loadr S1378 (okX rfl (hX1374 _ rfl)) (S1378.at 1 rfl) Tryd.isAgg23 Tryd.sizeOf23 (fun a1380 S1381 => ?_)
            clear S1378 a1375
            exact wpList_nil ⟨rfl, (0, undef), S1381⟩
          · intro f1389 X1382 Y1383 a1385 w1386 hX1384 S1387
            have S1388 : St 53 (fun _ => False) D w a1385 w1386 ([] ++ Y1383) ([⟨20, Bool, cBool, decide (x0.Kind = 2)⟩, ⟨21, Bool, cBool, decide (x0.Kind = 2)⟩, ⟨10, Bool, cBool, s77⟩, ⟨9, Int, (cInt .i64), x0.Kind⟩, ⟨3, (List UInt8), cStr, y49⟩, ⟨1, S_pact_Op, cRef cS_pact_Op, x0⟩] ++ X1382) := S1387
            clear S1387
            refine op_fieldAddrr S1388 (okX rfl (hX1384 _ rfl)) (S1388.at 5 rfl) Tryd.underlying48 rfl Tryd.sizeOf46 rfl LS_pact_Op_Cond rfl (fun a1390 S1391 => ?_)
            clear S1388 a1385
            exact wpList_nil ⟨rfl, (0, undef), S1391⟩
          · intro f1399 X1392 Y1393 a1395 w1396 hX1394 S1397
            have S1398 : St 53 (fun _ => False) D w a1395 w1396 ([] ++ Y1393) ([⟨26, S_api_Cond, cRef cS_api_Cond, x0.Cond⟩, ⟨20, Bool, cBool, decide (x0.Kind = 2)⟩, ⟨21, Bool, cBool, decide (x0.Kind = 2)⟩, ⟨10, Bool, cBool, s77⟩, ⟨9, Int, (cInt .i64), x0.Kind⟩, ⟨3, (List UInt8), cStr, y49⟩, ⟨1, S_pact_Op, cRef cS_pact_Op, x0⟩] ++ X1392) := S1397
            clear S1397
            refine op_fieldAddrr S1398 (okX rfl (hX1394 _ rfl)) (S1398.at 0 rfl) Tryd.underlying46 rfl Tryd.sizeOf23 rfl LS_api_Cond_Amount rfl (fun a1400 S1401 => ?_)
            clear S1398 a1395
            exact wpList_nil ⟨rfl, (0, undef), S1401⟩
          · intro f1409 X1402 Y1403 a1405 w1406 hX1404 S1407
            have S1408 : St 53 (fun _ => False) D w a1405 w1406 ([] ++ Y1403) ([⟨26, S_api_Cond, cRef cS_api_Cond, x0.Cond⟩, ⟨27, Int, cRef (cInt .u64), x0.Cond.Amount⟩, ⟨20, Bool, cBool, decide (x0.Kind = 2)⟩, ⟨21, Bool, cBool, decide (x0.Kind = 2)⟩, ⟨10, Bool, cBool, s77⟩, ⟨9, Int, (cInt .i64), x0.Kind⟩, ⟨3, (List UInt8), cStr, y49⟩, ⟨1, S_pact_Op, cRef cS_pact_Op, x0⟩] ++ X1402) := S1407
            clear S1407
            refine op_loadr S1408 (okX rfl (hX1404 _ rfl)) (S1408.at 1 rfl) Tryd.isAgg23 Tryd.sizeOf23 (fun a1410 S1411 => ?_)
            clear S1408 a1405
            exact wpList_nil ⟨rfl, (0, undef), S1411⟩
          · intro f1419 X1412 Y1413 a1415 w1416 hX1414 S1417
            have S1418 : St 53 (fun _ => False) D w a1415 w1416 ([] ++ Y1413) ([⟨20, Bool, cBool, decide (x0.Kind = 2)⟩, ⟨21, Bool, cBool, decide (x0.Kind = 2)⟩, ⟨10, Bool, cBool, s77⟩, ⟨9, Int, (cInt .i64), x0.Kind⟩, ⟨3, (List UInt8), cStr, y49⟩, ⟨1, S_pact_Op, cRef cS_pact_Op, x0⟩] ++ X1412) := S1417
            clear S1417
            refine op_fieldAddrr S1418 (okX rfl (hX1414 _ rfl)) (S1418.at 5 rfl) Tryd.underlying48 rfl Tryd.sizeOf46 rfl LS_pact_Op_Cond rfl (fun a1420 S1421 => ?_)
            clear S1418 a1415
            exact wpList_nil ⟨rfl, (0, undef), S1421⟩
          · intro f1429 X1422 Y1423 a1425 w1426 hX1424 S1427
            have S1428 : St 53 (fun _ => False) D w a1425 w1426 ([] ++ Y1423) ([⟨29, S_api_Cond, cRef cS_api_Cond, x0.Cond⟩, ⟨20, Bool, cBool, decide (x0.Kind = 2)⟩, ⟨21, Bool, cBool, decide (x0.Kind = 2)⟩, ⟨10, Bool, cBool, s77⟩, ⟨9, Int, (cInt .i64), x0.Kind⟩, ⟨3, (List UInt8), cStr, y49⟩, ⟨1, S_pact_Op, cRef cS_pact_Op, x0⟩] ++ X1422) := S1427
            clear S1427
            refine op_fieldAddrr S1428 (okX rfl (hX1424 _ rfl)) (S1428.at 0 rfl) Tryd.underlying46 rfl Tryd.sizeOf23 rfl LS_api_Cond_Expiry rfl (fun a1430 S1431 => ?_)
            clear S1428 a1425
            exact wpList_nil ⟨rfl, (0, undef), S1431⟩
          · intro f1439 X1432 Y1433 a1435 w1436 hX1434 S1437
            have S1438 : St 53 (fun _ => False) D w a1435 w1436 ([] ++ Y1433) ([⟨29, S_api_Cond, cRef cS_api_Cond, x0.Cond⟩, ⟨30, Int, cRef (cInt .u64), x0.Cond.Expiry⟩, ⟨20, Bool, cBool, decide (x0.Kind = 2)⟩, ⟨21, Bool, cBool, decide (x0.Kind = 2)⟩, ⟨10, Bool, cBool, s77⟩, ⟨9, Int, (cInt .i64), x0.Kind⟩, ⟨3, (List UInt8), cStr, y49⟩, ⟨1, S_pact_Op, cRef cS_pact_Op, x0⟩] ++ X1432) := S1437
            clear S1437
            refine op_loadr S1438 (okX rfl (hX1434 _ rfl)) (S1438.at 1 rfl) Tryd.isAgg23 Tryd.sizeOf23 (fun a1440 S1441 => ?_)
            clear S1438 a1435
            exact wpList_nil ⟨rfl, (0, undef), S1441⟩
          · intro f1449 X1442 Y1443 a1445 w1446 hX1444 S1447
            have S1448 : St 53 (fun _ => False) D w a1445 w1446 ([] ++ Y1443) ([⟨23, S_api_Cond, cRef cS_api_Cond, x0.Cond⟩, ⟨24, Int, cRef (cInt .u64), x0.Cond.Id⟩, ⟨25, Int, (cInt .u64), x0.Cond.Id⟩, ⟨26, S_api_Cond, cRef cS_api_Cond, x0.Cond⟩, ⟨27, Int, cRef (cInt .u64), x0.Cond.Amount⟩, ⟨28, Int, (cInt .u64), x0.Cond.Amount⟩, ⟨29, S_api_Cond, cRef cS_api_Cond, x0.Cond⟩, ⟨30, Int, cRef (cInt .u64), x0.Cond.Expiry⟩, ⟨31, Int, (cInt .u64), x0.Cond.Expiry⟩, ⟨20, Bool, cBool, decide (x0.Kind = 2)⟩, ⟨21, Bool, cBool, decide (x0.Kind = 2)⟩, ⟨10, Bool, cBool, s77⟩, ⟨9, Int, (cInt .i64), x0.Kind⟩, ⟨3, (List UInt8), cStr, y49⟩, ⟨1, S_pact_Op, cRef cS_pact_Op, x0⟩] ++ X1442) := S1447
            clear S1447
            refine op_lit S1448 (okX rfl (hX1444 _ rfl)) (cInt_flat _) Tryd.underlying119 Tryd.sizeOf23 Tryd.zeroValue23 rfl rfl rfl (.cons (S1448.at 2 rfl) (.cons (S1448.at 5 rfl) (.cons (S1448.at 8 rfl) (.nil _)))) (fun a1450 w1452 S1451 => ?_)
            clear S1448 a1445 w1446
            exact wpList_nil ⟨rfl, (0, undef), S1451⟩
          · intro f1460 X1453 Y1454 a1456 w1457 hX1455 S1458
            have S1459 : St 53 (fun _ => False) D w a1456 w1457 ([] ++ Y1454) ([⟨23, S_api_Cond, cRef cS_api_Cond, x0.Cond⟩, ⟨24, Int, cRef (cInt .u64), x0.Cond.Id⟩, ⟨25, Int, (cInt .u64), x0.Cond.Id⟩, ⟨26, S_api_Cond, cRef cS_api_Cond, x0.Cond⟩, ⟨27, Int, cRef (cInt .u64), x0.Cond.Amount⟩, ⟨28, Int, (cInt .u64), x0.Cond.Amount⟩, ⟨29, S_api_Cond, cRef cS_api_Cond, x0.Cond⟩, ⟨30, Int, cRef (cInt .u64), x0.Cond.Expiry⟩, ⟨31, Int, (cInt .u64), x0.Cond.Expiry⟩, ⟨32, (List Int), (cSlice (cInt .u64)), [x0.Cond.Id, x0.Cond.Amount, x0.Cond.Expiry]⟩, ⟨20, Bool, cBool, decide (x0.Kind = 2)⟩, ⟨21, Bool, cBool, decide (x0.Kind = 2)⟩, ⟨10, Bool, cBool, s77⟩, ⟨9, Int, (cInt .i64), x0.Kind⟩, ⟨3, (List UInt8), cStr, y49⟩, ⟨1, S_pact_Op, cRef cS_pact_Op, x0⟩] ++ X1453) := S1458
            clear S1458
            refine op_call S1459 (okX rfl (hX1455 _ rfl)) Tryd.call39 (report_num_ok (S1459.at 9 rfl) S1459.dirty_lt (S1459.tab hT2) h1313) (fun a1461 w1463 S1462 => ?_)
            clear S1459 a1456 w1457
            exact wpList_nil ⟨rfl, (0, undef), S1462⟩
          · intro f1471 X1464 Y1465 a1467 w1468 hX1466 S1469
            have S1470 : St 53 (fun _ => False) D w a1467 w1468 ([] ++ Y1465) ([⟨23, S_api_Cond, cRef cS_api_Cond, x0.Cond⟩, ⟨24, Int, cRef (cInt .u64), x0.Cond.Id⟩, ⟨25, Int, (cInt .u64), x0.Cond.Id⟩, ⟨26, S_api_Cond, cRef cS_api_Cond, x0.Cond⟩, ⟨27, Int, cRef (cInt .u64), x0.Cond.Amount⟩, ⟨28, Int, (cInt .u64), x0.Cond.Amount⟩, ⟨29, S_api_Cond, cRef cS_api_Cond, x0.Cond⟩, ⟨30, Int, cRef (cInt .u64), x0.Cond.Expiry⟩, ⟨31, Int, (cInt .u64), x0.Cond.Expiry⟩, ⟨32, (List Int), (cSlice (cInt .u64)), [x0.Cond.Id, x0.Cond.Amount, x0.Cond.Expiry]⟩, ⟨33, (List UInt8), cStr, y1312⟩, ⟨20, Bool, cBool, decide (x0.Kind = 2)⟩, ⟨21, Bool, cBool, decide (x0.Kind = 2)⟩, ⟨10, Bool, cBool, s77⟩, ⟨9, Int, (cInt .i64), x0.Kind⟩, ⟨3, (List UInt8), cStr, y49⟩, ⟨1, S_pact_Op, cRef cS_pact_Op, x0⟩] ++ X1464) := S1469
            clear S1469
            refine op_cat S1470 (okX rfl (hX1466 _ rfl)) rfl (S1470.str 10 rfl) g1318 (fun a1472 S1473 => ?_)
            clear S1470 a1467
            exact wpList_nil ⟨rfl, (0, undef), S1473⟩
          · intro f1481 X1474 Y1475 a1477 w1478 hX1476 S1479
            have S1480 : St 53 (fun _ => False) D w a1477 w1478 ([] ++ Y1475) ([⟨23, S_api_Cond, cRef cS_api_Cond, x0.Cond⟩, ⟨24, Int, cRef (cInt .u64), x0.Cond.Id⟩, ⟨25, Int, (cInt .u64), x0.Cond.Id⟩, ⟨26, S_api_Cond, cRef cS_api_Cond, x0.Cond⟩, ⟨27, Int, cRef (cInt .u64), x0.Cond.Amount⟩, ⟨28, Int, (cInt .u64), x0.Cond.Amount⟩, ⟨29, S_api_Cond, cRef cS_api_Cond, x0.Cond⟩, ⟨30, Int, cRef (cInt .u64), x0.Cond.Expiry⟩, ⟨31, Int, (cInt .u64), x0.Cond.Expiry⟩, ⟨32, (List Int), (cSlice (cInt .u64)), [x0.Cond.Id, x0.Cond.Amount, x0.Cond.Expiry]⟩, ⟨33, (List UInt8), cStr, y1312⟩, ⟨34, (List UInt8), cStr, ([32] : List UInt8) ++ y1312⟩, ⟨20, Bool, cBool, decide (x0.Kind = 2)⟩, ⟨21, Bool, cBool, decide (x0.Kind = 2)⟩, ⟨10, Bool, cBool, s77⟩, ⟨9, Int, (cInt .i64), x0.Kind⟩, ⟨3, (List UInt8), cStr, y49⟩, ⟨1, S_pact_Op, cRef cS_pact_Op, x0⟩] ++ X1474) := S1479
            clear S1479
            refine op_cat S1480 (okX rfl (hX1476 _ rfl)) (S1480.str 11 rfl) rfl g1322 (fun a1482 S1483 => ?_)
            clear S1480 a1477
            exact wpList_nil ⟨rfl, (0, undef), S1483⟩
          · intro f1491 X1484 Y1485 a1487 w1488 hX1486 S1489
            have S1490 : St 53 (fun _ => False) D w a1487 w1488 ([] ++ Y1485) ([⟨20, Bool, cBool, decide (x0.Kind = 2)⟩, ⟨21, Bool, cBool, decide (x0.Kind = 2)⟩, ⟨10, Bool, cBool, s77⟩, ⟨9, Int, (cInt .i64), x0.Kind⟩, ⟨3, (List UInt8), cStr, y49⟩, ⟨1, S_pact_Op, cRef cS_pact_Op, x0⟩] ++ X1484) := S1489
            clear S1489
            refine op_fieldAddrr S1490 (okX rfl (hX1486 _ rfl)) (S1490.at 5 rfl) Tryd.underlying48 rfl Tryd.sizeOf46 rfl LS_pact_Op_Cond rfl (fun a1492 S1493 => ?_)
            clear S1490 a1487
            exact wpList_nil ⟨rfl, (0, undef), S1493⟩
          · intro f1501 X1494 Y1495 a1497 w1498 hX1496 S1499
            have S1500 : St 53 (fun _ => False) D w a1497 w1498 ([] ++ Y1495) ([⟨36, S_api_Cond, cRef cS_api_Cond, x0.Cond⟩, ⟨20, Bool, cBool, decide (x0.Kind = 2)⟩, ⟨21, Bool, cBool, decide (x0.Kind = 2)⟩, ⟨10, Bool, cBool, s77⟩, ⟨9, Int, (cInt .i64), x0.Kind⟩, ⟨3, (List UInt8), cStr, y49⟩, ⟨1, S_pact_Op, cRef cS_pact_Op, x0⟩] ++ X1494) := S1499
            clear S1499
            refine op_fieldAddrr S1500 (okX rfl (hX1496 _ rfl)) (S1500.at 0 rfl) Tryd.underlying46 rfl Tryd.sizeOf44 rfl LS_api_Cond_Hash rfl (fun a1502 S1503 => ?_)
            clear S1500 a1497
            exact wpList_nil ⟨rfl, (0, undef), S1503⟩
          · intro f1511 X1504 Y1505 a1507 w1508 hX1506 S1509
            have S1510 : St 53 (fun _ => False) D w a1507 w1508 ([] ++ Y1505) ([⟨36, S_api_Cond, cRef cS_api_Cond, x0.Cond⟩, ⟨37, (List Int), cRef (cArr 32 (cInt .u8)), x0.Cond.Hash⟩, ⟨20, Bool, cBool, decide (x0.Kind = 2)⟩, ⟨21, Bool, cBool, decide (x0.Kind = 2)⟩, ⟨10, Bool, cBool, s77⟩, ⟨9, Int, (cInt .i64), x0.Kind⟩, ⟨3, (List UInt8), cStr, y49⟩, ⟨1, S_pact_Op, cRef cS_pact_Op, x0⟩] ++ X1504) := S1509
            clear S1509
            refine op_loadr S1510 (okX rfl (hX1506 _ rfl)) (S1510.at 1 rfl) Tryd.isAgg44 Tryd.sizeOf44 (fun a1512 S1513 => ?_)
            clear S1510 a1507
            exact wpList_nil ⟨rfl, (0, undef), S1513⟩
          · intro f1521 X1514 Y1515 a1517 w1518 hX1516 S1519
            have S1520 : St 53 (fun _ => False) D w a1517 w1518 ([] ++ Y1515) ([⟨23, S_api_Cond, cRef cS_api_Cond, x0.Cond⟩, ⟨24, Int, cRef (cInt .u64), x0.Cond.Id⟩, ⟨25, Int, (cInt .u64), x0.Cond.Id⟩, ⟨26, S_api_Cond, cRef cS_api_Cond, x0.Cond⟩, ⟨27, Int, cRef (cInt .u64), x0.Cond.Amount⟩, ⟨28, Int, (cInt .u64), x0.Cond.Amount⟩, ⟨29, S_api_Cond, cRef cS_api_Cond, x0.Cond⟩, ⟨30, Int, cRef (cInt .u64), x0.Cond.Expiry⟩, ⟨31, Int, (cInt .u64), x0.Cond.Expiry⟩, ⟨32, (List Int), (cSlice (cInt .u64)), [x0.Cond.Id, x0.Cond.Amount, x0.Cond.Expiry]⟩, ⟨33, (List UInt8), cStr, y1312⟩, ⟨36, S_api_Cond, cRef cS_api_Cond, x0.Cond⟩, ⟨37, (List Int), cRef (cArr 32 (cInt .u8)), x0.Cond.Hash⟩, ⟨38, (List Int), (cArr 32 (cInt .u8)), x0.Cond.Hash⟩, ⟨20, Bool, cBool, decide (x0.Kind = 2)⟩, ⟨21, Bool, cBool, decide (x0.Kind = 2)⟩, ⟨10, Bool, cBool, s77⟩, ⟨9, Int, (cInt .i64), x0.Kind⟩, ⟨3, (List UInt8), cStr, y49⟩, ⟨1, S_pact_Op, cRef cS_pact_Op, x0⟩] ++ X1514) := S1519
            clear S1519
            refine op_call S1520 (okX rfl (hX1516 _ rfl)) Tryd.call41 (report_short_ok (S1520.at 13 rfl) S1520.dirty_lt h1333) (fun a1522 w1524 S1523 => ?_)
            clear S1520 a1517 w1518
            exact wpList_nil ⟨rfl, (0, undef), S1523⟩
          · intro f1532 X1525 Y1526 a1528 w1529 hX1527 S1530
            have S1531 : St 53 (fun _ => False) D w a1528 w1529 ([] ++ Y1526) ([⟨23, S_api_Cond, cRef cS_api_Cond, x0.Cond⟩, ⟨24, Int, cRef (cInt .u64), x0.Cond.Id⟩, ⟨25, Int, (cInt .u64), x0.Cond.Id⟩, ⟨26, S_api_Cond, cRef cS_api_Cond, x0.Cond⟩, ⟨27, Int, cRef (cInt .u64), x0.Cond.Amount⟩, ⟨28, Int, (cInt .u64), x0.Cond.Amount⟩, ⟨29, S_api_Cond, cRef cS_api_Cond, x0.Cond⟩, ⟨30, Int, cRef (cInt .u64), x0.Cond.Expiry⟩, ⟨31, Int, (cInt .u64), x0.Cond.Expiry⟩, ⟨32, (List Int), (cSlice (cInt .u64)), [x0.Cond.Id, x0.Cond.Amount, x0.Cond.Expiry]⟩, ⟨33, (List UInt8), cStr, y1312⟩, ⟨34, (List UInt8), cStr, ([32] : List UInt8) ++ y1312⟩, ⟨35, (List UInt8), cStr, (([32] : List UInt8) ++ y1312) ++ ([32] : List UInt8)⟩, ⟨36, S_api_Cond, cRef cS_api_Cond, x0.Cond⟩, ⟨37, (List Int), cRef (cArr 32 (cInt .u8)), x0.Cond.Hash⟩, ⟨38, (List Int), (cArr 32 (cInt .u8)), x0.Cond.Hash⟩, ⟨39, (List UInt8), cStr, y1332⟩, ⟨20, Bool, cBool, decide (x0.Kind = 2)⟩, ⟨21, Bool, cBool, decide (x0.Kind = 2)⟩, ⟨10, Bool, cBool, s77⟩, ⟨9, Int, (cInt .i64), x0.Kind⟩, ⟨3, (List UInt8), cStr, y49⟩, ⟨1, S_pact_Op, cRef cS_pact_Op, x0⟩] ++ X1525) := S1530
            clear S1530
            refine op_cat S1531 (okX rfl (hX1527 _ rfl)) (S1531.str 12 rfl) (S1531.str 16 rfl) g1338 (fun a1533 S1534 => ?_)
            clear S1531 a1528
            exact wpList_nil ⟨rfl, (0, undef), S1534⟩
          · intro f1539 a1535 w1536 _ S1537
            have S1538 : St 53 (fun _ => False) D w a1535 w1536 [] [⟨40, (List UInt8), cStr, ((([32] : List UInt8) ++ y1312) ++ ([32] : List UInt8)) ++ y1332⟩, ⟨39, (List UInt8), cStr, y1332⟩, ⟨38, (List Int), (cArr 32 (cInt .u8)), x0.Cond.Hash⟩, ⟨37, (List Int), cRef (cArr 32 (cInt .u8)), x0.Cond.Hash⟩, ⟨36, S_api_Cond, cRef cS_api_Cond, x0.Cond⟩, ⟨35, (List UInt8), cStr, (([32] : List UInt8) ++ y1312) ++ ([32] : List UInt8)⟩, ⟨34, (List UInt8), cStr, ([32] : List UInt8) ++ y1312⟩, ⟨33, (List UInt8), cStr, y1312⟩, ⟨32, (List Int), (cSlice (cInt .u64)), [x0.Cond.Id, x0.Cond.Amount, x0.Cond.Expiry]⟩, ⟨31, Int, (cInt .u64), x0.Cond.Expiry⟩, ⟨30, Int, cRef (cInt .u64), x0.Cond.Expiry⟩, ⟨29, S_api_Cond, cRef cS_api_Cond, x0.Cond⟩, ⟨28, Int, (cInt .u64), x0.Cond.Amount⟩, ⟨27, Int, cRef (cInt .u64), x0.Cond.Amount⟩, ⟨26, S_api_Cond, cRef cS_api_Cond, x0.Cond⟩, ⟨25, Int, (cInt .u64), x0.Cond.Id⟩, ⟨24, Int, cRef (cInt .u64), x0.Cond.Id⟩, ⟨23, S_api_Cond, cRef cS_api_Cond, x0.Cond⟩, ⟨22, (List UInt8), cStr, y49⟩, ⟨20, Bool, cBool, decide (x0.Kind = 2)⟩, ⟨21, Bool, cBool, decide (x0.Kind = 2)⟩, ⟨10, Bool, cBool, s77⟩, ⟨9, Int, (cInt .i64), x0.Kind⟩, ⟨3, (List UInt8), cStr, y49⟩, ⟨1, S_pact_Op, cRef cS_pact_Op, x0⟩] := S1537
            clear S1537 S909
            obtain ⟨g1540, hr1541⟩ := guard_some hr1339
            clear hr1339
            refine op_cat S1538 rfl (S1538.str 18 rfl) (S1538.str 0 rfl) g1540 (fun a1542 S1543 => ?_)
            clear S1538 a1535
            have S1544 := S1543.erase 24
            clear S1543
            refine op_assign S1544 rfl (S1544.at 0 rfl) (fun a1545 S1546 => ?_)
            clear S1544 a1542
            refine wpList_nil ?_
            have S1547 := S1546.pick [0]
            clear S1546
            exact X1277 (y49 ++ (((([32] : List UInt8) ++ y1312) ++ ([32] : List UInt8)) ++ y1332)) _ _ S1547 (by cases hr1541; exact h1284)
        · clear hr1285
          refine c_false (S909.bool 0 rfl) b1286 ?_
          refine wp_seq_k (fun K1548 hK1548 => ?_)
          refine wp_seq_k (fun K1549 hK1549 => ?_)
          refine wp_region_lit ?_
          refine op_eql S909 rfl (S909.int 3 rfl) rfl (fun a1550 S1551 => ?_)
          clear S909 a908
          refine op_assign S1551 rfl (S1551.at 0 rfl) (fun a1552 S1553 => ?_)
          clear S1551 a1550
          refine wpList_nil ?_
          refine hK1549 _ _ ?_
          clear hK1549 K1549
          refine wp_k (fun K1563 hK1563 => ?_)
          have X1564 : ∀ (s1562 : Bool) (a1566 : Act) (w1567 : World), St 53 (fun _ => False) D w a1566 w1567 [] [⟨42, Bool, cBool, s1562⟩, ⟨3, (List UInt8), cStr, y49⟩, ⟨1, S_pact_Op, cRef cS_pact_Op, x0⟩] → ((((if s1562 then ((report_num [x0.Id]).bind fun y1621 => (if ([32] : List UInt8).length + y1621.length ≤ 9223372036854775807 then (if y49.length + (([32] : List UInt8) ++ y1621).length ≤ 9223372036854775807 then some (y49 ++ (([32] : List UInt8) ++ y1621)) else none) else none)) else some y49) : Option ((List UInt8))).bind fun s1598 => some s1598) : Option ((List UInt8))) = some t1283 → K1563 a1566 w1567 := by
            intro s1562 a1566 w1567 S1565 hr1568
            refine hK1563 _ _ ?_
            clear hK1563
            refine hK1548 _ _ ?_
            clear hK1548 K1548
            refine wp_k (fun K1599 hK1599 => ?_)
            have X1600 : ∀ (s1598 : (List UInt8)) (a1602 : Act) (w1603 : World), St 53 (fun _ => False) D w a1602 w1603 [] [⟨3, (List UInt8), cStr, s1598⟩] → (some s1598 : Option ((List UInt8))) = some t1283 → K1599 a1602 w1603 := by
              intro s1598 a1602 w1603 S1601 hr1604
              refine hK1599 _ _ ?_
              clear hK1599
              have S1605 := S1601.pick [0]
              clear S1601
              exact X1277 s1598 _ _ S1605 (by cases hr1604; exact h1284)
            obtain ⟨t1606, hr1608, h1607⟩ := bind_some hr1568
            clear hr1568
            rcases cond_some hr1608 with ⟨b1609, hr1610⟩ | ⟨b1609, hr1611⟩
            · clear hr1608
              refine c_true (S1565.bool 0 rfl) b1609 ?_
              refine wp_region_lit ?_
              refine op_move S1565 rfl (S1565.at 1 rfl) (fun a1612 S1613 => ?_)
              clear S1565 a1566
              refine op_fieldAddrr S1613 rfl (S1613.at 3 rfl) Tryd.underlying48 rfl Tryd.sizeOf23 rfl LS_pact_Op_Id rfl (fun a1614 S1615 => ?_)
              clear S1613 a1612
              refine op_loadr S1615 rfl (S1615.at 0 rfl) Tryd.isAgg23 Tryd.sizeOf23 (fun a1616 S1617 => ?_)
              clear S1615 a1614
              refine op_lit S1617 rfl (cInt_flat _) Tryd.underlying119 Tryd.sizeOf23 Tryd.zeroValue23 rfl rfl rfl (.cons (S1617.at 0 rfl) (.nil _)) (fun a1618 w1620 S1619 => ?_)
              clear S1617 a1616 w1567
              obtain ⟨y1621, h1622, hr1623⟩ := bind_some hr1610
              clear hr1610
              refine op_call S1619 rfl Tryd.call39 (report_num_ok (S1619.at 0 rfl) S1619.dirty_lt (S1619.tab hT2) h1622) (fun a1624 w1626 S1625 => ?_)
              clear S1619 a1618 w1620
              obtain ⟨g1627, hr1628⟩ := guard_some hr1623
              clear hr1623
              refine op_cat S1625 rfl rfl (S1625.str 0 rfl) g1627 (fun a1629 S1630 => ?_)
              clear S1625 a1624
              obtain ⟨g1631, hr1632⟩ := guard_some hr1628
              clear hr1628
              refine op_cat S1630 rfl (S1630.str 5 rfl) (S1630.str 0 rfl) g1631 (fun a1633 S1634 => ?_)
              clear S1630 a1629
              have S1635 := S1634.erase 8
              clear S1634
              refine op_assign S1635 rfl (S1635.at 0 rfl) (fun a1636 S1637 => ?_)
              clear S1635 a1633
              refine wpList_nil ?_
              have S1638 := S1637.pick [0]
              clear S1637
              exact X1600 (y49 ++ (([32] : List UInt8) ++ y1621)) _ _ S1638 (by cases hr1632; exact h1607)
            · clear hr1608
              refine c_false (S1565.bool 0 rfl) b1609 ?_
              refine wp_skip ?_
              have S1639 := S1565.pick [1]
              clear S1565
              exact X1600 y49 _ _ S1639 (by cases hr1611; exact h1607)
          obtain ⟨t1640, hr1642, h1641⟩ := bind_some hr1288
          clear hr1288
          rcases cond_some hr1642 with ⟨b1643, hr1644⟩ | ⟨b1643, hr1645⟩
          · clear hr1642
            refine c_true (S1553.bool 0 rfl) b1643 ?_
            refine wp_skip ?_
            have S1646 := S1553.pick [0, 6, 7]
            clear S1553
            exact X1564 (decide (x0.Kind = 3)) _ _ S1646 (by cases hr1644; exact h1641)
          · clear hr1642
            refine c_false (S1553.bool 0 rfl) b1643 ?_
            refine wp_region_lit ?_
            refine op_eql S1553 rfl (S1553.int 5 rfl) rfl (fun a1647 S1648 => ?_)
            clear S1553 a1552
            have S1649 := S1648.erase 1
            clear S1648
            refine op_assign S1649 rfl (S1649.at 0 rfl) (fun a1650 S1651 => ?_)
            clear S1649 a1647
            refine wpList_nil ?_
            have S1652 := S1651.pick [0, 7, 8]
            clear S1651
            exact X1564 (decide (x0.Kind = 4)) _ _ S1652 (by cases hr1645; exact h1641)
    obtain ⟨t1653, hr1655, h1654⟩ := bind_some hr51
    clear hr51
    rcases cond_some hr1655 with ⟨b1656, hr1657⟩ | ⟨b1656, hr1658⟩
    · clear hr1655
      refine c_true (S68.bool 0 rfl) b1656 ?_
      refine wp_skip ?_
      have S1659 := S68.pick [0, 2, 4, 10]
      clear S68
      exact X79 (decide (x0.Kind = 1)) _ _ S1659 (by cases hr1657; exact h1654)
    · clear hr1655
      refine c_false (S68.bool 0 rfl) b1656 ?_
      refine wp_region_lit ?_
      refine op_eql S68 rfl (S68.int 2 rfl) rfl (fun a1660 S1661 => ?_)
      clear S68 a67
      have S1662 := S1661.erase 1
      clear S1661
      refine op_assign S1662 rfl (S1662.at 0 rfl) (fun a1663 S1664 => ?_)
      clear S1662 a1660
      refine wpList_nil ?_
      have S1665 := S1664.pick [0, 3, 5, 11]
      clear S1664
      exact X79 (decide (x0.Kind = 5)) _ _ S1665 (by cases hr1658; exact h1654)
/-- tollhouse/tollhouselaw12.Op -/
noncomputable def tollhouselaw12_Op (x0 : S_tollhouseref12_Op) : Option S_pact_Op :=
  ((tollhouselaw10_To x0.Cond).bind fun y22 => some ({ Kind := x0.Kind, Amount := x0.Amount, Cond := y22, Id := x0.Id } : S_pact_Op))
set_option maxRecDepth 100000 in
set_option maxHeartbeats 8000000 in
theorem tollhouselaw12_Op_ok {D : Dirty} {w : World} {v0 : Value} {x0 : S_tollhouseref12_Op} {r : S_pact_Op} (h0 : cS_tollhouseref12_Op.val D w v0 x0) (hD : ∀ k, D k → k < w.heap.size) (hr : tollhouselaw12_Op x0 = some r) :
    Calls Tryd.prog 13 [v0].toArray w (Ret cS_pact_Op D w r) := by
  refine calls_start (n := 13) Tryd.func13 rfl rfl ?_
  have S := St.start (w := w) (args := [v0].toArray) 13 rfl hD
  replace S := S.arg 0 rfl (val_dirt0 h0)
  unfold tollhouselaw12_Op at hr
  refine wp_seq_k (fun K1 hK1 => ?_)
  refine wp_region_lit ?_
  refine op_boxr S rfl (S.at 0 rfl) cS_tollhouseref12_Op_flat (fun a2 w4 S3 => ?_)
  clear S
  refine op_alloc S3 rfl Tryd.zeroValue48 zS_pact_Op_ok (fun b5 a6 w7 S8 => ?_)
  clear S3 a2 w4
  refine wpList_nil ?_
  refine hK1 _ _ ?_
  clear hK1 K1
  refine wp_seq_k (fun K9 hK9 => ?_)
  obtain ⟨y22, h23, hr24⟩ := bind_some hr
  clear hr
  refine wp_drawn follows_mixed [[], [0], [], [2], [], [4], [4, 5], [], [7], [0, 1, 2, 3, 4, 5, 6, 7, 8], [0, 1, 2, 3, 4, 5, 6, 7, 8, 9]] [none, none, none, none, none, none, none, none, none] 9 rfl rfl 0 rfl (fun i p => List.getD [[⟨3, Int, cRef (cInt .i64), x0.Kind⟩], [⟨4, Int, (cInt .i64), x0.Kind⟩], [⟨5, Int, cRef (cInt .u64), x0.Amount⟩], [⟨6, Int, (cInt .u64), x0.Amount⟩], [⟨7, S_tollhouseref10_Cond, cRef cS_tollhouseref10_Cond, x0.Cond⟩], [⟨8, S_tollhouseref10_Cond, cS_tollhouseref10_Cond, x0.Cond⟩], [⟨9, S_api_Cond, cS_api_Cond, y22⟩], [⟨10, Int, cRef (cInt .u64), x0.Id⟩], [⟨11, Int, (cInt .u64), x0.Id⟩]] i []) (fun _ _ _ => []) (fun _ => (0, undef)) S8 rfl (fun _ => rfl) (Obs.cons ?_ (Obs.cons ?_ (Obs.cons ?_ (Obs.cons ?_ (Obs.cons ?_ (Obs.cons ?_ (Obs.cons ?_ (Obs.cons ?_ (Obs.cons ?_ Obs.nil))))))))) ?_
  · intro f39 X32 Y33 a35 w36 hX34 S37
    have S38 : St 13 (fun _ => False) D w a35 w36 ([Res.box b5 48 cS_pact_Op zS_pact_Op] ++ Y33) ([⟨2, Value, cRaw, ptr b5 0⟩, ⟨1, S_tollhouseref12_Op, cRef cS_tollhouseref12_Op, x0⟩, ⟨0, S_tollhouseref12_Op, cS_tollhouseref12_Op, x0⟩] ++ X32) := S37
    clear S37
    refine op_fieldAddrr S38 (okX rfl (hX34 _ rfl)) (S38.at 1 rfl) Tryd.underlying32 rfl Tryd.sizeOf3 rfl LS_tollhouseref12_Op_Kind rfl (fun a40 S41 => ?_)
    clear S38 a35
    exact wpList_nil ⟨rfl, (0, undef), S41⟩
  · intro f49 X42 Y43 a45 w46 hX44 S47
    have S48 : St 13 (fun _ => False) D w a45 w46 ([Res.box b5 48 cS_pact_Op zS_pact_Op] ++ Y43) ([⟨3, Int, cRef (cInt .i64), x0.Kind⟩, ⟨2, Value, cRaw, ptr b5 0⟩, ⟨1, S_tollhouseref12_Op, cRef cS_tollhouseref12_Op, x0⟩, ⟨0, S_tollhouseref12_Op, cS_tollhouseref12_Op, x0⟩] ++ X42) := S47
    clear S47
    refine op_loadr S48 (okX rfl (hX44 _ rfl)) (S48.at 0 rfl) Tryd.isAgg3 Tryd.sizeOf3 (fun a50 S51 => ?_)
    clear S48 a45
    exact wpList_nil ⟨rfl, (0, undef), S51⟩
  · intro f59 X52 Y53 a55 w56 hX54 S57
    have S58 : St 13 (fun _ => False) D w a55 w56 ([Res.box b5 48 cS_pact_Op zS_pact_Op] ++ Y53) ([⟨2, Value, cRaw, ptr b5 0⟩, ⟨1, S_tollhouseref12_Op, cRef cS_tollhouseref12_Op, x0⟩, ⟨0, S_tollhouseref12_Op, cS_tollhouseref12_Op, x0⟩] ++ X52) := S57
    clear S57
    refine op_fieldAddrr S58 (okX rfl (hX54 _ rfl)) (S58.at 1 rfl) Tryd.underlying32 rfl Tryd.sizeOf23 rfl LS_tollhouseref12_Op_Amount rfl (fun a60 S61 => ?_)
    clear S58 a55
    exact wpList_nil ⟨rfl, (0, undef), S61⟩
  · intro f69 X62 Y63 a65 w66 hX64 S67
    have S68 : St 13 (fun _ => False) D w a65 w66 ([Res.box b5 48 cS_pact_Op zS_pact_Op] ++ Y63) ([⟨5, Int, cRef (cInt .u64), x0.Amount⟩, ⟨2, Value, cRaw, ptr b5 0⟩, ⟨1, S_tollhouseref12_Op, cRef cS_tollhouseref12_Op, x0⟩, ⟨0, S_tollhouseref12_Op, cS_tollhouseref12_Op, x0⟩] ++ X62) := S67
    clear S67
    refine op_loadr S68 (okX rfl (hX64 _ rfl)) (S68.at 0 rfl) Tryd.isAgg23 Tryd.sizeOf23 (fun a70 S71 => ?_)
    clear S68 a65
    exact wpList_nil ⟨rfl, (0, undef), S71⟩
  · intro f79 X72 Y73 a75 w76 hX74 S77
    have S78 : St 13 (fun _ => False) D w a75 w76 ([Res.box b5 48 cS_pact_Op zS_pact_Op] ++ Y73) ([⟨2, Value, cRaw, ptr b5 0⟩, ⟨1, S_tollhouseref12_Op, cRef cS_tollhouseref12_Op, x0⟩, ⟨0, S_tollhouseref12_Op, cS_tollhouseref12_Op, x0⟩] ++ X72) := S77
    clear S77
    refine op_fieldAddrr S78 (okX rfl (hX74 _ rfl)) (S78.at 1 rfl) Tryd.underlying32 rfl Tryd.sizeOf30 rfl LS_tollhouseref12_Op_Cond rfl (fun a80 S81 => ?_)
    clear S78 a75
    exact wpList_nil ⟨rfl, (0, undef), S81⟩
  · intro f89 X82 Y83 a85 w86 hX84 S87
    have S88 : St 13 (fun _ => False) D w a85 w86 ([Res.box b5 48 cS_pact_Op zS_pact_Op] ++ Y83) ([⟨7, S_tollhouseref10_Cond, cRef cS_tollhouseref10_Cond, x0.Cond⟩, ⟨2, Value, cRaw, ptr b5 0⟩, ⟨1, S_tollhouseref12_Op, cRef cS_tollhouseref12_Op, x0⟩, ⟨0, S_tollhouseref12_Op, cS_tollhouseref12_Op, x0⟩] ++ X82) := S87
    clear S87
    refine op_loadr S88 (okX rfl (hX84 _ rfl)) (S88.at 0 rfl) Tryd.isAgg30 Tryd.sizeOf30 (fun a90 S91 => ?_)
    clear S88 a85
    exact wpList_nil ⟨rfl, (0, undef), S91⟩
  · intro f99 X92 Y93 a95 w96 hX94 S97
    have S98 : St 13 (fun _ => False) D w a95 w96 ([Res.box b5 48 cS_pact_Op zS_pact_Op] ++ Y93) ([⟨7, S_tollhouseref10_Cond, cRef cS_tollhouseref10_Cond, x0.Cond⟩, ⟨8, S_tollhouseref10_Cond, cS_tollhouseref10_Cond, x0.Cond⟩, ⟨2, Value, cRaw, ptr b5 0⟩, ⟨1, S_tollhouseref12_Op, cRef cS_tollhouseref12_Op, x0⟩, ⟨0, S_tollhouseref12_Op, cS_tollhouseref12_Op, x0⟩] ++ X92) := S97
    clear S97
    refine op_call S98 (okX rfl (hX94 _ rfl)) Tryd.call42 (tollhouselaw10_To_ok (S98.at 1 rfl) S98.dirty_lt h23) (fun a100 w102 S101 => ?_)
    clear S98 a95 w96
    exact wpList_nil ⟨rfl, (0, undef), S101⟩
  · intro f110 X103 Y104 a106 w107 hX105 S108
    have S109 : St 13 (fun _ => False) D w a106 w107 ([Res.box b5 48 cS_pact_Op zS_pact_Op] ++ Y104) ([⟨2, Value, cRaw, ptr b5 0⟩, ⟨1, S_tollhouseref12_Op, cRef cS_tollhouseref12_Op, x0⟩, ⟨0, S_tollhouseref12_Op, cS_tollhouseref12_Op, x0⟩] ++ X103) := S108
    clear S108
    refine op_fieldAddrr S109 (okX rfl (hX105 _ rfl)) (S109.at 1 rfl) Tryd.underlying32 rfl Tryd.sizeOf23 rfl LS_tollhouseref12_Op_Id rfl (fun a111 S112 => ?_)
    clear S109 a106
    exact wpList_nil ⟨rfl, (0, undef), S112⟩
  · intro f120 X113 Y114 a116 w117 hX115 S118
    have S119 : St 13 (fun _ => False) D w a116 w117 ([Res.box b5 48 cS_pact_Op zS_pact_Op] ++ Y114) ([⟨10, Int, cRef (cInt .u64), x0.Id⟩, ⟨2, Value, cRaw, ptr b5 0⟩, ⟨1, S_tollhouseref12_Op, cRef cS_tollhouseref12_Op, x0⟩, ⟨0, S_tollhouseref12_Op, cS_tollhouseref12_Op, x0⟩] ++ X113) := S118
    clear S118
    refine op_loadr S119 (okX rfl (hX115 _ rfl)) (S119.at 0 rfl) Tryd.isAgg23 Tryd.sizeOf23 (fun a121 S122 => ?_)
    clear S119 a116
    exact wpList_nil ⟨rfl, (0, undef), S122⟩
  · intro f127 a123 w124 _ S125
    have S126 : St 13 (fun _ => False) D w a123 w124 [Res.box b5 48 cS_pact_Op zS_pact_Op] [⟨11, Int, (cInt .u64), x0.Id⟩, ⟨10, Int, cRef (cInt .u64), x0.Id⟩, ⟨9, S_api_Cond, cS_api_Cond, y22⟩, ⟨8, S_tollhouseref10_Cond, cS_tollhouseref10_Cond, x0.Cond⟩, ⟨7, S_tollhouseref10_Cond, cRef cS_tollhouseref10_Cond, x0.Cond⟩, ⟨6, Int, (cInt .u64), x0.Amount⟩, ⟨5, Int, cRef (cInt .u64), x0.Amount⟩, ⟨4, Int, (cInt .i64), x0.Kind⟩, ⟨3, Int, cRef (cInt .i64), x0.Kind⟩, ⟨2, Value, cRaw, ptr b5 0⟩, ⟨1, S_tollhouseref12_Op, cRef cS_tollhouseref12_Op, x0⟩, ⟨0, S_tollhouseref12_Op, cS_tollhouseref12_Op, x0⟩] := S125
    clear S125 S8
    refine op_build (y := ({ Kind := x0.Kind, Amount := x0.Amount, Cond := y22, Id := x0.Id } : S_pact_Op)) S126 rfl rfl Tryd.underlying48 Tryd.zeroValue48 zS_pact_Op_ok places48 (.cons (S126.at 7 rfl) (cInt_flat _) LS_pact_Op_Kind rfl (.cons (S126.at 5 rfl) (cInt_flat _) LS_pact_Op_Amount rfl (.cons (S126.at 2 rfl) cS_api_Cond_flat LS_pact_Op_Cond rfl (.cons (S126.at 0 rfl) (cInt_flat _) LS_pact_Op_Id rfl .nil)))) (fun a128 S129 => ?_)
    clear S126 a123
    refine op_store S129 0 rfl (S129.raw 10 rfl) (S129.at 0 rfl) (Lens.id _) cS_pact_Op_flat Tryd.sizeOf48 (fun w130 S131 => ?_)
    clear S129 w124
    refine wpList_nil ?_
    refine hK9 _ _ ?_
    clear hK9 K9
    refine wp_ret ?_
    cases hr24
    exact retc S131 rfl (cellv S131 10 0 rfl rfl Tryd.isAgg48 Tryd.sizeOf48)  
/-- tollhouse/tollhouseref31.Wish -/
noncomputable def tollhouseref31_Wish (x0 : S_tollhouseref12_Op) : Option (List UInt8) :=
  (if decide (x0.Kind = 0) then some ([112, 97, 115, 115] : List UInt8) else (if decide (x0.Kind = 1) then ((tollhouseref31_Num x0.Amount).bind fun y38 => (if ([112, 97, 121, 32] : List UInt8).length + y38.length ≤ 9223372036854775807 then some (([112, 97, 121, 32] : List UInt8) ++ y38) else none)) else (if decide (x0.Kind = 2) then ((tollhouseref31_Num x0.Cond.Id).bind fun y66 => (if ([108, 111, 99, 107, 32] : List UInt8).length + y66.length ≤ 9223372036854775807 then (if (([108, 111, 99, 107, 32] : List UInt8) ++ y66).length + ([32] : List UInt8).length ≤ 9223372036854775807 then ((tollhouseref31_Num x0.Cond.Amount).bind fun y86 => (if ((([108, 111, 99, 107, 32] : List UInt8) ++ y66) ++ ([32] : List UInt8)).length + y86.length ≤ 9223372036854775807 then (if (((([108, 111, 99, 107, 32] : List UInt8) ++ y66) ++ ([32] : List UInt8)) ++ y86).length + ([32] : List UInt8).length ≤ 9223372036854775807 then ((tollhouseref31_Num x0.Cond.Expiry).bind fun y106 => (if ((((([108, 111, 99, 107, 32] : List UInt8) ++ y66) ++ ([32] : List UInt8)) ++ y86) ++ ([32] : List UInt8)).length + y106.length ≤ 9223372036854775807 then (if (((((([108, 111, 99, 107, 32] : List UInt8) ++ y66) ++ ([32] : List UInt8)) ++ y86) ++ ([32] : List UInt8)) ++ y106).length + ([32] : List UInt8).length ≤ 9223372036854775807 then ((tollhouseref31_Short x0.Cond.Hash).bind fun y126 => (if ((((((([108, 111, 99, 107, 32] : List UInt8) ++ y66) ++ ([32] : List UInt8)) ++ y86) ++ ([32] : List UInt8)) ++ y106) ++ ([32] : List UInt8)).length + y126.length ≤ 9223372036854775807 then some (((((((([108, 111, 99, 107, 32] : List UInt8) ++ y66) ++ ([32] : List UInt8)) ++ y86) ++ ([32] : List UInt8)) ++ y106) ++ ([32] : List UInt8)) ++ y126) else none)) else none) else none)) else none) else none)) else none) else none)) else (if decide (x0.Kind = 3) then ((tollhouseref31_Num x0.Id).bind fun y381 => (if ([100, 111, 110, 101, 32] : List UInt8).length + y381.length ≤ 9223372036854775807 then some (([100, 111, 110, 101, 32] : List UInt8) ++ y381) else none)) else (if decide (x0.Kind = 4) then ((tollhouseref31_Num x0.Id).bind fun y407 => (if ([117, 110, 100, 111, 32] : List UInt8).length + y407.length ≤ 9223372036854775807 then some (([117, 110, 100, 111, 32] : List UInt8) ++ y407) else none)) else (if decide (x0.Kind = 5) then ((tollhouseref31_Num x0.Amount).bind fun y433 => (if ([116, 97, 107, 101, 32] : List UInt8).length + y433.length ≤ 9223372036854775807 then some (([116, 97, 107, 101, 32] : List UInt8) ++ y433) else none)) else ((tollhouseref31_Int x0.Kind).bind fun y451 => some y451)))))))
set_option maxRecDepth 100000 in
set_option maxHeartbeats 8000000 in
theorem tollhouseref31_Wish_ok {D : Dirty} {w : World} {v0 : Value} {x0 : S_tollhouseref12_Op} {r : (List UInt8)} (h0 : cS_tollhouseref12_Op.val D w v0 x0) (hD : ∀ k, D k → k < w.heap.size) (hr : tollhouseref31_Wish x0 = some r) :
    Calls Tryd.prog 14 [v0].toArray w (Ret cStr D w r) := by
  refine calls_start (n := 59) Tryd.func14 rfl rfl ?_
  have S := St.start (w := w) (args := [v0].toArray) 59 rfl hD
  replace S := S.arg 0 rfl (val_dirt0 h0)
  unfold tollhouseref31_Wish at hr
  refine wp_seq_k (fun K1 hK1 => ?_)
  refine wp_region_lit ?_
  refine op_boxr S rfl (S.at 0 rfl) cS_tollhouseref12_Op_flat (fun a2 w4 S3 => ?_)
  clear S
  refine op_assign S3 rfl (cPlain_mk (f := strV) ([] : List UInt8)) (fun a5 S6 => ?_)
  clear S3 a2
  refine wpList_nil ?_
  refine hK1 _ _ ?_
  clear hK1 K1
  refine wp_seq_k (fun K7 hK7 => ?_)
  refine wp_seq_k (fun K8 hK8 => ?_)
  refine wp_region_lit ?_
  refine op_fieldAddrr S6 rfl (S6.at 1 rfl) Tryd.underlying32 rfl Tryd.sizeOf3 rfl LS_tollhouseref12_Op_Kind rfl (fun a9 S10 => ?_)
  clear S6 a5
  refine op_loadr S10 rfl (S10.at 0 rfl) Tryd.isAgg3 Tryd.sizeOf3 (fun a11 S12 => ?_)
  clear S10 a9
  refine wpList_nil ?_
  refine hK8 _ _ ?_
  clear hK8 K8
  refine wp_block ?_
  refine wp_seq_k (fun K13 hK13 => ?_)
  refine wp_region_lit ?_
  refine op_eql S12 rfl (S12.int 0 rfl) rfl (fun a14 S15 => ?_)
  clear S12 a11
  refine op_assign S15 rfl (S15.at 0 rfl) (fun a16 S17 => ?_)
  clear S15 a14
  refine wpList_nil ?_
  refine hK13 _ _ ?_
  clear hK13 K13
  rcases cond_some hr with ⟨b18, hr19⟩ | ⟨b18, hr20⟩
  · clear hr
    refine c_true (S17.bool 0 rfl) b18 ?_
    refine wp_seq_k (fun K21 hK21 => ?_)
    refine wp_region_lit ?_
    have S22 := S17.erase 4
    clear S17
    refine op_assign S22 rfl (cPlain_mk (f := strV) ([112, 97, 115, 115] : List UInt8)) (fun a23 S24 => ?_)
    clear S22 a16
    refine wpList_nil ?_
    refine hK21 _ _ ?_
    clear hK21 K21
    refine wp_ret ?_
    cases hr19
    exact ret1 S24 rfl 0 rfl
  · clear hr
    refine c_false (S17.bool 0 rfl) b18 ?_
    refine wp_seq_k (fun K25 hK25 => ?_)
    refine wp_region_lit ?_
    refine op_eql S17 rfl (S17.int 2 rfl) rfl (fun a26 S27 => ?_)
    clear S17 a16
    refine op_assign S27 rfl (S27.at 0 rfl) (fun a28 S29 => ?_)
    clear S27 a26
    refine wpList_nil ?_
    refine hK25 _ _ ?_
    clear hK25 K25
    rcases cond_some hr20 with ⟨b30, hr31⟩ | ⟨b30, hr32⟩
    · clear hr20
      refine c_true (S29.bool 0 rfl) b30 ?_
      refine wp_seq_k (fun K33 hK33 => ?_)
      refine wp_region_lit ?_
      refine op_fieldAddrr S29 rfl (S29.at 7 rfl) Tryd.underlying32 rfl Tryd.sizeOf23 rfl LS_tollhouseref12_Op_Amount rfl (fun a34 S35 => ?_)
      clear S29 a28
      refine op_loadr S35 rfl (S35.at 0 rfl) Tryd.isAgg23 Tryd.sizeOf23 (fun a36 S37 => ?_)
      clear S35 a34
      obtain ⟨y38, h39, hr40⟩ := bind_some hr31
      clear hr31
      refine op_call S37 rfl Tryd.call43 (tollhouseref31_Num_ok (S37.at 0 rfl) S37.dirty_lt h39) (fun a41 w43 S42 => ?_)
      clear S37 a36 w4
      obtain ⟨g44, hr45⟩ := guard_some hr40
      clear hr40
      refine op_cat S42 rfl rfl (S42.str 0 rfl) g44 (fun a46 S47 => ?_)
      clear S42 a41
      have S48 := S47.erase 10
      clear S47
      refine op_assign S48 rfl (S48.at 0 rfl) (fun a49 S50 => ?_)
      clear S48 a46
      refine wpList_nil ?_
      refine hK33 _ _ ?_
      clear hK33 K33
      refine wp_ret ?_
      cases hr45
      exact ret1 S50 rfl 0 rfl
    · clear hr20
      refine c_false (S29.bool 0 rfl) b30 ?_
      refine wp_seq_k (fun K51 hK51 => ?_)
      refine wp_region_lit ?_
      refine op_eql S29 rfl (S29.int 4 rfl) rfl (fun a52 S53 => ?_)
      clear S29 a28
      refine op_assign S53 rfl (S53.at 0 rfl) (fun a54 S55 => ?_)
      clear S53 a52
      refine wpList_nil ?_
      refine hK51 _ _ ?_
      clear hK51 K51
      rcases cond_some hr32 with ⟨b56, hr57⟩ | ⟨b56, hr58⟩
      · clear hr32
        refine c_true (S55.bool 0 rfl) b56 ?_
        refine wp_seq_k (fun K59 hK59 => ?_)
        obtain ⟨y66, h67, hr68⟩ := bind_some hr57
        clear hr57
        obtain ⟨g72, hr73⟩ := guard_some hr68
        clear hr68
        obtain ⟨g76, hr77⟩ := guard_some hr73
        clear hr73
        obtain ⟨y86, h87, hr88⟩ := bind_some hr77
        clear hr77
        obtain ⟨g92, hr93⟩ := guard_some hr88
        clear hr88
        obtain ⟨g96, hr97⟩ := guard_some hr93
        clear hr93
        obtain ⟨y106, h107, hr108⟩ := bind_some hr97
        clear hr97
        obtain ⟨g112, hr113⟩ := guard_some hr108
        clear hr108
        obtain ⟨g116, hr117⟩ := guard_some hr113
        clear hr113
        obtain ⟨y126, h127, hr128⟩ := bind_some hr117
        clear hr117
        refine wp_drawn follows_mixed [[], [0], [0, 1], [0, 1, 2], [0, 1, 2, 3], [0, 1, 2, 3, 4], [], [6], [6, 7], [0, 1, 2, 3, 6, 7, 8], [0, 1, 2, 3, 4, 5, 6, 7, 8, 9], [0, 1, 2, 3, 4, 5, 6, 7, 8, 9, 10], [], [12], [12, 13], [0, 1, 2, 3, 6, 7, 8, 9, 12, 13, 14], [0, 1, 2, 3, 4, 5, 6, 7, 8, 9, 10, 11, 12, 13, 14, 15], [0, 1, 2, 3, 4, 5, 6, 7, 8, 9, 10, 11, 12, 13, 14, 15, 16], [], [18], [18, 19], [0, 1, 2, 3, 6, 7, 8, 9, 12, 13, 14, 15, 18, 19, 20], [0, 1, 2, 3, 4, 5, 6, 7, 8, 9, 10, 11, 12, 13, 14, 15, 16, 17, 18, 19, 20, 21], [0, 1, 2, 3, 4, 5, 6, 7, 8, 9, 10, 11, 12, 13, 14, 15, 16, 17, 18, 19, 20, 21, 22]] [none, none, none, none, none, none, none, none, none, none, none, none, none, none, none, none, none, none, none, none, none, none] 22 rfl rfl 0 rfl (fun i p => List.getD [[⟨15, S_tollhouseref10_Cond, cRef cS_tollhouseref10_Cond, x0.Cond⟩], [⟨16, Int, cRef (cInt .u64), x0.Cond.Id⟩], [⟨17, Int, (cInt .u64), x0.Cond.Id⟩], [⟨18, (List UInt8), cStr, y66⟩], [⟨19, (List UInt8), cStr, ([108, 111, 99, 107, 32] : List UInt8) ++ y66⟩], [⟨20, (List UInt8), cStr, (([108, 111, 99, 107, 32] : List UInt8) ++ y66) ++ ([32] : List UInt8)⟩], [⟨21, S_tollhouseref10_Cond, cRef cS_tollhouseref10_Cond, x0.Cond⟩], [⟨22, Int, cRef (cInt .u64), x0.Cond.Amount⟩], [⟨23, Int, (cInt .u64), x0.Cond.Amount⟩], [⟨24, (List UInt8), cStr, y86⟩], [⟨25, (List UInt8), cStr, ((([108, 111, 99, 107, 32] : List UInt8) ++ y66) ++ ([32] : List UInt8)) ++ y86⟩], [⟨26, (List UInt8), cStr, (((([108, 111, 99, 107, 32] : List UInt8) ++ y66) ++ ([32] : List UInt8)) ++ y86) ++ ([32] : List UInt8)⟩], [⟨27, S_tollhouseref10_Cond, cRef cS_tollhouseref10_Cond, x0.Cond⟩], [⟨28, Int, cRef (cInt .u64), x0.Cond.Expiry⟩], [⟨29, Int, (cInt .u64), x0.Cond.Expiry⟩], [⟨30, (List UInt8), cStr, y106⟩], [⟨31, (List UInt8), cStr, ((((([108, 111, 99, 107, 32] : List UInt8) ++ y66) ++ ([32] : List UInt8)) ++ y86) ++ ([32] : List UInt8)) ++ y106⟩], [⟨32, (List UInt8), cStr, (((((([108, 111, 99, 107, 32] : List UInt8) ++ y66) ++ ([32] : List UInt8)) ++ y86) ++ ([32] : List UInt8)) ++ y106) ++ ([32] : List UInt8)⟩], [⟨33, S_tollhouseref10_Cond, cRef cS_tollhouseref10_Cond, x0.Cond⟩], [⟨34, (List Int), cRef (cArr 32 (cInt .u8)), x0.Cond.Hash⟩], [⟨35, (List Int), (cArr 32 (cInt .u8)), x0.Cond.Hash⟩], [⟨36, (List UInt8), cStr, y126⟩]] i []) (fun _ _ _ => []) (fun _ => (0, undef)) S55 rfl (fun _ => rfl) (Obs.cons ?_ (Obs.cons ?_ (Obs.cons ?_ (Obs.cons ?_ (Obs.cons ?_ (Obs.cons ?_ (Obs.cons ?_ (Obs.cons ?_ (Obs.cons ?_ (Obs.cons ?_ (Obs.cons ?_ (Obs.cons ?_ (Obs.cons ?_ (Obs.cons ?_ (Obs.cons ?_ (Obs.cons ?_ (Obs.cons ?_ (Obs.cons ?_ (Obs.cons ?_ (Obs.cons ?_ (Obs.cons ?_ (Obs.cons ?_ Obs.nil)))))))))))))))))))))) ?_
        · intro f139 X132 Y133 a135 w136 hX134 S137
          have S138 : St 59 (fun _ => False) D w a135 w136 ([] ++ Y133) ([⟨13, Bool, cBool, decide (x0.Kind = 2)⟩, ⟨14, Bool, cBool, decide (x0.Kind = 2)⟩, ⟨7, Bool, cBool, decide (x0.Kind = 1)⟩, ⟨8, Bool, cBool, decide (x0.Kind = 1)⟩, ⟨5, Bool, cBool, decide (x0.Kind = 0)⟩, ⟨6, Bool, cBool, decide (x0.Kind = 0)⟩, ⟨4, Int, (cInt .i64), x0.Kind⟩, ⟨3, Int, cRef (cInt .i64), x0.Kind⟩, ⟨2, (List UInt8), cStr, ([] : List UInt8)⟩, ⟨1, S_tollhouseref12_Op, cRef cS_tollhouseref12_Op, x0⟩, ⟨0, S_tollhouseref12_Op, cS_tollhouseref12_Op, x0⟩] ++ X132) := S137
          clear S137
          refine op_fieldAddrr S138 (okX rfl (hX134 _ rfl)) (S138.at 9 rfl) Tryd.underlying32 rfl Tryd.sizeOf30 rfl LS_tollhouseref12_Op_Cond rfl (fun a140 S141 => ?_)
          clear S138 a135
          exact wpList_nil ⟨rfl, (0, undef), S141⟩
        · intro f149 X142 Y143 a145 w146 hX144 S147
          have S148 : St 59 (fun _ => False) D w a145 w146 ([] ++ Y143) ([⟨15, S_tollhouseref10_Cond, cRef cS_tollhouseref10_Cond, x0.Cond⟩, ⟨13, Bool, cBool, decide (x0.Kind = 2)⟩, ⟨14, Bool, cBool, decide (x0.Kind = 2)⟩, ⟨7, Bool, cBool, decide (x0.Kind = 1)⟩, ⟨8, Bool, cBool, decide (x0.Kind = 1)⟩, ⟨5, Bool, cBool, decide (x0.Kind = 0)⟩, ⟨6, Bool, cBool, decide (x0.Kind = 0)⟩, ⟨4, Int, (cInt .i64), x0.Kind⟩, ⟨3, Int, cRef (cInt .i64), x0.Kind⟩, ⟨2, (List UInt8), cStr, ([] : List UInt8)⟩, ⟨1, S_tollhouseref12_Op, cRef cS_tollhouseref12_Op, x0⟩, ⟨0, S_tollhouseref12_Op, cS_tollhouseref12_Op, x0⟩] ++ X142) := S147
          clear S147
          refine op_fieldAddrr S148 (okX rfl (hX144 _ rfl)) (S148.at 0 rfl) Tryd.underlying30 rfl Tryd.sizeOf23 rfl LS_tollhouseref10_Cond_Id rfl (fun a150 S151 => ?_)
          clear S148 a145
          exact wpList_nil ⟨rfl, (0, undef), S151⟩
        · intro f159 X152 Y153 a155 w156 hX154 S157
          have S158 : St 59 (fun _ => False) D w a155 w156 ([] ++ Y153) ([⟨15, S_tollhouseref10_Cond, cRef cS_tollhouseref10_Cond, x0.Cond⟩, ⟨16, Int, cRef (cInt .u64), x0.Cond.Id⟩, ⟨13, Bool, cBool, decide (x0.Kind = 2)⟩, ⟨14, Bool, cBool, decide (x0.Kind = 2)⟩, ⟨7, Bool, cBool, decide (x0.Kind = 1)⟩, ⟨8, Bool, cBool, decide (x0.Kind = 1)⟩, ⟨5, Bool, cBool, decide (x0.Kind = 0)⟩, ⟨6, Bool, cBool, decide (x0.Kind = 0)⟩, ⟨4, Int, (cInt .i64), x0.Kind⟩, ⟨3, Int, cRef (cInt .i64), x0.Kind⟩, ⟨2, (List UInt8), cStr, ([] : List UInt8)⟩, ⟨1, S_tollhouseref12_Op, cRef cS_tollhouseref12_Op, x0⟩, ⟨0, S_tollhouseref12_Op, cS_tollhouseref12_Op, x0⟩] ++ X152) := S157
          clear S157
          refine op_loadr S158 (okX rfl (hX154 _ rfl)) (S158.at 1 rfl) Tryd.isAgg23 Tryd.sizeOf23 (fun a160 S161 => ?_)
          clear S158 a155
          exact wpList_nil ⟨rfl, (0, undef), S161⟩
        · intro f169 X162 Y163 a165 w166 hX164 S167
          have S168 : St 59 (fun _ => False) D w a165 w166 ([] ++ Y163) ([⟨15, S_tollhouseref10_Cond, cRef cS_tollhouseref10_Cond, x0.Cond⟩, ⟨16, Int, cRef (cInt .u64), x0.Cond.Id⟩, ⟨17, Int, (cInt .u64), x0.Cond.Id⟩, ⟨13, Bool, cBool, decide (x0.Kind = 2)⟩, ⟨14, Bool, cBool, decide (x0.Kind = 2)⟩, ⟨7, Bool, cBool, decide (x0.Kind = 1)⟩, ⟨8, Bool, cBool, decide (x0.Kind = 1)⟩, ⟨5, Bool, cBool, decide (x0.Kind = 0)⟩, ⟨6, Bool, cBool, decide (x0.Kind = 0)⟩, ⟨4, Int, (cInt .i64), x0.Kind⟩, ⟨3, Int, cRef (cInt .i64), x0.Kind⟩, ⟨2, (List UInt8), cStr, ([] : List UInt8)⟩, ⟨1, S_tollhouseref12_Op, cRef cS_tollhouseref12_Op, x0⟩, ⟨0, S_tollhouseref12_Op, cS_tollhouseref12_Op, x0⟩] ++ X162) := S167
          clear S167
          refine op_call S168 (okX rfl (hX164 _ rfl)) Tryd.call43 (tollhouseref31_Num_ok (S168.at 2 rfl) S168.dirty_lt h67) (fun a170 w172 S171 => ?_)
          clear S168 a165 w166
          exact wpList_nil ⟨rfl, (0, undef), S171⟩
        · intro f180 X173 Y174 a176 w177 hX175 S178
          have S179 : St 59 (fun _ => False) D w a176 w177 ([] ++ Y174) ([⟨15, S_tollhouseref10_Cond, cRef cS_tollhouseref10_Cond, x0.Cond⟩, ⟨16, Int, cRef (cInt .u64), x0.Cond.Id⟩, ⟨17, Int, (cInt .u64), x0.Cond.Id⟩, ⟨18, (List UInt8), cStr, y66⟩, ⟨13, Bool, cBool, decide (x0.Kind = 2)⟩, ⟨14, Bool, cBool, decide (x0.Kind = 2)⟩, ⟨7, Bool, cBool, decide (x0.Kind = 1)⟩, ⟨8, Bool, cBool, decide (x0.Kind = 1)⟩, ⟨5, Bool, cBool, decide (x0.Kind = 0)⟩, ⟨6, Bool, cBool, decide (x0.Kind = 0)⟩, ⟨4, Int, (cInt .i64), x0.Kind⟩, ⟨3, Int, cRef (cInt .i64), x0.Kind⟩, ⟨2, (List UInt8), cStr, ([] : List UInt8)⟩, ⟨1, S_tollhouseref12_Op, cRef cS_tollhouseref12_Op, x0⟩, ⟨0, S_tollhouseref12_Op, cS_tollhouseref12_Op, x0⟩] ++ X173) := S178
          clear S178
          refine op_cat S179 (okX rfl (hX175 _ rfl)) rfl (S179.str 3 rfl) g72 (fun a181 S182 => ?_)
          clear S179 a176
          exact wpList_nil ⟨rfl, (0, undef), S182⟩
        · intro f190 X183 Y184 a186 w187 hX185 S188
          have S189 : St 59 (fun _ => False) D w a186 w187 ([] ++ Y184) ([⟨15, S_tollhouseref10_Cond, cRef cS_tollhouseref10_Cond, x0.Cond⟩, ⟨16, Int, cRef (cInt .u64), x0.Cond.Id⟩, ⟨17, Int, (cInt .u64), x0.Cond.Id⟩, ⟨18, (List UInt8), cStr, y66⟩, ⟨19, (List UInt8), cStr, ([108, 111, 99, 107, 32] : List UInt8) ++ y66⟩, ⟨13, Bool, cBool, decide (x0.Kind = 2)⟩, ⟨14, Bool, cBool, decide (x0.Kind = 2)⟩, ⟨7, Bool, cBool, decide (x0.Kind = 1)⟩, ⟨8, Bool, cBool, decide (x0.Kind = 1)⟩, ⟨5, Bool, cBool, decide (x0.Kind = 0)⟩, ⟨6, Bool, cBool, decide (x0.Kind = 0)⟩, ⟨4, Int, (cInt .i64), x0.Kind⟩, ⟨3, Int, cRef (cInt .i64), x0.Kind⟩, ⟨2, (List UInt8), cStr, ([] : List UInt8)⟩, ⟨1, S_tollhouseref12_Op, cRef cS_tollhouseref12_Op, x0⟩, ⟨0, S_tollhouseref12_Op, cS_tollhouseref12_Op, x0⟩] ++ X183) := S188
          clear S188
          refine op_cat S189 (okX rfl (hX185 _ rfl)) (S189.str 4 rfl) rfl g76 (fun a191 S192 => ?_)
          clear S189 a186
          exact wpList_nil ⟨rfl, (0, undef), S192⟩
        · intro f200 X193 Y194 a196 w197 hX195 S198
          have S199 : St 59 (fun _ => False) D w a196 w197 ([] ++ Y194) ([⟨13, Bool, cBool, decide (x0.Kind = 2)⟩, ⟨14, Bool, cBool, decide (x0.Kind = 2)⟩, ⟨7, Bool, cBool, decide (x0.Kind = 1)⟩, ⟨8, Bool, cBool, decide (x0.Kind = 1)⟩, ⟨5, Bool, cBool, decide (x0.Kind = 0)⟩, ⟨6, Bool, cBool, decide (x0.Kind = 0)⟩, ⟨4, Int, (cInt .i64), x0.Kind⟩, ⟨3, Int, cRef (cInt .i64), x0.Kind⟩, ⟨2, (List UInt8), cStr, ([] : List UInt8)⟩, ⟨1, S_tollhouseref12_Op, cRef cS_tollhouseref12_Op, x0⟩, ⟨0, S_tollhouseref12_Op, cS_tollhouseref12_Op, x0⟩] ++ X193) := S198
          clear S198
          refine op_fieldAddrr S199 (okX rfl (hX195 _ rfl)) (S199.at 9 rfl) Tryd.underlying32 rfl Tryd.sizeOf30 rfl LS_tollhouseref12_Op_Cond rfl (fun a201 S202 => ?_)
          clear S199 a196
          exact wpList_nil ⟨rfl, (0, undef), S202⟩
        · intro f210 X203 Y204 a206 w207 hX205 S208
          have S209 : St 59 (fun _ => False) D w a206 w207 ([] ++ Y204) ([⟨21, S_tollhouseref10_Cond, cRef cS_tollhouseref10_Cond, x0.Cond⟩, ⟨13, Bool, cBool, decide (x0.Kind = 2)⟩, ⟨14, Bool, cBool, decide (x0.Kind = 2)⟩, ⟨7, Bool, cBool, decide (x0.Kind = 1)⟩, ⟨8, Bool, cBool, decide (x0.Kind = 1)⟩, ⟨5, Bool, cBool, decide (x0.Kind = 0)⟩, ⟨6, Bool, cBool, decide (x0.Kind = 0)⟩, ⟨4, Int, (cInt .i64), x0.Kind⟩, ⟨3, Int, cRef (cInt .i64), x0.Kind⟩, ⟨2, (List UInt8), cStr, ([] : List UInt8)⟩, ⟨1, S_tollhouseref12_Op, cRef cS_tollhouseref12_Op, x0⟩, ⟨0, S_tollhouseref12_Op, cS_tollhouseref12_Op, x0⟩] ++ X203) := S208
          clear S208
          refine op_fieldAddrr S209 (okX rfl (hX205 _ rfl)) (S209.at 0 rfl) Tryd.underlying30 rfl Tryd.sizeOf23 rfl LS_tollhouseref10_Cond_Amount rfl (fun a211 S212 => ?_)
          clear S209 a206
          exact wpList_nil ⟨rfl, (0, undef), S212⟩
        · intro f220 X213 Y214 a216 w217 hX215 S218
          have S219 : St 59 (fun _ => False) D w a216 w217 ([] ++ Y214) ([⟨21, S_tollhouseref10_Cond, cRef cS_tollhouseref10_Cond, x0.Cond⟩, ⟨22, Int, cRef (cInt .u64), x0.Cond.Amount⟩, ⟨13, Bool, cBool, decide (x0.Kind = 2)⟩, ⟨14, Bool, cBool, decide (x0.Kind = 2)⟩, ⟨7, Bool, cBool, decide (x0.Kind = 1)⟩, ⟨8, Bool, cBool, decide (x0.Kind = 1)⟩, ⟨5, Bool, cBool, decide (x0.Kind = 0)⟩, ⟨6, Bool, cBool, decide (x0.Kind = 0)⟩, ⟨4, Int, (cInt .i64), x0.Kind⟩, ⟨3, Int, cRef (cInt .i64), x0.Kind⟩, ⟨2, (List UInt8), cStr, ([] : List UInt8)⟩, ⟨1, S_tollhouseref12_Op, cRef cS_tollhouseref12_Op, x0⟩, ⟨0, S_tollhouseref12_Op, cS_tollhouseref12_Op, x0⟩] ++ X213) := S218
          clear S218
          refine op_loadr S219 (okX rfl (hX215 _ rfl)) (S219.at 1 rfl) Tryd.isAgg23 Tryd.sizeOf23 (fun a221 S222 => ?_)
          clear S219 a216
          exact wpList_nil ⟨rfl, (0, undef), S222⟩
        · intro f230 X223 Y224 a226 w227 hX225 S228
          have S229 : St 59 (fun _ => False) D w a226 w227 ([] ++ Y224) ([⟨15, S_tollhouseref10_Cond, cRef cS_tollhouseref10_Cond, x0.Cond⟩, ⟨16, Int, cRef (cInt .u64), x0.Cond.Id⟩, ⟨17, Int, (cInt .u64), x0.Cond.Id⟩, ⟨18, (List UInt8), cStr, y66⟩, ⟨21, S_tollhouseref10_Cond, cRef cS_tollhouseref10_Cond, x0.Cond⟩, ⟨22, Int, cRef (cInt .u64), x0.Cond.Amount⟩, ⟨23, Int, (cInt .u64), x0.Cond.Amount⟩, ⟨13, Bool, cBool, decide (x0.Kind = 2)⟩, ⟨14, Bool, cBool, decide (x0.Kind = 2)⟩, ⟨7, Bool, cBool, decide (x0.Kind = 1)⟩, ⟨8, Bool, cBool, decide (x0.Kind = 1)⟩, ⟨5, Bool, cBool, decide (x0.Kind = 0)⟩, ⟨6, Bool, cBool, decide (x0.Kind = 0)⟩, ⟨4, Int, (cInt .i64), x0.Kind⟩, ⟨3, Int, cRef (cInt .i64), x0.Kind⟩, ⟨2, (List UInt8), cStr, ([] : List UInt8)⟩, ⟨1, S_tollhouseref12_Op, cRef cS_tollhouseref12_Op, x0⟩, ⟨0, S_tollhouseref12_Op, cS_tollhouseref12_Op, x0⟩] ++ X223) := S228
          clear S228
          refine op_call S229 (okX rfl (hX225 _ rfl)) Tryd.call43 (tollhouseref31_Num_ok (S229.at 6 rfl) S229.dirty_lt h87) (fun a231 w233 S232 => ?_)
          clear S229 a226 w227
          exact wpList_nil ⟨rfl, (0, undef), S232⟩
        · intro f241 X234 Y235 a237 w238 hX236 S239
          have S240 : St 59 (fun _ => False) D w a237 w238 ([] ++ Y235) ([⟨15, S_tollhouseref10_Cond, cRef cS_tollhouseref10_Cond, x0.Cond⟩, ⟨16, Int, cRef (cInt .u64), x0.Cond.Id⟩, ⟨17, Int, (cInt .u64), x0.Cond.Id⟩, ⟨18, (List UInt8), cStr, y66⟩, ⟨19, (List UInt8), cStr, ([108, 111, 99, 107, 32] : List UInt8) ++ y66⟩, ⟨20, (List UInt8), cStr, (([108, 111, 99, 107, 32] : List UInt8) ++ y66) ++ ([32] : List UInt8)⟩, ⟨21, S_tollhouseref10_Cond, cRef cS_tollhouseref10_Cond, x0.Cond⟩, ⟨22, Int, cRef (cInt .u64), x0.Cond.Amount⟩, ⟨23, Int, (cInt .u64), x0.Cond.Amount⟩, ⟨24, (List UInt8), cStr, y86⟩, ⟨13, Bool, cBool, decide (x0.Kind = 2)⟩, ⟨14, Bool, cBool, decide (x0.Kind = 2)⟩, ⟨7, Bool, cBool, decide (x0.Kind = 1)⟩, ⟨8, Bool, cBool, decide (x0.Kind = 1)⟩, ⟨5, Bool, cBool, decide (x0.Kind = 0)⟩, ⟨6, Bool, cBool, decide (x0.Kind = 0)⟩, ⟨4, Int, (cInt .i64), x0.Kind⟩, ⟨3, Int, cRef (cInt .i64), x0.Kind⟩, ⟨2, (List UInt8), cStr, ([] : List UInt8)⟩, ⟨1, S_tollhouseref12_Op, cRef cS_tollhouseref12_Op, x0⟩, ⟨0, S_tollhouseref12_Op, cS_tollhouseref12_Op, x0⟩] ++ X234) := S239
          clear S239
          refine op_cat S240 (okX rfl (hX236 _ rfl)) (S240.str 5 rfl) (S240.str 9 rfl) g92 (fun a242 S243 => ?_)
          clear S240 a237
          exact wpList_nil ⟨rfl, (0, undef), S243⟩
        · intro f251 X244 Y245 a247 w248 hX246 S249
          have S250 : St 59 (fun _ => False) D w a247 w248 ([] ++ Y245) ([⟨15, S_tollhouseref10_Cond, cRef cS_tollhouseref10_Cond, x0.Cond⟩, ⟨16, Int, cRef (cInt .u64), x0.Cond.Id⟩, ⟨17, Int, (cInt .u64), x0.Cond.Id⟩, ⟨18, (List UInt8), cStr, y66⟩, ⟨19, (List UInt8), cStr, ([108, 111, 99, 107, 32] : List UInt8) ++ y66⟩, ⟨20, (List UInt8), cStr, (([108, 111, 99, 107, 32] : List UInt8) ++ y66) ++ ([32] : List UInt8)⟩, ⟨21, S_tollhouseref10_Cond, cRef cS_tollhouseref10_Cond, x0.Cond⟩, ⟨22, Int, cRef (cInt .u64), x0.Cond.Amount⟩, ⟨23, Int, (cInt .u64), x0.Cond.Amount⟩, ⟨24, (List UInt8), cStr, y86⟩, ⟨25, (List UInt8), cStr, ((([108, 111, 99, 107, 32] : List UInt8) ++ y66) ++ ([32] : List UInt8)) ++ y86⟩, ⟨13, Bool, cBool, decide (x0.Kind = 2)⟩, ⟨14, Bool, cBool, decide (x0.Kind = 2)⟩, ⟨7, Bool, cBool, decide (x0.Kind = 1)⟩, ⟨8, Bool, cBool, decide (x0.Kind = 1)⟩, ⟨5, Bool, cBool, decide (x0.Kind = 0)⟩, ⟨6, Bool, cBool, decide (x0.Kind = 0)⟩, ⟨4, Int, (cInt .i64), x0.Kind⟩, ⟨3, Int, cRef (cInt .i64), x0.Kind⟩, ⟨2, (List UInt8), cStr, ([] : List UInt8)⟩, ⟨1, S_tollhouseref12_Op, cRef cS_tollhouseref12_Op, x0⟩, ⟨0, S_tollhouseref12_Op, cS_tollhouseref12_Op, x0⟩] ++ X244) := S249
          clear S249
          refine op_cat S250 (okX rfl (hX246 _ rfl)) (S250.str 10 rfl) rfl g96 (fun a252 S253 => ?_)
          clear S250 a247
          exact wpList_nil ⟨rfl, (0, undef), S253⟩
        · intro f261 X254 Y255 a257 w258 hX256 S259
          have S260 : St 59 (fun _ => False) D w a257 w258 ([] ++ Y255) ([⟨13, Bool, cBool, decide (x0.Kind = 2)⟩, ⟨14, Bool, cBool, decide (x0.Kind = 2)⟩, ⟨7, Bool, cBool, decide (x0.Kind = 1)⟩, ⟨8, Bool, cBool, decide (x0.Kind = 1)⟩, ⟨5, Bool, cBool, decide (x0.Kind = 0)⟩, ⟨6, Bool, cBool, decide (x0.Kind = 0)⟩, ⟨4, Int, (cInt .i64), x0.Kind⟩, ⟨3, Int, cRef (cInt .i64), x0.Kind⟩, ⟨2, (List UInt8), cStr, ([] : List UInt8)⟩, ⟨1, S_tollhouseref12_Op, cRef cS_tollhouseref12_Op, x0⟩, ⟨0, S_tollhouseref12_Op, cS_tollhouseref12_Op, x0⟩] ++ X254) := S259
          clear S259
          refine op_fieldAddrr S260 (okX rfl (hX256 _ rfl)) (S260.at 9 rfl) Tryd.underlying32 rfl Tryd.sizeOf30 rfl LS_tollhouseref12_Op_Cond rfl (fun a262 S263 => ?_)
          clear S260 a257
          exact wpList_nil ⟨rfl, (0, undef), S263⟩
        · intro f271 X264 Y265 a267 w268 hX266 S269
          have S270 : St 59 (fun _ => False) D w a267 w268 ([] ++ Y265) ([⟨27, S_tollhouseref10_Cond, cRef cS_tollhouseref10_Cond, x0.Cond⟩, ⟨13, Bool, cBool, decide (x0.Kind = 2)⟩, ⟨14, Bool, cBool, decide (x0.Kind = 2)⟩, ⟨7, Bool, cBool, decide (x0.Kind = 1)⟩, ⟨8, Bool, cBool, decide (x0.Kind = 1)⟩, ⟨5, Bool, cBool, decide (x0.Kind = 0)⟩, ⟨6, Bool, cBool, decide (x0.Kind = 0)⟩, ⟨4, Int, (cInt .i64), x0.Kind⟩, ⟨3, Int, cRef (cInt .i64), x0.Kind⟩, ⟨2, (List UInt8), cStr, ([] : List UInt8)⟩, ⟨1, S_tollhouseref12_Op, cRef cS_tollhouseref12_Op, x0⟩, ⟨0, S_tollhouseref12_Op, cS_tollhouseref12_Op, x0⟩] ++ X264) := S269
          clear S269
          refine op_fieldAddrr S270 (okX rfl (hX266 _ rfl)) (S270.at 0 rfl) Tryd.underlying30 rfl Tryd.sizeOf23 rfl LS_tollhouseref10_Cond_Expiry rfl (fun a272 S273 => ?_)
          clear S270 a267
          exact wpList_nil ⟨rfl, (0, undef), S273⟩
        · intro f281 X274 Y275 a277 w278 hX276 S279
          have S280 : St 59 (fun _ => False) D w a277 w278 ([] ++ Y275) ([⟨27, S_tollhouseref10_Cond, cRef cS_tollhouseref10_Cond, x0.Cond⟩, ⟨28, Int, cRef (cInt .u64), x0.Cond.Expiry⟩, ⟨13, Bool, cBool, decide (x0.Kind = 2)⟩, ⟨14, Bool, cBool, decide (x0.Kind = 2)⟩, ⟨7, Bool, cBool, decide (x0.Kind = 1)⟩, ⟨8, Bool, cBool, decide (x0.Kind = 1)⟩, ⟨5, Bool, cBool, decide (x0.Kind = 0)⟩, ⟨6, Bool, cBool, decide (x0.Kind = 0)⟩, ⟨4, Int, (cInt .i64), x0.Kind⟩, ⟨3, Int, cRef (cInt .i64), x0.Kind⟩, ⟨2, (List UInt8), cStr, ([] : List UInt8)⟩, ⟨1, S_tollhouseref12_Op, cRef cS_tollhouseref12_Op, x0⟩, ⟨0, S_tollhouseref12_Op, cS_tollhouseref12_Op, x0⟩] ++ X274) := S279
          clear S279
          refine op_loadr S280 (okX rfl (hX276 _ rfl)) (S280.at 1 rfl) Tryd.isAgg23 Tryd.sizeOf23 (fun a282 S283 => ?_)
          clear S280 a277
          exact wpList_nil ⟨rfl, (0, undef), S283⟩
        · intro f291 X284 Y285 a287 w288 hX286 S289
          have S290 : St 59 (fun _ => False) D w a287 w288 ([] ++ Y285) ([⟨15, S_tollhouseref10_Cond, cRef cS_tollhouseref10_Cond, x0.Cond⟩, ⟨16, Int, cRef (cInt .u64), x0.Cond.Id⟩, ⟨17, Int, (cInt .u64), x0.Cond.Id⟩, ⟨18, (List UInt8), cStr, y66⟩, ⟨21, S_tollhouseref10_Cond, cRef cS_tollhouseref10_Cond, x0.Cond⟩, ⟨22, Int, cRef (cInt .u64), x0.Cond.Amount⟩, ⟨23, Int, (cInt .u64), x0.Cond.Amount⟩, ⟨24, (List UInt8), cStr, y86⟩, ⟨27, S_tollhouseref10_Cond, cRef cS_tollhouseref10_Cond, x0.Cond⟩, ⟨28, Int, cRef (cInt .u64), x0.Cond.Expiry⟩, ⟨29, Int, (cInt .u64), x0.Cond.Expiry⟩, ⟨13, Bool, cBool, decide (x0.Kind = 2)⟩, ⟨14, Bool, cBool, decide (x0.Kind = 2)⟩, ⟨7, Bool, cBool, decide (x0.Kind = 1)⟩, ⟨8, Bool, cBool, decide (x0.Kind = 1)⟩, ⟨5, Bool, cBool, decide (x0.Kind = 0)⟩, ⟨6, Bool, cBool, decide (x0.Kind = 0)⟩, ⟨4, Int, (cInt .i64), x0.Kind⟩, ⟨3, Int, cRef (cInt .i64), x0.Kind⟩, ⟨2, (List UInt8), cStr, ([] : List UInt8)⟩, ⟨1, S_tollhouseref12_Op, cRef cS_tollhouseref12_Op, x0⟩, ⟨0, S_tollhouseref12_Op, cS_tollhouseref12_Op, x0⟩] ++ X284) := S289
          clear S289
          refine op_call S290 (okX rfl (hX286 _ rfl)) Tryd.call43 (tollhouseref31_Num_ok (S290.at 10 rfl) S290.dirty_lt h107) (fun a292 w294 S293 => ?_)
          clear S290 a287 w288
          exact wpList_nil ⟨rfl, (0, undef), S293⟩
        · intro f302 X295 Y296 a298 w299 hX297 S300
          have S301 : St 59 (fun _ => False) D w a298 w299 ([] ++ Y296) ([⟨15, S_tollhouseref10_Cond, cRef cS_tollhouseref10_Cond, x0.Cond⟩, ⟨16, Int, cRef (cInt .u64), x0.Cond.Id⟩, ⟨17, Int, (cInt .u64), x0.Cond.Id⟩, ⟨18, (List UInt8), cStr, y66⟩, ⟨19, (List UInt8), cStr, ([108, 111, 99, 107, 32] : List UInt8) ++ y66⟩, ⟨20, (List UInt8), cStr, (([108, 111, 99, 107, 32] : List UInt8) ++ y66) ++ ([32] : List UInt8)⟩, ⟨21, S_tollhouseref10_Cond, cRef cS_tollhouseref10_Cond, x0.Cond⟩, ⟨22, Int, cRef (cInt .u64), x0.Cond.Amount⟩, ⟨23, Int, (cInt .u64), x0.Cond.Amount⟩, ⟨24, (List UInt8), cStr, y86⟩, ⟨25, (List UInt8), cStr, ((([108, 111, 99, 107, 32] : List UInt8) ++ y66) ++ ([32] : List UInt8)) ++ y86⟩, ⟨26, (List UInt8), cStr, (((([108, 111, 99, 107, 32] : List UInt8) ++ y66) ++ ([32] : List UInt8)) ++ y86) ++ ([32] : List UInt8)⟩, ⟨27, S_tollhouseref10_Cond, cRef cS_tollhouseref10_Cond, x0.Cond⟩, ⟨28, Int, cRef (cInt .u64), x0.Cond.Expiry⟩, ⟨29, Int, (cInt .u64), x0.Cond.Expiry⟩, ⟨30, (List UInt8), cStr, y106⟩, ⟨13, Bool, cBool, decide (x0.Kind = 2)⟩, ⟨14, Bool, cBool, decide (x0.Kind = 2)⟩, ⟨7, Bool, cBool, decide (x0.Kind = 1)⟩, ⟨8, Bool, cBool, decide (x0.Kind = 1)⟩, ⟨5, Bool, cBool, decide (x0.Kind = 0)⟩, ⟨6, Bool, cBool, decide (x0.Kind = 0)⟩, ⟨4, Int, (cInt .i64), x0.Kind⟩, ⟨3, Int, cRef (cInt .i64), x0.Kind⟩, ⟨2, (List UInt8), cStr, ([] : List UInt8)⟩, ⟨1, S_tollhouseref12_Op, cRef cS_tollhouseref12_Op, x0⟩, ⟨0, S_tollhouseref12_Op, cS_tollhouseref12_Op, x0⟩] ++ X295) := S300
          clear S300
          refine op_cat S301 (okX rfl (hX297 _ rfl)) (S301.str 11 rfl) (S301.str 15 rfl) g112 (fun a303 S304 => ?_)
          clear S301 a298
          exact wpList_nil ⟨rfl, (0, undef), S304⟩
        · intro f312 X305 Y306 a308 w309 hX307 S310
          have S311 : St 59 (fun _ => False) D w a308 w309 ([] ++ Y306) ([⟨15, S_tollhouseref10_Cond, cRef cS_tollhouseref10_Cond, x0.Cond⟩, ⟨16, Int, cRef (cInt .u64), x0.Cond.Id⟩, ⟨17, Int, (cInt .u64), x0.Cond.Id⟩, ⟨18, (List UInt8), cStr, y66⟩, ⟨19, (List UInt8), cStr, ([108, 111, 99, 107, 32] : List UInt8) ++ y66⟩, ⟨20, (List UInt8), cStr, (([108, 111, 99, 107, 32] : List UInt8) ++ y66) ++ ([32] : List UInt8)⟩, ⟨21, S_tollhouseref10_Cond, cRef cS_tollhouseref10_Cond, x0.Cond⟩, ⟨22, Int, cRef (cInt .u64), x0.Cond.Amount⟩, ⟨23, Int, (cInt .u64), x0.Cond.Amount⟩, ⟨24, (List UInt8), cStr, y86⟩, ⟨25, (List UInt8), cStr, ((([108, 111, 99, 107, 32] : List UInt8) ++ y66) ++ ([32] : List UInt8)) ++ y86⟩, ⟨26, (List UInt8), cStr, (((([108, 111, 99, 107, 32] : List UInt8) ++ y66) ++ ([32] : List UInt8)) ++ y86) ++ ([32] : List UInt8)⟩, ⟨27, S_tollhouseref10_Cond, cRef cS_tollhouseref10_Cond, x0.Cond⟩, ⟨28, Int, cRef (cInt .u64), x0.Cond.Expiry⟩, ⟨29, Int, (cInt .u64), x0.Cond.Expiry⟩, ⟨30, (List UInt8), cStr, y106⟩, ⟨31, (List UInt8), cStr, ((((([108, 111, 99, 107, 32] : List UInt8) ++ y66) ++ ([32] : List UInt8)) ++ y86) ++ ([32] : List UInt8)) ++ y106⟩, ⟨13, Bool, cBool, decide (x0.Kind = 2)⟩, ⟨14, Bool, cBool, decide (x0.Kind = 2)⟩, ⟨7, Bool, cBool, decide (x0.Kind = 1)⟩, ⟨8, Bool, cBool, decide (x0.Kind = 1)⟩, ⟨5, Bool, cBool, decide (x0.Kind = 0)⟩, ⟨6, Bool, cBool, decide (x0.Kind = 0)⟩, ⟨4, Int, (cInt .i64), x0.Kind⟩, ⟨3, Int, cRef (cInt .i64), x0.Kind⟩, ⟨2, (List UInt8), cStr, ([] : List UInt8)⟩, ⟨1, S_tollhouseref12_Op, cRef cS_tollhouseref12_Op, x0⟩, ⟨0, S_tollhouseref12_Op, cS_tollhouseref12_Op, x0⟩] ++ X305) := S310
          clear S310
          refine op_cat S311 (okX rfl (hX307 _ rfl)) (S311.str 16 rfl) rfl g116 (fun a313 S314 => ?_)
          clear S311 a308
          exact wpList_nil ⟨rfl, (0, undef), S314⟩
        · intro f322 X315 Y316 a318 w319 hX317 S320
          have S321 : St 59 (fun _ => False) D w a318 w319 ([] ++ Y316) ([⟨13, Bool, cBool, decide (x0.Kind = 2)⟩, ⟨14, Bool, cBool, decide (x0.Kind = 2)⟩, ⟨7, Bool, cBool, decide (x0.Kind = 1)⟩, ⟨8, Bool, cBool, decide (x0.Kind = 1)⟩, ⟨5, Bool, cBool, decide (x0.Kind = 0)⟩, ⟨6, Bool, cBool, decide (x0.Kind = 0)⟩, ⟨4, Int, (cInt .i64), x0.Kind⟩, ⟨3, Int, cRef (cInt .i64), x0.Kind⟩, ⟨2, (List UInt8), cStr, ([] : List UInt8)⟩, ⟨1, S_tollhouseref12_Op, cRef cS_tollhouseref12_Op, x0⟩, ⟨0, S_tollhouseref12_Op, cS_tollhouseref12_Op, x0⟩] ++ X315) := S320
          clear S320
          refine op_fieldAddrr S321 (okX rfl (hX317 _ rfl)) (S321.at 9 rfl) Tryd.underlying32 rfl Tryd.sizeOf30 rfl LS_tollhouseref12_Op_Cond rfl (fun a323 S324 => ?_)
          clear S321 a318
          exact wpList_nil ⟨rfl, (0, undef), S324⟩
        · intro f332 X325 Y326 a328 w329 hX327 S330
          have S331 : St 59 (fun _ => False) D w a328 w329 ([] ++ Y326) ([⟨33, S_tollhouseref10_Cond, cRef cS_tollhouseref10_Cond, x0.Cond⟩, ⟨13, Bool, cBool, decide (x0.Kind = 2)⟩, ⟨14, Bool, cBool, decide (x0.Kind = 2)⟩, ⟨7, Bool, cBool, decide (x0.Kind = 1)⟩, ⟨8, Bool, cBool, decide (x0.Kind = 1)⟩, ⟨5, Bool, cBool, decide (x0.Kind = 0)⟩, ⟨6, Bool, cBool, decide (x0.Kind = 0)⟩, ⟨4, Int, (cInt .i64), x0.Kind⟩, ⟨3, Int, cRef (cInt .i64), x0.Kind⟩, ⟨2, (List UInt8), cStr, ([] : List UInt8)⟩, ⟨1, S_tollhouseref12_Op, cRef cS_tollhouseref12_Op, x0⟩, ⟨0, S_tollhouseref12_Op, cS_tollhouseref12_Op, x0⟩] ++ X325) := S330
          clear S330
          refine op_fieldAddrr S331 (okX rfl (hX327 _ rfl)) (S331.at 0 rfl) Tryd.underlying30 rfl Tryd.sizeOf28 rfl LS_tollhouseref10_Cond_Hash rfl (fun a333 S334 => ?_)
          clear S331 a328
          exact wpList_nil ⟨rfl, (0, undef), S334⟩
        · intro f342 X335 Y336 a338 w339 hX337 S340
          have S341 : St 59 (fun _ => False) D w a338 w339 ([] ++ Y336) ([⟨33, S_tollhouseref10_Cond, cRef cS_tollhouseref10_Cond, x0.Cond⟩, ⟨34, (List Int), cRef (cArr 32 (cInt .u8)), x0.Cond.Hash⟩, ⟨13, Bool, cBool, decide (x0.Kind = 2)⟩, ⟨14, Bool, cBool, decide (x0.Kind = 2)⟩, ⟨7, Bool, cBool, decide (x0.Kind = 1)⟩, ⟨8, Bool, cBool, decide (x0.Kind = 1)⟩, ⟨5, Bool, cBool, decide (x0.Kind = 0)⟩, ⟨6, Bool, cBool, decide (x0.Kind = 0)⟩, ⟨4, Int, (cInt .i64), x0.Kind⟩, ⟨3, Int, cRef (cInt .i64), x0.Kind⟩, ⟨2, (List UInt8), cStr, ([] : List UInt8)⟩, ⟨1, S_tollhouseref12_Op, cRef cS_tollhouseref12_Op, x0⟩, ⟨0, S_tollhouseref12_Op, cS_tollhouseref12_Op, x0⟩] ++ X335) := S340
          clear S340
          refine op_loadr S341 (okX rfl (hX337 _ rfl)) (S341.at 1 rfl) Tryd.isAgg28 Tryd.sizeOf28 (fun a343 S344 => ?_)
          clear S341 a338
          exact wpList_nil ⟨rfl, (0, undef), S344⟩
        · intro f352 X345 Y346 a348 w349 hX347 S350
          have S351 : St 59 (fun _ => False) D w a348 w349 ([] ++ Y346) ([⟨15, S_tollhouseref10_Cond, cRef cS_tollhouseref10_Cond, x0.Cond⟩, ⟨16, Int, cRef (cInt .u64), x0.Cond.Id⟩, ⟨17, Int, (cInt .u64), x0.Cond.Id⟩, ⟨18, (List UInt8), cStr, y66⟩, ⟨21, S_tollhouseref10_Cond, cRef cS_tollhouseref10_Cond, x0.Cond⟩, ⟨22, Int, cRef (cInt .u64), x0.Cond.Amount⟩, ⟨23, Int, (cInt .u64), x0.Cond.Amount⟩, ⟨24, (List UInt8), cStr, y86⟩, ⟨27, S_tollhouseref10_Cond, cRef cS_tollhouseref10_Cond, x0.Cond⟩, ⟨28, Int, cRef (cInt .u64), x0.Cond.Expiry⟩, ⟨29, Int, (cInt .u64), x0.Cond.Expiry⟩, ⟨30, (List UInt8), cStr, y106⟩, ⟨33, S_tollhouseref10_Cond, cRef cS_tollhouseref10_Cond, x0.Cond⟩, ⟨34, (List Int), cRef (cArr 32 (cInt .u8)), x0.Cond.Hash⟩, ⟨35, (List Int), (cArr 32 (cInt .u8)), x0.Cond.Hash⟩, ⟨13, Bool, cBool, decide (x0.Kind = 2)⟩, ⟨14, Bool, cBool, decide (x0.Kind = 2)⟩, ⟨7, Bool, cBool, decide (x0.Kind = 1)⟩, ⟨8, Bool, cBool, decide (x0.Kind = 1)⟩, ⟨5, Bool, cBool, decide (x0.Kind = 0)⟩, ⟨6, Bool, cBool, decide (x0.Kind = 0)⟩, ⟨4, Int, (cInt .i64), x0.Kind⟩, ⟨3, Int, cRef (cInt .i64), x0.Kind⟩, ⟨2, (List UInt8), cStr, ([] : List UInt8)⟩, ⟨1, S_tollhouseref12_Op, cRef cS_tollhouseref12_Op, x0⟩, ⟨0, S_tollhouseref12_Op, cS_tollhouseref12_Op, x0⟩] ++ X345) := S350
          clear S350
          refine op_call S351 (okX rfl (hX347 _ rfl)) Tryd.call47 (tollhouseref31_Short_ok (S351.at 14 rfl) S351.dirty_lt h127) (fun a353 w355 S354 => ?_)
          clear S351 a348 w349
          exact wpList_nil ⟨rfl, (0, undef), S354⟩
        · intro f360 a356 w357 _ S358
          have S359 : St 59 (fun _ => False) D w a356 w357 [] [⟨36, (List UInt8), cStr, y126⟩, ⟨35, (List Int), (cArr 32 (cInt .u8)), x0.Cond.Hash⟩, ⟨34, (List Int), cRef (cArr 32 (cInt .u8)), x0.Cond.Hash⟩, ⟨33, S_tollhouseref10_Cond, cRef cS_tollhouseref10_Cond, x0.Cond⟩, ⟨32, (List UInt8), cStr, (((((([108, 111, 99, 107, 32] : List UInt8) ++ y66) ++ ([32] : List UInt8)) ++ y86) ++ ([32] : List UInt8)) ++ y106) ++ ([32] : List UInt8)⟩, ⟨31, (List UInt8), cStr, ((((([108, 111, 99, 107, 32] : List UInt8) ++ y66) ++ ([32] : List UInt8)) ++ y86) ++ ([32] : List UInt8)) ++ y106⟩, ⟨30, (List UInt8), cStr, y106⟩, ⟨29, Int, (cInt .u64), x0.Cond.Expiry⟩, ⟨28, Int, cRef (cInt .u64), x0.Cond.Expiry⟩, ⟨27, S_tollhouseref10_Cond, cRef cS_tollhouseref10_Cond, x0.Cond⟩, ⟨26, (List UInt8), cStr, (((([108, 111, 99, 107, 32] : List UInt8) ++ y66) ++ ([32] : List UInt8)) ++ y86) ++ ([32] : List UInt8)⟩, ⟨25, (List UInt8), cStr, ((([108, 111, 99, 107, 32] : List UInt8) ++ y66) ++ ([32] : List UInt8)) ++ y86⟩, ⟨24, (List UInt8), cStr, y86⟩, ⟨23, Int, (cInt .u64), x0.Cond.Amount⟩, ⟨22, Int, cRef (cInt .u64), x0.Cond.Amount⟩, ⟨21, S_tollhouseref10_Cond, cRef cS_tollhouseref10_Cond, x0.Cond⟩, ⟨20, (List UInt8), cStr, (([108, 111, 99, 107, 32] : List UInt8) ++ y66) ++ ([32] : List UInt8)⟩, ⟨19, (List UInt8), cStr, ([108, 111, 99, 107, 32] : List UInt8) ++ y66⟩, ⟨18, (List UInt8), cStr, y66⟩, ⟨17, Int, (cInt .u64), x0.Cond.Id⟩, ⟨16, Int, cRef (cInt .u64), x0.Cond.Id⟩, ⟨15, S_tollhouseref10_Cond, cRef cS_tollhouseref10_Cond, x0.Cond⟩, ⟨13, Bool, cBool, decide (x0.Kind = 2)⟩, ⟨14, Bool, cBool, decide (x0.Kind = 2)⟩, ⟨7, Bool, cBool, decide (x0.Kind = 1)⟩, ⟨8, Bool, cBool, decide (x0.Kind = 1)⟩, ⟨5, Bool, cBool, decide (x0.Kind = 0)⟩, ⟨6, Bool, cBool, decide (x0.Kind = 0)⟩, ⟨4, Int, (cInt .i64), x0.Kind⟩, ⟨3, Int, cRef (cInt .i64), x0.Kind⟩, ⟨2, (List UInt8), cStr, ([] : List UInt8)⟩, ⟨1, S_tollhouseref12_Op, cRef cS_tollhouseref12_Op, x0⟩, ⟨0, S_tollhouseref12_Op, cS_tollhouseref12_Op, x0⟩] := S358
          clear S358 S55
          obtain ⟨g361, hr362⟩ := guard_some hr128
          clear hr128
          refine op_cat S359 rfl (S359.str 4 rfl) (S359.str 0 rfl) g361 (fun a363 S364 => ?_)
          clear S359 a356
          have S365 := S364.erase 31
          clear S364
          refine op_assign S365 rfl (S365.at 0 rfl) (fun a366 S367 => ?_)
          clear S365 a363
          refine wpList_nil ?_
          refine hK59 _ _ ?_
          clear hK59 K59
          refine wp_ret ?_
          cases hr362
          exact ret1 S367 rfl 0 rfl
      · clear hr32
        refine c_false (S55.bool 0 rfl) b56 ?_
        refine wp_seq_k (fun K368 hK368 => ?_)
        refine wp_region_lit ?_
        refine op_eql S55 rfl (S55.int 6 rfl) rfl (fun a369 S370 => ?_)
        clear S55 a54
        refine op_assign S370 rfl (S370.at 0 rfl) (fun a371 S372 => ?_)
        clear S370 a369
        refine wpList_nil ?_
        refine hK368 _ _ ?_
        clear hK368 K368
        rcases cond_some hr58 with ⟨b373, hr374⟩ | ⟨b373, hr375⟩
        · clear hr58
          refine c_true (S372.bool 0 rfl) b373 ?_
          refine wp_seq_k (fun K376 hK376 => ?_)
          refine wp_region_lit ?_
          refine op_fieldAddrr S372 rfl (S372.at 11 rfl) Tryd.underlying32 rfl Tryd.sizeOf23 rfl LS_tollhouseref12_Op_Id rfl (fun a377 S378 => ?_)
          clear S372 a371
          refine op_loadr S378 rfl (S378.at 0 rfl) Tryd.isAgg23 Tryd.sizeOf23 (fun a379 S380 => ?_)
          clear S378 a377
          obtain ⟨y381, h382, hr383⟩ := bind_some hr374
          clear hr374
          refine op_call S380 rfl Tryd.call43 (tollhouseref31_Num_ok (S380.at 0 rfl) S380.dirty_lt h382) (fun a384 w386 S385 => ?_)
          clear S380 a379 w4
          obtain ⟨g387, hr388⟩ := guard_some hr383
          clear hr383
          refine op_cat S385 rfl rfl (S385.str 0 rfl) g387 (fun a389 S390 => ?_)
          clear S385 a384
          have S391 := S390.erase 14
          clear S390
          refine op_assign S391 rfl (S391.at 0 rfl) (fun a392 S393 => ?_)
          clear S391 a389
          refine wpList_nil ?_
          refine hK376 _ _ ?_
          clear hK376 K376
          refine wp_ret ?_
          cases hr388
          exact ret1 S393 rfl 0 rfl
        · clear hr58
          refine c_false (S372.bool 0 rfl) b373 ?_
          refine wp_seq_k (fun K394 hK394 => ?_)
          refine wp_region_lit ?_
          refine op_eql S372 rfl (S372.int 8 rfl) rfl (fun a395 S396 => ?_)
          clear S372 a371
          refine op_assign S396 rfl (S396.at 0 rfl) (fun a397 S398 => ?_)
          clear S396 a395
          refine wpList_nil ?_
          refine hK394 _ _ ?_
          clear hK394 K394
          rcases cond_some hr375 with ⟨b399, hr400⟩ | ⟨b399, hr401⟩
          · clear hr375
            refine c_true (S398.bool 0 rfl) b399 ?_
            refine wp_seq_k (fun K402 hK402 => ?_)
            refine wp_region_lit ?_
            refine op_fieldAddrr S398 rfl (S398.at 13 rfl) Tryd.underlying32 rfl Tryd.sizeOf23 rfl LS_tollhouseref12_Op_Id rfl (fun a403 S404 => ?_)
            clear S398 a397
            refine op_loadr S404 rfl (S404.at 0 rfl) Tryd.isAgg23 Tryd.sizeOf23 (fun a405 S406 => ?_)
            clear S404 a403
            obtain ⟨y407, h408, hr409⟩ := bind_some hr400
            clear hr400
            refine op_call S406 rfl Tryd.call43 (tollhouseref31_Num_ok (S406.at 0 rfl) S406.dirty_lt h408) (fun a410 w412 S411 => ?_)
            clear S406 a405 w4
            obtain ⟨g413, hr414⟩ := guard_some hr409
            clear hr409
            refine op_cat S411 rfl rfl (S411.str 0 rfl) g413 (fun a415 S416 => ?_)
            clear S411 a410
            have S417 := S416.erase 16
            clear S416
            refine op_assign S417 rfl (S417.at 0 rfl) (fun a418 S419 => ?_)
            clear S417 a415
            refine wpList_nil ?_
            refine hK402 _ _ ?_
            clear hK402 K402
            refine wp_ret ?_
            cases hr414
            exact ret1 S419 rfl 0 rfl
          · clear hr375
            refine c_false (S398.bool 0 rfl) b399 ?_
            refine wp_seq_k (fun K420 hK420 => ?_)
            refine wp_region_lit ?_
            refine op_eql S398 rfl (S398.int 10 rfl) rfl (fun a421 S422 => ?_)
            clear S398 a397
            refine op_assign S422 rfl (S422.at 0 rfl) (fun a423 S424 => ?_)
            clear S422 a421
            refine wpList_nil ?_
            refine hK420 _ _ ?_
            clear hK420 K420
            rcases cond_some hr401 with ⟨b425, hr426⟩ | ⟨b425, hr427⟩
            · clear hr401
              refine c_true (S424.bool 0 rfl) b425 ?_
              refine wp_seq_k (fun K428 hK428 => ?_)
              refine wp_region_lit ?_
              refine op_fieldAddrr S424 rfl (S424.at 15 rfl) Tryd.underlying32 rfl Tryd.sizeOf23 rfl LS_tollhouseref12_Op_Amount rfl (fun a429 S430 => ?_)
              clear S424 a423
              refine op_loadr S430 rfl (S430.at 0 rfl) Tryd.isAgg23 Tryd.sizeOf23 (fun a431 S432 => ?_)
              clear S430 a429
              obtain ⟨y433, h434, hr435⟩ := bind_some hr426
              clear hr426
              refine op_call S432 rfl Tryd.call43 (tollhouseref31_Num_ok (S432.at 0 rfl) S432.dirty_lt h434) (fun a436 w438 S437 => ?_)
              clear S432 a431 w4
              obtain ⟨g439, hr440⟩ := guard_some hr435
              clear hr435
              refine op_cat S437 rfl rfl (S437.str 0 rfl) g439 (fun a441 S442 => ?_)
              clear S437 a436
              have S443 := S442.erase 18
              clear S442
              refine op_assign S443 rfl (S443.at 0 rfl) (fun a444 S445 => ?_)
              clear S443 a441
              refine wpList_nil ?_
              refine hK428 _ _ ?_
              clear hK428 K428
              refine wp_ret ?_
              cases hr440
              exact ret1 S445 rfl 0 rfl
            · clear hr401
              refine c_false (S424.bool 0 rfl) b425 ?_
              refine wp_skip ?_
              refine hK7 _ _ ?_
              clear hK7 K7
              refine wp_seq_k (fun K446 hK446 => ?_)
              refine wp_region_lit ?_
              refine op_fieldAddrr S424 rfl (S424.at 15 rfl) Tryd.underlying32 rfl Tryd.sizeOf3 rfl LS_tollhouseref12_Op_Kind rfl (fun a447 S448 => ?_)
              clear S424 a423
              refine op_loadr S448 rfl (S448.at 0 rfl) Tryd.isAgg3 Tryd.sizeOf3 (fun a449 S450 => ?_)
              clear S448 a447
              obtain ⟨y451, h452, hr453⟩ := bind_some hr427
              clear hr427
              refine op_call S450 rfl Tryd.call48 (tollhouseref31_Int_ok (S450.at 0 rfl) S450.dirty_lt h452) (fun a454 w456 S455 => ?_)
              clear S450 a449 w4
              have S457 := S455.erase 17
              clear S455
              refine op_assign S457 rfl (S457.at 0 rfl) (fun a458 S459 => ?_)
              clear S457 a454
              refine wpList_nil ?_
              refine hK446 _ _ ?_
              clear hK446 K446
              refine wp_ret ?_
              cases hr453
              exact ret1 S459 rfl 0 rfl
/-- tollhouse/tollhouseref12.Same -/
noncomputable def tollhouseref12_Same (x0 : S_tollhouseref12_State) (x1 : S_tollhouseref12_State) : Option Bool :=
  (((if !decide (x0.Channel = x1.Channel) then some true else (if !decide (x0.Round = x1.Round) then some true else (if !decide (x0.Moved = x1.Moved) then some true else (if !decide (x0.Taken = x1.Taken) then some true else some (!decide ((x0.Conds.length : Int) = (x1.Conds.length : Int))))))) : Option (Bool)).bind fun s242 => (if s242 then some false else ((loopM (fun (s259 : Int) => ((if decide (s259 < (x0.Conds.length : Int)) then (if (0 : Int) ≤ s259 ∧ s259 < (x0.Conds.length : Int) then (if (0 : Int) ≤ s259 ∧ s259 < (x1.Conds.length : Int) then (if !decide ((x0.Conds.getD (s259 : Int).toNat zS_tollhouseref10_Cond) = (x1.Conds.getD (s259 : Int).toNat zS_tollhouseref10_Cond)) then some (.inr (.inl false)) else some (.inl (IntKind.wrap .i64 (s259 + 1)))) else none) else none) else some (.inr (.inr ()))) : Option ((Int) ⊕ ((Bool) ⊕ (Unit))))) 0).bind fun | (.inl z) => some z | (.inr _) => some true)))
set_option maxRecDepth 100000 in
set_option maxHeartbeats 8000000 in
theorem tollhouseref12_Same_ok {D : Dirty} {w : World} {v0 : Value} {v1 : Value} {x0 : S_tollhouseref12_State} {x1 : S_tollhouseref12_State} {r : Bool} (h0 : cS_tollhouseref12_State.val D w v0 x0) (h1 : cS_tollhouseref12_State.val D w v1 x1) (hD : ∀ k, D k → k < w.heap.size) (hr : tollhouseref12_Same x0 x1 = some r) :
    Calls Tryd.prog 15 [v0, v1].toArray w (Ret cBool D w r) := by
  refine calls_start (n := 59) Tryd.func15 rfl rfl ?_
  have S := St.start (w := w) (args := [v0, v1].toArray) 59 rfl hD
  replace S := S.arg 0 rfl (val_dirt0 h0)
  replace S := S.arg 1 rfl (val_dirt0 h1)
  unfold tollhouseref12_Same at hr
  refine wp_seq_k (fun K1 hK1 => ?_)
  refine wp_region_lit ?_
  refine op_boxr S rfl (S.at 1 rfl) cS_tollhouseref12_State_flat (fun a2 w4 S3 => ?_)
  clear S
  refine op_boxr S3 rfl (S3.at 1 rfl) cS_tollhouseref12_State_flat (fun a5 w7 S6 => ?_)
  clear S3 a2 w4
  refine op_assign S6 rfl (cPlain_mk (f := Value.bool) false) (fun a8 S9 => ?_)
  clear S6 a5
  refine wpList_nil ?_
  refine hK1 _ _ ?_
  clear hK1 K1
  refine wp_seq_k (fun K10 hK10 => ?_)
  refine wp_seq_k (fun K11 hK11 => ?_)
  refine wp_k (fun K243 hK243 => ?_)
  have X244 : ∀ (s242 : Bool) (a246 : Act) (w247 : World), St 59 (fun _ => False) D w a246 w247 [] [⟨40, Bool, cBool, s242⟩, ⟨3, S_tollhouseref12_State, cRef cS_tollhouseref12_State, x1⟩, ⟨2, S_tollhouseref12_State, cRef cS_tollhouseref12_State, x0⟩] → ((if s242 then some false else ((loopM (fun (s259 : Int) => ((if decide (s259 < (x0.Conds.length : Int)) then (if (0 : Int) ≤ s259 ∧ s259 < (x0.Conds.length : Int) then (if (0 : Int) ≤ s259 ∧ s259 < (x1.Conds.length : Int) then (if !decide ((x0.Conds.getD (s259 : Int).toNat zS_tollhouseref10_Cond) = (x1.Conds.getD (s259 : Int).toNat zS_tollhouseref10_Cond)) then some (.inr (.inl false)) else some (.inl (IntKind.wrap .i64 (s259 + 1)))) else none) else none) else some (.inr (.inr ()))) : Option ((Int) ⊕ ((Bool) ⊕ (Unit))))) 0).bind fun | (.inl z) => some z | (.inr _) => some true)) : Option (Bool)) = some r → K243 a246 w247 := by
    intro s242 a246 w247 S245 hr248
    refine hK243 _ _ ?_
    clear hK243
    refine hK11 _ _ ?_
    clear hK11 K11
    rcases cond_some hr248 with ⟨b249, hr250⟩ | ⟨b249, hr251⟩
    · clear hr248
      refine c_true (S245.bool 0 rfl) b249 ?_
      refine wp_seq_k (fun K252 hK252 => ?_)
      refine wp_region_lit ?_
      refine op_assign S245 rfl (cPlain_mk (f := Value.bool) false) (fun a253 S254 => ?_)
      clear S245 a246
      refine wpList_nil ?_
      refine hK252 _ _ ?_
      clear hK252 K252
      refine wp_ret ?_
      cases hr250
      exact ret1 S254 rfl 0 rfl
    · clear hr248
      refine c_false (S245.bool 0 rfl) b249 ?_
      refine wp_skip ?_
      refine hK10 _ _ ?_
      clear hK10 K10
      refine wp_seq_k (fun K255 hK255 => ?_)
      refine wp_seq_k (fun K256 hK256 => ?_)
      refine wp_region_lit ?_
      refine op_assign S245 rfl (cPlain_mk (f := Value.int .i64) 0) (fun a257 S258 => ?_)
      clear S245 a246
      refine wpList_nil ?_
      refine hK256 _ _ ?_
      clear hK256 K256
      refine wp_block ?_
      refine wp_q (fun Q582 hQ582 => ?_)
      have X590 : ∀ (a587 : Act) (w588 : World), St 59 (fun _ => False) D w a587 w588 [] [] → (some true : Option (Bool)) = some r → Q582 (.exit 0) a587 w588 := by
        intro a587 w588 S586 hr589
        refine hQ582 _ _ _ ?_
        clear hQ582
        refine hK255 _ _ ?_
        clear hK255 K255
        refine wp_seq_k (fun K591 hK591 => ?_)
        refine wp_region_lit ?_
        refine op_assign S586 rfl (cPlain_mk (f := Value.bool) true) (fun a592 S593 => ?_)
        clear S586 a587
        refine wpList_nil ?_
        refine hK591 _ _ ?_
        clear hK591 K591
        refine wp_ret ?_
        cases hr589
        exact ret1 S593 rfl 0 rfl
      obtain ⟨t583, hr585, h584⟩ := bind_some hr251
      clear hr251
      have S766 := S258.pick [0, 2, 3]
      clear S258
      refine wp_loopM (fun (s259 : Int) a596 w597 => St 59 (fun _ => False) D w a596 w597 [] [⟨5, Int, (cInt .i64), s259⟩, ⟨3, S_tollhouseref12_State, cRef cS_tollhouseref12_State, x1⟩, ⟨2, S_tollhouseref12_State, cRef cS_tollhouseref12_State, x0⟩]) ?_ 0 ?_ hr585
      · intro s765 a596 w597 x594 S767 hr598
        obtain ⟨s259, rfl⟩ : ∃ z, z = s765 := ⟨_, rfl⟩
        have S595 : St 59 (fun _ => False) D w a596 w597 [] [⟨5, Int, (cInt .i64), s259⟩, ⟨3, S_tollhouseref12_State, cRef cS_tollhouseref12_State, x1⟩, ⟨2, S_tollhouseref12_State, cRef cS_tollhouseref12_State, x0⟩] := S767
        clear S767
        refine wp_seq_k (fun K599 hK599 => ?_)
        refine wp_seq_k (fun K600 hK600 => ?_)
        refine wp_region_lit ?_
        refine op_move S595 rfl (S595.at 0 rfl) (fun a601 S602 => ?_)
        clear S595 a596
        refine op_fieldAddrr S602 rfl (S602.at 3 rfl) Tryd.underlying27 rfl Tryd.sizeOf25 rfl LS_tollhouseref12_State_Conds rfl (fun a603 S604 => ?_)
        clear S602 a601
        refine op_loadr S604 rfl (S604.at 0 rfl) Tryd.isAgg25 Tryd.sizeOf25 (fun a605 S606 => ?_)
        clear S604 a603
        refine op_len S606 rfl (S606.at 0 rfl) Tryd.underlying25 (fun a607 S608 => ?_)
        clear S606 a605
        refine op_lss S608 rfl (S608.int 3 rfl) (S608.int 0 rfl) (fun a609 S610 => ?_)
        clear S608 a607
        refine wpList_nil ?_
        refine hK600 _ _ ?_
        clear hK600 K600
        rcases cond_some hr598 with ⟨b611, hr612⟩ | ⟨b611, hr613⟩
        · clear hr598
          refine c_true (S610.bool 0 rfl) b611 ?_
          refine wp_skip ?_
          refine hK599 _ _ ?_
          clear hK599 K599
          refine wp_seq_k (fun K614 hK614 => ?_)
          refine wp_block ?_
          refine wp_seq_k (fun K615 hK615 => ?_)
          obtain ⟨g622, hr623⟩ := guard_some hr612
          clear hr612
          obtain ⟨g634, hr635⟩ := guard_some hr623
          clear hr623
          refine wp_drawn follows_mixed [[], [0], [], [0, 1, 2], [0, 1, 2, 3], [], [5], [], [5, 6, 7], [5, 6, 7, 8], [0, 1, 2, 3, 4, 5, 6, 7, 8, 9]] [none, none, none, none, none, none, none, none, none, none] 10 rfl rfl 0 rfl (fun i p => List.getD [[⟨48, (List S_tollhouseref10_Cond), cRef (cSlice cS_tollhouseref10_Cond), x0.Conds⟩], [⟨49, (List S_tollhouseref10_Cond), (cSlice cS_tollhouseref10_Cond), x0.Conds⟩], [⟨50, Int, (cInt .i64), s259⟩], [⟨51, S_tollhouseref10_Cond, cRef cS_tollhouseref10_Cond, x0.Conds.getD (s259 : Int).toNat zS_tollhouseref10_Cond⟩], [⟨52, S_tollhouseref10_Cond, cS_tollhouseref10_Cond, x0.Conds.getD (s259 : Int).toNat zS_tollhouseref10_Cond⟩], [⟨53, (List S_tollhouseref10_Cond), cRef (cSlice cS_tollhouseref10_Cond), x1.Conds⟩], [⟨54, (List S_tollhouseref10_Cond), (cSlice cS_tollhouseref10_Cond), x1.Conds⟩], [⟨55, Int, (cInt .i64), s259⟩], [⟨56, S_tollhouseref10_Cond, cRef cS_tollhouseref10_Cond, x1.Conds.getD (s259 : Int).toNat zS_tollhouseref10_Cond⟩], [⟨57, S_tollhouseref10_Cond, cS_tollhouseref10_Cond, x1.Conds.getD (s259 : Int).toNat zS_tollhouseref10_Cond⟩]] i []) (fun _ _ _ => []) (fun _ => (0, undef)) S610 rfl (fun _ => rfl) (Obs.cons ?_ (Obs.cons ?_ (Obs.cons ?_ (Obs.cons ?_ (Obs.cons ?_ (Obs.cons ?_ (Obs.cons ?_ (Obs.cons ?_ (Obs.cons ?_ (Obs.cons ?_ Obs.nil)))))))))) ?_
          · intro f647 X640 Y641 a643 w644 hX642 S645
            have S646 : St 59 (fun _ => False) D w a643 w644 ([] ++ Y641) ([⟨45, Bool, cBool, decide (s259 < (x0.Conds.length : Int))⟩, ⟨44, Int, (cInt .i64), (x0.Conds.length : Int)⟩, ⟨43, (List S_tollhouseref10_Cond), (cSlice cS_tollhouseref10_Cond), x0.Conds⟩, ⟨42, (List S_tollhouseref10_Cond), cRef (cSlice cS_tollhouseref10_Cond), x0.Conds⟩, ⟨41, Int, (cInt .i64), s259⟩, ⟨5, Int, (cInt .i64), s259⟩, ⟨3, S_tollhouseref12_State, cRef cS_tollhouseref12_State, x1⟩, ⟨2, S_tollhouseref12_State, cRef cS_tollhouseref12_State, x0⟩] ++ X640) := S645
            clear S645
            refine op_fieldAddrr S646 (okX rfl (hX642 _ rfl)) (S646.at 7 rfl) Tryd.underlying27 rfl Tryd.sizeOf25 rfl LS_tollhouseref12_State_Conds rfl (fun a648 S649 => ?_)
            clear S646 a643
            exact wpList_nil ⟨rfl, (0, undef), S649⟩
          · intro f657 X650 Y651 a653 w654 hX652 S655
            have S656 : St 59 (fun _ => False) D w a653 w654 ([] ++ Y651) ([⟨48, (List S_tollhouseref10_Cond), cRef (cSlice cS_tollhouseref10_Cond), x0.Conds⟩, ⟨45, Bool, cBool, decide (s259 < (x0.Conds.length : Int))⟩, ⟨44, Int, (cInt .i64), (x0.Conds.length : Int)⟩, ⟨43, (List S_tollhouseref10_Cond), (cSlice cS_tollhouseref10_Cond), x0.Conds⟩, ⟨42, (List S_tollhouseref10_Cond), cRef (cSlice cS_tollhouseref10_Cond), x0.Conds⟩, ⟨41, Int, (cInt .i64), s259⟩, ⟨5, Int, (cInt .i64), s259⟩, ⟨3, S_tollhouseref12_State, cRef cS_tollhouseref12_State, x1⟩, ⟨2, S_tollhouseref12_State, cRef cS_tollhouseref12_State, x0⟩] ++ X650) := S655
            clear S655
            refine op_loadr S656 (okX rfl (hX652 _ rfl)) (S656.at 0 rfl) Tryd.isAgg25 Tryd.sizeOf25 (fun a658 S659 => ?_)
            clear S656 a653
            exact wpList_nil ⟨rfl, (0, undef), S659⟩
          · intro f667 X660 Y661 a663 w664 hX662 S665
            have S666 : St 59 (fun _ => False) D w a663 w664 ([] ++ Y661) ([⟨45, Bool, cBool, decide (s259 < (x0.Conds.length : Int))⟩, ⟨44, Int, (cInt .i64), (x0.Conds.length : Int)⟩, ⟨43, (List S_tollhouseref10_Cond), (cSlice cS_tollhouseref10_Cond), x0.Conds⟩, ⟨42, (List S_tollhouseref10_Cond), cRef (cSlice cS_tollhouseref10_Cond), x0.Conds⟩, ⟨41, Int, (cInt .i64), s259⟩, ⟨5, Int, (cInt .i64), s259⟩, ⟨3, S_tollhouseref12_State, cRef cS_tollhouseref12_State, x1⟩, ⟨2, S_tollhouseref12_State, cRef cS_tollhouseref12_State, x0⟩] ++ X660) := S665
            clear S665
            refine op_move S666 (okX rfl (hX662 _ rfl)) (S666.at 5 rfl) (fun a668 S669 => ?_)
            clear S666 a663
            exact wpList_nil ⟨rfl, (0, undef), S669⟩
          · intro f677 X670 Y671 a673 w674 hX672 S675
            have S676 : St 59 (fun _ => False) D w a673 w674 ([] ++ Y671) ([⟨48, (List S_tollhouseref10_Cond), cRef (cSlice cS_tollhouseref10_Cond), x0.Conds⟩, ⟨49, (List S_tollhouseref10_Cond), (cSlice cS_tollhouseref10_Cond), x0.Conds⟩, ⟨50, Int, (cInt .i64), s259⟩, ⟨45, Bool, cBool, decide (s259 < (x0.Conds.length : Int))⟩, ⟨44, Int, (cInt .i64), (x0.Conds.length : Int)⟩, ⟨43, (List S_tollhouseref10_Cond), (cSlice cS_tollhouseref10_Cond), x0.Conds⟩, ⟨42, (List S_tollhouseref10_Cond), cRef (cSlice cS_tollhouseref10_Cond), x0.Conds⟩, ⟨41, Int, (cInt .i64), s259⟩, ⟨5, Int, (cInt .i64), s259⟩, ⟨3, S_tollhouseref12_State, cRef cS_tollhouseref12_State, x1⟩, ⟨2, S_tollhouseref12_State, cRef cS_tollhouseref12_State, x0⟩] ++ X670) := S675
            clear S675
            refine op_indexAddr (z0 := zS_tollhouseref10_Cond) S676 (okX rfl (hX672 _ rfl)) (S676.at 1 rfl) (S676.int 2 rfl) g622 Tryd.underlying25 Tryd.sizeOf30 (fun a678 S679 => ?_)
            clear S676 a673
            exact wpList_nil ⟨rfl, (0, undef), S679⟩
          · intro f687 X680 Y681 a683 w684 hX682 S685
            have S686 : St 59 (fun _ => False) D w a683 w684 ([] ++ Y681) ([⟨48, (List S_tollhouseref10_Cond), cRef (cSlice cS_tollhouseref10_Cond), x0.Conds⟩, ⟨49, (List S_tollhouseref10_Cond), (cSlice cS_tollhouseref10_Cond), x0.Conds⟩, ⟨50, Int, (cInt .i64), s259⟩, ⟨51, S_tollhouseref10_Cond, cRef cS_tollhouseref10_Cond, x0.Conds.getD (s259 : Int).toNat zS_tollhouseref10_Cond⟩, ⟨45, Bool, cBool, decide (s259 < (x0.Conds.length : Int))⟩, ⟨44, Int, (cInt .i64), (x0.Conds.length : Int)⟩, ⟨43, (List S_tollhouseref10_Cond), (cSlice cS_tollhouseref10_Cond), x0.Conds⟩, ⟨42, (List S_tollhouseref10_Cond), cRef (cSlice cS_tollhouseref10_Cond), x0.Conds⟩, ⟨41, Int, (cInt .i64), s259⟩, ⟨5, Int, (cInt .i64), s259⟩, ⟨3, S_tollhouseref12_State, cRef cS_tollhouseref12_State, x1⟩, ⟨2, S_tollhouseref12_State, cRef cS_tollhouseref12_State, x0⟩] ++ X680) := S685
            clear S685
            refine op_loadr S686 (okX rfl (hX682 _ rfl)) (S686.at 3 rfl) Tryd.isAgg30 Tryd.sizeOf30 (fun a688 S689 => ?_)
            clear S686 a683
            exact wpList_nil ⟨rfl, (0, undef), S689⟩
          · intro f697 X690 Y691 a693 w694 hX692 S695
            have S696 : St 59 (fun _ => False) D w a693 w694 ([] ++ Y691) ([⟨45, Bool, cBool, decide (s259 < (x0.Conds.length : Int))⟩, ⟨44, Int, (cInt .i64), (x0.Conds.length : Int)⟩, ⟨43, (List S_tollhouseref10_Cond), (cSlice cS_tollhouseref10_Cond), x0.Conds⟩, ⟨42, (List S_tollhouseref10_Cond), cRef (cSlice cS_tollhouseref10_Cond), x0.Conds⟩, ⟨41, Int, (cInt .i64), s259⟩, ⟨5, Int, (cInt .i64), s259⟩, ⟨3, S_tollhouseref12_State, cRef cS_tollhouseref12_State, x1⟩, ⟨2, S_tollhouseref12_State, cRef cS_tollhouseref12_State, x0⟩] ++ X690) := S695
            clear S695
            refine op_fieldAddrr S696 (okX rfl (hX692 _ rfl)) (S696.at 6 rfl) Tryd.underlying27 rfl Tryd.sizeOf25 rfl LS_tollhouseref12_State_Conds rfl (fun a698 S699 => ?_)
            clear S696 a693
            exact wpList_nil ⟨rfl, (0, undef), S699⟩
          · intro f707 X700 Y701 a703 w704 hX702 S705
            have S706 : St 59 (fun _ => False) D w a703 w704 ([] ++ Y701) ([⟨53, (List S_tollhouseref10_Cond), cRef (cSlice cS_tollhouseref10_Cond), x1.Conds⟩, ⟨45, Bool, cBool, decide (s259 < (x0.Conds.length : Int))⟩, ⟨44, Int, (cInt .i64), (x0.Conds.length : Int)⟩, ⟨43, (List S_tollhouseref10_Cond), (cSlice cS_tollhouseref10_Cond), x0.Conds⟩, ⟨42, (List S_tollhouseref10_Cond), cRef (cSlice cS_tollhouseref10_Cond), x0.Conds⟩, ⟨41, Int, (cInt .i64), s259⟩, ⟨5, Int, (cInt .i64), s259⟩, ⟨3, S_tollhouseref12_State, cRef cS_tollhouseref12_State, x1⟩, ⟨2, S_tollhouseref12_State, cRef cS_tollhouseref12_State, x0⟩] ++ X700) := S705
            clear S705
            refine op_loadr S706 (okX rfl (hX702 _ rfl)) (S706.at 0 rfl) Tryd.isAgg25 Tryd.sizeOf25 (fun a708 S709 => ?_)
            clear S706 a703
            exact wpList_nil ⟨rfl, (0, undef), S709⟩
          · intro f717 X710 Y711 a713 w714 hX712 S715
            have S716 : St 59 (fun _ => False) D w a713 w714 ([] ++ Y711) ([⟨45, Bool, cBool, decide (s259 < (x0.Conds.length : Int))⟩, ⟨44, Int, (cInt .i64), (x0.Conds.length : Int)⟩, ⟨43, (List S_tollhouseref10_Cond), (cSlice cS_tollhouseref10_Cond), x0.Conds⟩, ⟨42, (List S_tollhouseref10_Cond), cRef (cSlice cS_tollhouseref10_Cond), x0.Conds⟩, ⟨41, Int, (cInt .i64), s259⟩, ⟨5, Int, (cInt .i64), s259⟩, ⟨3, S_tollhouseref12_State, cRef cS_tollhouseref12_State, x1⟩, ⟨2, S_tollhouseref12_State, cRef cS_tollhouseref12_State, x0⟩] ++ X710) := S715
            clear S715
            refine op_move S716 (okX rfl (hX712 _ rfl)) (S716.at 5 rfl) (fun a718 S719 => ?_)
            clear S716 a713
            exact wpList_nil ⟨rfl, (0, undef), S719⟩
          · intro f727 X720 Y721 a723 w724 hX722 S725
            have S726 : St 59 (fun _ => False) D w a723 w724 ([] ++ Y721) ([⟨53, (List S_tollhouseref10_Cond), cRef (cSlice cS_tollhouseref10_Cond), x1.Conds⟩, ⟨54, (List S_tollhouseref10_Cond), (cSlice cS_tollhouseref10_Cond), x1.Conds⟩, ⟨55, Int, (cInt .i64), s259⟩, ⟨45, Bool, cBool, decide (s259 < (x0.Conds.length : Int))⟩, ⟨44, Int, (cInt .i64), (x0.Conds.length : Int)⟩, ⟨43, (List S_tollhouseref10_Cond), (cSlice cS_tollhouseref10_Cond), x0.Conds⟩, ⟨42, (List S_tollhouseref10_Cond), cRef (cSlice cS_tollhouseref10_Cond), x0.Conds⟩, ⟨41, Int, (cInt .i64), s259⟩, ⟨5, Int, (cInt .i64), s259⟩, ⟨3, S_tollhouseref12_State, cRef cS_tollhouseref12_State, x1⟩, ⟨2, S_tollhouseref12_State, cRef cS_tollhouseref12_State, x0⟩] ++ X720) := S725
            clear S725
            refine op_indexAddr (z0 := zS_tollhouseref10_Cond) S726 (okX rfl (hX722 _ rfl)) (S726.at 1 rfl) (S726.int 2 rfl) g634 Tryd.underlying25 Tryd.sizeOf30 (fun a728 S729 => ?_)
            clear S726 a723
            exact wpList_nil ⟨rfl, (0, undef), S729⟩
          · intro f737 X730 Y731 a733 w734 hX732 S735
            have S736 : St 59 (fun _ => False) D w a733 w734 ([] ++ Y731) ([⟨53, (List S_tollhouseref10_Cond), cRef (cSlice cS_tollhouseref10_Cond), x1.Conds⟩, ⟨54, (List S_tollhouseref10_Cond), (cSlice cS_tollhouseref10_Cond), x1.Conds⟩, ⟨55, Int, (cInt .i64), s259⟩, ⟨56, S_tollhouseref10_Cond, cRef cS_tollhouseref10_Cond, x1.Conds.getD (s259 : Int).toNat zS_tollhouseref10_Cond⟩, ⟨45, Bool, cBool, decide (s259 < (x0.Conds.length : Int))⟩, ⟨44, Int, (cInt .i64), (x0.Conds.length : Int)⟩, ⟨43, (List S_tollhouseref10_Cond), (cSlice cS_tollhouseref10_Cond), x0.Conds⟩, ⟨42, (List S_tollhouseref10_Cond), cRef (cSlice cS_tollhouseref10_Cond), x0.Conds⟩, ⟨41, Int, (cInt .i64), s259⟩, ⟨5, Int, (cInt .i64), s259⟩, ⟨3, S_tollhouseref12_State, cRef cS_tollhouseref12_State, x1⟩, ⟨2, S_tollhouseref12_State, cRef cS_tollhouseref12_State, x0⟩] ++ X730) := S735
            clear S735
            refine op_loadr S736 (okX rfl (hX732 _ rfl)) (S736.at 3 rfl) Tryd.isAgg30 Tryd.sizeOf30 (fun a738 S739 => ?_)
            clear S736 a733
            exact wpList_nil ⟨rfl, (0, undef), S739⟩
          · intro f744 a740 w741 _ S742
            have S743 : St 59 (fun _ => False) D w a740 w741 [] [⟨57, S_tollhouseref10_Cond, cS_tollhouseref10_Cond, x1.Conds.getD (s259 : Int).toNat zS_tollhouseref10_Cond⟩, ⟨56, S_tollhouseref10_Cond, cRef cS_tollhouseref10_Cond, x1.Conds.getD (s259 : Int).toNat zS_tollhouseref10_Cond⟩, ⟨55, Int, (cInt .i64), s259⟩, ⟨54, (List S_tollhouseref10_Cond), (cSlice cS_tollhouseref10_Cond), x1.Conds⟩, ⟨53, (List S_tollhouseref10_Cond), cRef (cSlice cS_tollhouseref10_Cond), x1.Conds⟩, ⟨52, S_tollhouseref10_Cond, cS_tollhouseref10_Cond, x0.Conds.getD (s259 : Int).toNat zS_tollhouseref10_Cond⟩, ⟨51, S_tollhouseref10_Cond, cRef cS_tollhouseref10_Cond, x0.Conds.getD (s259 : Int).toNat zS_tollhouseref10_Cond⟩, ⟨50, Int, (cInt .i64), s259⟩, ⟨49, (List S_tollhouseref10_Cond), (cSlice cS_tollhouseref10_Cond), x0.Conds⟩, ⟨48, (List S_tollhouseref10_Cond), cRef (cSlice cS_tollhouseref10_Cond), x0.Conds⟩, ⟨45, Bool, cBool, decide (s259 < (x0.Conds.length : Int))⟩, ⟨44, Int, (cInt .i64), (x0.Conds.length : Int)⟩, ⟨43, (List S_tollhouseref10_Cond), (cSlice cS_tollhouseref10_Cond), x0.Conds⟩, ⟨42, (List S_tollhouseref10_Cond), cRef (cSlice cS_tollhouseref10_Cond), x0.Conds⟩, ⟨41, Int, (cInt .i64), s259⟩, ⟨5, Int, (cInt .i64), s259⟩, ⟨3, S_tollhouseref12_State, cRef cS_tollhouseref12_State, x1⟩, ⟨2, S_tollhouseref12_State, cRef cS_tollhouseref12_State, x0⟩] := S742
            clear S742 S610
            refine op_nev S743 rfl eqS_tollhouseref10_Cond rfl Tryd.eqGuardType30 rfl (S743.at 5 rfl) (S743.at 0 rfl) (fun a745 S746 => ?_)
            clear S743 a740
            refine wpList_nil ?_
            refine hK615 _ _ ?_
            clear hK615 K615
            rcases cond_some hr635 with ⟨b747, hr748⟩ | ⟨b747, hr749⟩
            · clear hr635
              refine c_true (S746.bool 0 rfl) b747 ?_
              refine wp_seq_k (fun K750 hK750 => ?_)
              refine wp_region_lit ?_
              refine op_assign S746 rfl (cPlain_mk (f := Value.bool) false) (fun a751 S752 => ?_)
              clear S746 a745
              refine wpList_nil ?_
              refine hK750 _ _ ?_
              clear hK750 K750
              refine wp_ret ?_
              cases hr748
              intro h753
              refine ⟨(by intro h; cases h), ?_⟩
              refine hQ582 _ _ _ ?_
              have hr754 : (some false : Option (Bool)) = some r := by subst h753; exact h584
              cases hr754
              exact ret1 S752 rfl 0 rfl
            · clear hr635
              refine c_false (S746.bool 0 rfl) b747 ?_
              refine wp_skip ?_
              refine hK614 _ _ ?_
              clear hK614 K614
              refine wp_region_lit ?_
              refine op_move S746 rfl (S746.at 16 rfl) (fun a755 S756 => ?_)
              clear S746 a745
              refine op_add S756 rfl (S756.int 0 rfl) rfl (fun a757 S758 => ?_)
              clear S756 a755
              have S759 := S758.erase 18
              clear S758
              refine op_assign S759 rfl (S759.at 0 rfl) (fun a760 S761 => ?_)
              clear S759 a757
              refine wpList_nil ?_
              have S762 := S761.pick [0, 19, 20]
              clear S761
              cases hr749
              exact ⟨rfl, S762⟩
        · clear hr598
          refine c_false (S610.bool 0 rfl) b611 ?_
          refine wp_exit ?_
          have S763 := S610.pick []
          clear S610
          cases hr613
          intro h764
          refine ⟨(by intro h; cases h), ?_⟩
          exact X590  _ _ S763 (by subst h764; exact h584)
      · exact S766
  obtain ⟨t768, hr770, h769⟩ := bind_some hr
  clear hr
  refine wp_region_lit ?_
  refine op_fieldAddrr S9 rfl (S9.at 2 rfl) Tryd.underlying27 rfl Tryd.sizeOf22 rfl LS_tollhouseref12_State_Channel rfl (fun a771 S772 => ?_)
  clear S9 a8
  refine op_loadr S772 rfl (S772.at 0 rfl) Tryd.isAgg22 Tryd.sizeOf22 (fun a773 S774 => ?_)
  clear S772 a771
  refine op_fieldAddrr S774 rfl (S774.at 3 rfl) Tryd.underlying27 rfl Tryd.sizeOf22 rfl LS_tollhouseref12_State_Channel rfl (fun a775 S776 => ?_)
  clear S774 a773
  refine op_loadr S776 rfl (S776.at 0 rfl) Tryd.isAgg22 Tryd.sizeOf22 (fun a777 S778 => ?_)
  clear S776 a775
  refine op_neq S778 rfl (S778.int 2 rfl) (S778.int 0 rfl) (fun a779 S780 => ?_)
  clear S778 a777
  refine op_move S780 rfl (S780.at 0 rfl) (fun a781 S782 => ?_)
  clear S780 a779
  rcases cond_some hr770 with ⟨b783, hr784⟩ | ⟨b783, hr785⟩
  · clear hr770
    refine op_off (l := _) S782 rfl rfl rfl (S782.bool 0 rfl) b783 (fun a787 S786 => ?_)
    clear S782 a781
    refine op_off (l := _) S786 rfl rfl rfl (S786.bool 0 rfl) b783 (fun a789 S788 => ?_)
    clear S786 a787
    refine op_off (l := _) S788 rfl rfl rfl (S788.bool 0 rfl) b783 (fun a791 S790 => ?_)
    clear S788 a789
    refine op_off (l := _) S790 rfl rfl rfl (S790.bool 0 rfl) b783 (fun a793 S792 => ?_)
    clear S790 a791
    refine op_off (l := _) S792 rfl rfl rfl (S792.bool 0 rfl) b783 (fun a795 S794 => ?_)
    clear S792 a793
    refine op_pickt S794 rfl (S794.bool 0 rfl) b783 (cPlain_mk (f := Value.bool) true) (fun a796 S797 => ?_)
    clear S794 a795
    refine op_move S797 rfl (S797.at 0 rfl) (fun a798 S799 => ?_)
    clear S797 a796
    refine op_off (l := _) S799 rfl rfl rfl (S799.bool 0 rfl) rfl (fun a801 S800 => ?_)
    clear S799 a798
    refine op_off (l := _) S800 rfl rfl rfl (S800.bool 0 rfl) rfl (fun a803 S802 => ?_)
    clear S800 a801
    refine op_off (l := _) S802 rfl rfl rfl (S802.bool 0 rfl) rfl (fun a805 S804 => ?_)
    clear S802 a803
    refine op_off (l := _) S804 rfl rfl rfl (S804.bool 0 rfl) rfl (fun a807 S806 => ?_)
    clear S804 a805
    refine op_off (l := _) S806 rfl rfl rfl (S806.bool 0 rfl) rfl (fun a809 S808 => ?_)
    clear S806 a807
    refine op_pickt S808 rfl (S808.bool 0 rfl) rfl (cPlain_mk (f := Value.bool) true) (fun a810 S811 => ?_)
    clear S808 a809
    refine op_move S811 rfl (S811.at 0 rfl) (fun a812 S813 => ?_)
    clear S811 a810
    refine op_off (l := _) S813 rfl rfl rfl (S813.bool 0 rfl) rfl (fun a815 S814 => ?_)
    clear S813 a812
    refine op_off (l := _) S814 rfl rfl rfl (S814.bool 0 rfl) rfl (fun a817 S816 => ?_)
    clear S814 a815
    refine op_off (l := _) S816 rfl rfl rfl (S816.bool 0 rfl) rfl (fun a819 S818 => ?_)
    clear S816 a817
    refine op_off (l := _) S818 rfl rfl rfl (S818.bool 0 rfl) rfl (fun a821 S820 => ?_)
    clear S818 a819
    refine op_off (l := _) S820 rfl rfl rfl (S820.bool 0 rfl) rfl (fun a823 S822 => ?_)
    clear S820 a821
    refine op_pickt S822 rfl (S822.bool 0 rfl) rfl (cPlain_mk (f := Value.bool) true) (fun a824 S825 => ?_)
    clear S822 a823
    refine op_move S825 rfl (S825.at 0 rfl) (fun a826 S827 => ?_)
    clear S825 a824
    refine op_off (l := _) S827 rfl rfl rfl (S827.bool 0 rfl) rfl (fun a829 S828 => ?_)
    clear S827 a826
    refine op_off (l := _) S828 rfl rfl rfl (S828.bool 0 rfl) rfl (fun a831 S830 => ?_)
    clear S828 a829
    refine op_off (l := _) S830 rfl rfl rfl (S830.bool 0 rfl) rfl (fun a833 S832 => ?_)
    clear S830 a831
    refine op_off (l := _) S832 rfl rfl rfl (S832.bool 0 rfl) rfl (fun a835 S834 => ?_)
    clear S832 a833
    refine op_off (l := _) S834 rfl rfl rfl (S834.bool 0 rfl) rfl (fun a837 S836 => ?_)
    clear S834 a835
    refine op_off (l := _) S836 rfl rfl rfl (S836.bool 0 rfl) rfl (fun a839 S838 => ?_)
    clear S836 a837
    refine op_off (l := _) S838 rfl rfl rfl (S838.bool 0 rfl) rfl (fun a841 S840 => ?_)
    clear S838 a839
    refine op_pickt S840 rfl (S840.bool 0 rfl) rfl (cPlain_mk (f := Value.bool) true) (fun a842 S843 => ?_)
    clear S840 a841
    refine wpList_nil ?_
    have S844 := S843.pick [0, 14, 15]
    clear S843
    exact X244 true _ _ S844 (by cases hr784; exact h769)
  · clear hr770
    refine wpl_on (l := _) rfl rfl (S782.bool 0 rfl) b783 ?_
    refine op_fieldAddrr S782 rfl (S782.at 8 rfl) Tryd.underlying27 rfl Tryd.sizeOf23 rfl LS_tollhouseref12_State_Round rfl (fun a845 S846 => ?_)
    clear S782 a781
    refine wpl_on (l := _) rfl rfl (S846.bool 1 rfl) b783 ?_
    refine op_loadr S846 rfl (S846.at 0 rfl) Tryd.isAgg23 Tryd.sizeOf23 (fun a847 S848 => ?_)
    clear S846 a845
    refine wpl_on (l := _) rfl rfl (S848.bool 2 rfl) b783 ?_
    refine op_fieldAddrr S848 rfl (S848.at 9 rfl) Tryd.underlying27 rfl Tryd.sizeOf23 rfl LS_tollhouseref12_State_Round rfl (fun a849 S850 => ?_)
    clear S848 a847
    refine wpl_on (l := _) rfl rfl (S850.bool 3 rfl) b783 ?_
    refine op_loadr S850 rfl (S850.at 0 rfl) Tryd.isAgg23 Tryd.sizeOf23 (fun a851 S852 => ?_)
    clear S850 a849
    refine wpl_on (l := _) rfl rfl (S852.bool 4 rfl) b783 ?_
    refine op_neq S852 rfl (S852.int 2 rfl) (S852.int 0 rfl) (fun a853 S854 => ?_)
    clear S852 a851
    refine op_pickf S854 rfl (S854.bool 5 rfl) b783 (S854.at 0 rfl) (fun a855 S856 => ?_)
    clear S854 a853
    refine op_move S856 rfl (S856.at 0 rfl) (fun a857 S858 => ?_)
    clear S856 a855
    rcases cond_some hr785 with ⟨b859, hr860⟩ | ⟨b859, hr861⟩
    · clear hr785
      refine op_off (l := _) S858 rfl rfl rfl (S858.bool 0 rfl) b859 (fun a863 S862 => ?_)
      clear S858 a857
      refine op_off (l := _) S862 rfl rfl rfl (S862.bool 0 rfl) b859 (fun a865 S864 => ?_)
      clear S862 a863
      refine op_off (l := _) S864 rfl rfl rfl (S864.bool 0 rfl) b859 (fun a867 S866 => ?_)
      clear S864 a865
      refine op_off (l := _) S866 rfl rfl rfl (S866.bool 0 rfl) b859 (fun a869 S868 => ?_)
      clear S866 a867
      refine op_off (l := _) S868 rfl rfl rfl (S868.bool 0 rfl) b859 (fun a871 S870 => ?_)
      clear S868 a869
      refine op_pickt S870 rfl (S870.bool 0 rfl) b859 (cPlain_mk (f := Value.bool) true) (fun a872 S873 => ?_)
      clear S870 a871
      refine op_move S873 rfl (S873.at 0 rfl) (fun a874 S875 => ?_)
      clear S873 a872
      refine op_off (l := _) S875 rfl rfl rfl (S875.bool 0 rfl) rfl (fun a877 S876 => ?_)
      clear S875 a874
      refine op_off (l := _) S876 rfl rfl rfl (S876.bool 0 rfl) rfl (fun a879 S878 => ?_)
      clear S876 a877
      refine op_off (l := _) S878 rfl rfl rfl (S878.bool 0 rfl) rfl (fun a881 S880 => ?_)
      clear S878 a879
      refine op_off (l := _) S880 rfl rfl rfl (S880.bool 0 rfl) rfl (fun a883 S882 => ?_)
      clear S880 a881
      refine op_off (l := _) S882 rfl rfl rfl (S882.bool 0 rfl) rfl (fun a885 S884 => ?_)
      clear S882 a883
      refine op_pickt S884 rfl (S884.bool 0 rfl) rfl (cPlain_mk (f := Value.bool) true) (fun a886 S887 => ?_)
      clear S884 a885
      refine op_move S887 rfl (S887.at 0 rfl) (fun a888 S889 => ?_)
      clear S887 a886
      refine op_off (l := _) S889 rfl rfl rfl (S889.bool 0 rfl) rfl (fun a891 S890 => ?_)
      clear S889 a888
      refine op_off (l := _) S890 rfl rfl rfl (S890.bool 0 rfl) rfl (fun a893 S892 => ?_)
      clear S890 a891
      refine op_off (l := _) S892 rfl rfl rfl (S892.bool 0 rfl) rfl (fun a895 S894 => ?_)
      clear S892 a893
      refine op_off (l := _) S894 rfl rfl rfl (S894.bool 0 rfl) rfl (fun a897 S896 => ?_)
      clear S894 a895
      refine op_off (l := _) S896 rfl rfl rfl (S896.bool 0 rfl) rfl (fun a899 S898 => ?_)
      clear S896 a897
      refine op_off (l := _) S898 rfl rfl rfl (S898.bool 0 rfl) rfl (fun a901 S900 => ?_)
      clear S898 a899
      refine op_off (l := _) S900 rfl rfl rfl (S900.bool 0 rfl) rfl (fun a903 S902 => ?_)
      clear S900 a901
      refine op_pickt S902 rfl (S902.bool 0 rfl) rfl (cPlain_mk (f := Value.bool) true) (fun a904 S905 => ?_)
      clear S902 a903
      refine wpList_nil ?_
      have S906 := S905.pick [0, 19, 20]
      clear S905
      exact X244 true _ _ S906 (by cases hr860; exact h769)
    · clear hr785
      refine wpl_on (l := _) rfl rfl (S858.bool 0 rfl) b859 ?_
      refine op_fieldAddrr S858 rfl (S858.at 15 rfl) Tryd.underlying27 rfl Tryd.sizeOf24 rfl LS_tollhouseref12_State_Moved rfl (fun a907 S908 => ?_)
      clear S858 a857
      refine wpl_on (l := _) rfl rfl (S908.bool 1 rfl) b859 ?_
      refine op_loadr S908 rfl (S908.at 0 rfl) Tryd.isAgg24 Tryd.sizeOf24 (fun a909 S910 => ?_)
      clear S908 a907
      refine wpl_on (l := _) rfl rfl (S910.bool 2 rfl) b859 ?_
      refine op_fieldAddrr S910 rfl (S910.at 16 rfl) Tryd.underlying27 rfl Tryd.sizeOf24 rfl LS_tollhouseref12_State_Moved rfl (fun a911 S912 => ?_)
      clear S910 a909
      refine wpl_on (l := _) rfl rfl (S912.bool 3 rfl) b859 ?_
      refine op_loadr S912 rfl (S912.at 0 rfl) Tryd.isAgg24 Tryd.sizeOf24 (fun a913 S914 => ?_)
      clear S912 a911
      refine wpl_on (l := _) rfl rfl (S914.bool 4 rfl) b859 ?_
      refine op_nev S914 rfl (eq_arr Tryd.underlying24 infoS23 (eq_int Tryd.underlying23) Tryd.isAgg23 Tryd.sizeOf23) rfl Tryd.eqGuardType24 rfl (S914.at 2 rfl) (S914.at 0 rfl) (fun a915 S916 => ?_)
      clear S914 a913
      refine op_pickf S916 rfl (S916.bool 5 rfl) b859 (S916.at 0 rfl) (fun a917 S918 => ?_)
      clear S916 a915
      refine op_move S918 rfl (S918.at 0 rfl) (fun a919 S920 => ?_)
      clear S918 a917
      rcases cond_some hr861 with ⟨b921, hr922⟩ | ⟨b921, hr923⟩
      · clear hr861
        refine op_off (l := _) S920 rfl rfl rfl (S920.bool 0 rfl) b921 (fun a925 S924 => ?_)
        clear S920 a919
        refine op_off (l := _) S924 rfl rfl rfl (S924.bool 0 rfl) b921 (fun a927 S926 => ?_)
        clear S924 a925
        refine op_off (l := _) S926 rfl rfl rfl (S926.bool 0 rfl) b921 (fun a929 S928 => ?_)
        clear S926 a927
        refine op_off (l := _) S928 rfl rfl rfl (S928.bool 0 rfl) b921 (fun a931 S930 => ?_)
        clear S928 a929
        refine op_off (l := _) S930 rfl rfl rfl (S930.bool 0 rfl) b921 (fun a933 S932 => ?_)
        clear S930 a931
        refine op_pickt S932 rfl (S932.bool 0 rfl) b921 (cPlain_mk (f := Value.bool) true) (fun a934 S935 => ?_)
        clear S932 a933
        refine op_move S935 rfl (S935.at 0 rfl) (fun a936 S937 => ?_)
        clear S935 a934
        refine op_off (l := _) S937 rfl rfl rfl (S937.bool 0 rfl) rfl (fun a939 S938 => ?_)
        clear S937 a936
        refine op_off (l := _) S938 rfl rfl rfl (S938.bool 0 rfl) rfl (fun a941 S940 => ?_)
        clear S938 a939
        refine op_off (l := _) S940 rfl rfl rfl (S940.bool 0 rfl) rfl (fun a943 S942 => ?_)
        clear S940 a941
        refine op_off (l := _) S942 rfl rfl rfl (S942.bool 0 rfl) rfl (fun a945 S944 => ?_)
        clear S942 a943
        refine op_off (l := _) S944 rfl rfl rfl (S944.bool 0 rfl) rfl (fun a947 S946 => ?_)
        clear S944 a945
        refine op_off (l := _) S946 rfl rfl rfl (S946.bool 0 rfl) rfl (fun a949 S948 => ?_)
        clear S946 a947
        refine op_off (l := _) S948 rfl rfl rfl (S948.bool 0 rfl) rfl (fun a951 S950 => ?_)
        clear S948 a949
        refine op_pickt S950 rfl (S950.bool 0 rfl) rfl (cPlain_mk (f := Value.bool) true) (fun a952 S953 => ?_)
        clear S950 a951
        refine wpList_nil ?_
        have S954 := S953.pick [0, 24, 25]
        clear S953
        exact X244 true _ _ S954 (by cases hr922; exact h769)
      · clear hr861
        refine wpl_on (l := _) rfl rfl (S920.bool 0 rfl) b921 ?_
        refine op_fieldAddrr S920 rfl (S920.at 22 rfl) Tryd.underlying27 rfl Tryd.sizeOf24 rfl LS_tollhouseref12_State_Taken rfl (fun a955 S956 => ?_)
        clear S920 a919
        refine wpl_on (l := _) rfl rfl (S956.bool 1 rfl) b921 ?_
        refine op_loadr S956 rfl (S956.at 0 rfl) Tryd.isAgg24 Tryd.sizeOf24 (fun a957 S958 => ?_)
        clear S956 a955
        refine wpl_on (l := _) rfl rfl (S958.bool 2 rfl) b921 ?_
        refine op_fieldAddrr S958 rfl (S958.at 23 rfl) Tryd.underlying27 rfl Tryd.sizeOf24 rfl LS_tollhouseref12_State_Taken rfl (fun a959 S960 => ?_)
        clear S958 a957
        refine wpl_on (l := _) rfl rfl (S960.bool 3 rfl) b921 ?_
        refine op_loadr S960 rfl (S960.at 0 rfl) Tryd.isAgg24 Tryd.sizeOf24 (fun a961 S962 => ?_)
        clear S960 a959
        refine wpl_on (l := _) rfl rfl (S962.bool 4 rfl) b921 ?_
        refine op_nev S962 rfl (eq_arr Tryd.underlying24 infoS23 (eq_int Tryd.underlying23) Tryd.isAgg23 Tryd.sizeOf23) rfl Tryd.eqGuardType24 rfl (S962.at 2 rfl) (S962.at 0 rfl) (fun a963 S964 => ?_)
        clear S962 a961
        refine op_pickf S964 rfl (S964.bool 5 rfl) b921 (S964.at 0 rfl) (fun a965 S966 => ?_)
        clear S964 a963
        refine op_move S966 rfl (S966.at 0 rfl) (fun a967 S968 => ?_)
        clear S966 a965
        rcases cond_some hr923 with ⟨b969, hr970⟩ | ⟨b969, hr971⟩
        · clear hr923
          refine op_off (l := _) S968 rfl rfl rfl (S968.bool 0 rfl) b969 (fun a973 S972 => ?_)
          clear S968 a967
          refine op_off (l := _) S972 rfl rfl rfl (S972.bool 0 rfl) b969 (fun a975 S974 => ?_)
          clear S972 a973
          refine op_off (l := _) S974 rfl rfl rfl (S974.bool 0 rfl) b969 (fun a977 S976 => ?_)
          clear S974 a975
          refine op_off (l := _) S976 rfl rfl rfl (S976.bool 0 rfl) b969 (fun a979 S978 => ?_)
          clear S976 a977
          refine op_off (l := _) S978 rfl rfl rfl (S978.bool 0 rfl) b969 (fun a981 S980 => ?_)
          clear S978 a979
          refine op_off (l := _) S980 rfl rfl rfl (S980.bool 0 rfl) b969 (fun a983 S982 => ?_)
          clear S980 a981
          refine op_off (l := _) S982 rfl rfl rfl (S982.bool 0 rfl) b969 (fun a985 S984 => ?_)
          clear S982 a983
          refine op_pickt S984 rfl (S984.bool 0 rfl) b969 (cPlain_mk (f := Value.bool) true) (fun a986 S987 => ?_)
          clear S984 a985
          refine wpList_nil ?_
          have S988 := S987.pick [0, 29, 30]
          clear S987
          exact X244 true _ _ S988 (by cases hr970; exact h769)
        · clear hr923
          refine wpl_on (l := _) rfl rfl (S968.bool 0 rfl) b969 ?_
          refine op_fieldAddrr S968 rfl (S968.at 29 rfl) Tryd.underlying27 rfl Tryd.sizeOf25 rfl LS_tollhouseref12_State_Conds rfl (fun a989 S990 => ?_)
          clear S968 a967
          refine wpl_on (l := _) rfl rfl (S990.bool 1 rfl) b969 ?_
          refine op_loadr S990 rfl (S990.at 0 rfl) Tryd.isAgg25 Tryd.sizeOf25 (fun a991 S992 => ?_)
          clear S990 a989
          refine wpl_on (l := _) rfl rfl (S992.bool 2 rfl) b969 ?_
          refine op_len S992 rfl (S992.at 0 rfl) Tryd.underlying25 (fun a993 S994 => ?_)
          clear S992 a991
          refine wpl_on (l := _) rfl rfl (S994.bool 3 rfl) b969 ?_
          refine op_fieldAddrr S994 rfl (S994.at 31 rfl) Tryd.underlying27 rfl Tryd.sizeOf25 rfl LS_tollhouseref12_State_Conds rfl (fun a995 S996 => ?_)
          clear S994 a993
          refine wpl_on (l := _) rfl rfl (S996.bool 4 rfl) b969 ?_
          refine op_loadr S996 rfl (S996.at 0 rfl) Tryd.isAgg25 Tryd.sizeOf25 (fun a997 S998 => ?_)
          clear S996 a995
          refine wpl_on (l := _) rfl rfl (S998.bool 5 rfl) b969 ?_
          refine op_len S998 rfl (S998.at 0 rfl) Tryd.underlying25 (fun a999 S1000 => ?_)
          clear S998 a997
          refine wpl_on (l := _) rfl rfl (S1000.bool 6 rfl) b969 ?_
          refine op_neq S1000 rfl (S1000.int 3 rfl) (S1000.int 0 rfl) (fun a1001 S1002 => ?_)
          clear S1000 a999
          refine op_pickf S1002 rfl (S1002.bool 7 rfl) b969 (S1002.at 0 rfl) (fun a1003 S1004 => ?_)
          clear S1002 a1001
          refine wpList_nil ?_
          have S1005 := S1004.pick [0, 36, 37]
          clear S1004
          exact X244 (!decide ((x0.Conds.length : Int) = (x1.Conds.length : Int))) _ _ S1005 (by cases hr971; exact h769)
/-- tollhouse/tollhouselaw10.From -/
noncomputable def tollhouselaw10_From (x0 : S_api_Cond) : Option S_tollhouseref10_Cond :=
  some ({ Id := x0.Id, By := x0.By, Amount := x0.Amount, Hash := x0.Hash, Expiry := x0.Expiry } : S_tollhouseref10_Cond)
set_option maxRecDepth 100000 in
set_option maxHeartbeats 8000000 in
theorem tollhouselaw10_From_ok {D : Dirty} {w : World} {v0 : Value} {x0 : S_api_Cond} {r : S_tollhouseref10_Cond} (h0 : cS_api_Cond.val D w v0 x0) (hD : ∀ k, D k → k < w.heap.size) (hr : tollhouselaw10_From x0 = some r) :
    Calls Tryd.prog 49 [v0].toArray w (Ret cS_tollhouseref10_Cond D w r) := by
  refine calls_start (n := 14) Tryd.func49 rfl rfl ?_
  have S := St.start (w := w) (args := [v0].toArray) 14 rfl hD
  replace S := S.arg 0 rfl (val_dirt0 h0)
  unfold tollhouselaw10_From at hr
  refine wp_seq_k (fun K1 hK1 => ?_)
  refine wp_region_lit ?_
  refine op_boxr S rfl (S.at 0 rfl) cS_api_Cond_flat (fun a2 w4 S3 => ?_)
  clear S
  refine op_alloc S3 rfl Tryd.zeroValue30 zS_tollhouseref10_Cond_ok (fun b5 a6 w7 S8 => ?_)
  clear S3 a2 w4
  refine wpList_nil ?_
  refine hK1 _ _ ?_
  clear hK1 K1
  refine wp_seq_k (fun K9 hK9 => ?_)
  refine wp_region_lit ?_
  refine op_fieldAddrr S8 rfl (S8.at 1 rfl) Tryd.underlying46 rfl Tryd.sizeOf23 rfl LS_api_Cond_Id rfl (fun a10 S11 => ?_)
  clear S8 a6
  refine op_loadr S11 rfl (S11.at 0 rfl) Tryd.isAgg23 Tryd.sizeOf23 (fun a12 S13 => ?_)
  clear S11 a10
  refine op_fieldAddrr S13 rfl (S13.at 3 rfl) Tryd.underlying46 rfl Tryd.sizeOf43 rfl LS_api_Cond_By rfl (fun a14 S15 => ?_)
  clear S13 a12
  refine op_loadr S15 rfl (S15.at 0 rfl) Tryd.isAgg43 Tryd.sizeOf43 (fun a16 S17 => ?_)
  clear S15 a14
  refine op_fieldAddrr S17 rfl (S17.at 5 rfl) Tryd.underlying46 rfl Tryd.sizeOf23 rfl LS_api_Cond_Amount rfl (fun a18 S19 => ?_)
  clear S17 a16
  refine op_loadr S19 rfl (S19.at 0 rfl) Tryd.isAgg23 Tryd.sizeOf23 (fun a20 S21 => ?_)
  clear S19 a18
  refine op_fieldAddrr S21 rfl (S21.at 7 rfl) Tryd.underlying46 rfl Tryd.sizeOf44 rfl LS_api_Cond_Hash rfl (fun a22 S23 => ?_)
  clear S21 a20
  refine op_loadr S23 rfl (S23.at 0 rfl) Tryd.isAgg44 Tryd.sizeOf44 (fun a24 S25 => ?_)
  clear S23 a22
  refine op_fieldAddrr S25 rfl (S25.at 9 rfl) Tryd.underlying46 rfl Tryd.sizeOf23 rfl LS_api_Cond_Expiry rfl (fun a26 S27 => ?_)
  clear S25 a24
  refine op_loadr S27 rfl (S27.at 0 rfl) Tryd.isAgg23 Tryd.sizeOf23 (fun a28 S29 => ?_)
  clear S27 a26
  refine op_build (y := ({ Id := x0.Id, By := x0.By, Amount := x0.Amount, Hash := x0.Hash, Expiry := x0.Expiry } : S_tollhouseref10_Cond)) S29 rfl rfl Tryd.underlying30 Tryd.zeroValue30 zS_tollhouseref10_Cond_ok places30 (.cons (S29.at 8 rfl) (cInt_flat _) LS_tollhouseref10_Cond_Id rfl (.cons (S29.at 6 rfl) (cInt_flat _) LS_tollhouseref10_Cond_By rfl (.cons (S29.at 4 rfl) (cInt_flat _) LS_tollhouseref10_Cond_Amount rfl (.cons (S29.at 2 rfl) (cArr_flat (cInt_flat _)) LS_tollhouseref10_Cond_Hash rfl (.cons (S29.at 0 rfl) (cInt_flat _) LS_tollhouseref10_Cond_Expiry rfl .nil))))) (fun a30 S31 => ?_)
  clear S29 a28
  refine op_store S31 0 rfl (S31.raw 11 rfl) (S31.at 0 rfl) (Lens.id _) cS_tollhouseref10_Cond_flat Tryd.sizeOf30 (fun w32 S33 => ?_)
  clear S31 w7
  refine wpList_nil ?_
  refine hK9 _ _ ?_
  clear hK9 K9
  refine wp_ret ?_
  cases hr
  exact retc S33 rfl (cellv S33 11 0 rfl rfl Tryd.isAgg30 Tryd.sizeOf30)  
end Go.Proofs.X
