/-
  NARROWER THAN 'FOR EVERY INPUT', by the rows' own cells (each row's printed sentence says how): ReportStates: laid · ReportWebs: laid · BondWaits: laid · BondNews: laid.
  DERIVED. THE GIVEN ROWS OF THIS SEAT. 4 by the template 'for every input the law returns true; each argument reads behind the call as it read before'; 0 by the template 'total and deterministic' (their statements: YtknffjhclhgoiaaDoorTotals.lean).
  GIVEN WITH THE SEED: the statements are not yours to turn. If you find one false, say at which input.
  Laid BY PROGRAM, IN A SANDBOX (cutbox-rows.mjs): the forced cells as the released guide's own fill.sh prints them over the translation f040f17d3092bd20… (all of the seat's roots in one cut). By AI agents, Wed Nov 11 2026. No macro, syntax, notation, axiom, sorry.
-/
import Derived.Test.YtknffjhclhgoiaaDoorChecked
import GoSem.Claim
import GoSem.ClaimJoined
import GoSem.ClaimMapViews
import Derived.JoinedTies
import Derived.KernelRfl
namespace Go.Proofs.YtknffjhclhgoiaaDoor
/- THE CELL 'sum', in the pinned program and in every row, IS THE sha256 OF THE DUMP (.gsa) THAT YtknffjhclhgoiaaDoorProg.lean LOADS. Nothing in Lean hashes anything: it is a label: what it is worth is what the hold of that sum in a sandbox is worth. -/
noncomputable def Tryd.pinned : Pinned := { name := "ytknffjhclhgoiaadoor", sum := "f040f17d3092bd20ed8427956eda7d510515a127cdf1009be8a9f855d2c9fc97", checked := Tryd.checked }
namespace Rows
def none {H : Type} : Left H := { results := [], args := [] }

/- WHAT THE LISTED PACKAGE-LEVEL VARIABLES READ AS WHEN THE CALL BEGINS. Each datum BY PROGRAM (the guide's laid-datum.mjs) off the statement by which the dump's own 'gosem.cut.vars' lays the variable. In a bare row this is a premise. The card (YtknffjhclhgoiaaDoorCards.lean) ties it to the program's text. -/
def laid_math_bits_deBruijn32tab {H : Type} : DataW H := .agg [.lit (.int .u8 0), .lit (.int .u8 1), .lit (.int .u8 28), .lit (.int .u8 2), .lit (.int .u8 29), .lit (.int .u8 14), .lit (.int .u8 24), .lit (.int .u8 3), .lit (.int .u8 30), .lit (.int .u8 22), .lit (.int .u8 20), .lit (.int .u8 15), .lit (.int .u8 25), .lit (.int .u8 17), .lit (.int .u8 4), .lit (.int .u8 8), .lit (.int .u8 31), .lit (.int .u8 27), .lit (.int .u8 13), .lit (.int .u8 23), .lit (.int .u8 21), .lit (.int .u8 19), .lit (.int .u8 16), .lit (.int .u8 7), .lit (.int .u8 26), .lit (.int .u8 12), .lit (.int .u8 18), .lit (.int .u8 6), .lit (.int .u8 11), .lit (.int .u8 5), .lit (.int .u8 10), .lit (.int .u8 9)]
def laid_math_bits_deBruijn64tab {H : Type} : DataW H := .agg [.lit (.int .u8 0), .lit (.int .u8 1), .lit (.int .u8 56), .lit (.int .u8 2), .lit (.int .u8 57), .lit (.int .u8 49), .lit (.int .u8 28), .lit (.int .u8 3), .lit (.int .u8 61), .lit (.int .u8 58), .lit (.int .u8 42), .lit (.int .u8 50), .lit (.int .u8 38), .lit (.int .u8 29), .lit (.int .u8 17), .lit (.int .u8 4), .lit (.int .u8 62), .lit (.int .u8 47), .lit (.int .u8 59), .lit (.int .u8 36), .lit (.int .u8 45), .lit (.int .u8 43), .lit (.int .u8 51), .lit (.int .u8 22), .lit (.int .u8 53), .lit (.int .u8 39), .lit (.int .u8 33), .lit (.int .u8 30), .lit (.int .u8 24), .lit (.int .u8 18), .lit (.int .u8 12), .lit (.int .u8 5), .lit (.int .u8 63), .lit (.int .u8 55), .lit (.int .u8 48), .lit (.int .u8 27), .lit (.int .u8 60), .lit (.int .u8 41), .lit (.int .u8 37), .lit (.int .u8 16), .lit (.int .u8 46), .lit (.int .u8 35), .lit (.int .u8 44), .lit (.int .u8 21), .lit (.int .u8 52), .lit (.int .u8 32), .lit (.int .u8 23), .lit (.int .u8 11), .lit (.int .u8 54), .lit (.int .u8 26), .lit (.int .u8 40), .lit (.int .u8 15), .lit (.int .u8 34), .lit (.int .u8 20), .lit (.int .u8 31), .lit (.int .u8 10), .lit (.int .u8 25), .lit (.int .u8 14), .lit (.int .u8 19), .lit (.int .u8 9), .lit (.int .u8 13), .lit (.int .u8 8), .lit (.int .u8 7), .lit (.int .u8 6)]
def laid_internal_strconv_uint64pow10 {H : Type} : DataW H := .agg [.lit (.int .u64 1), .lit (.int .u64 10), .lit (.int .u64 100), .lit (.int .u64 1000), .lit (.int .u64 10000), .lit (.int .u64 100000), .lit (.int .u64 1000000), .lit (.int .u64 10000000), .lit (.int .u64 100000000), .lit (.int .u64 1000000000), .lit (.int .u64 10000000000), .lit (.int .u64 100000000000), .lit (.int .u64 1000000000000), .lit (.int .u64 10000000000000), .lit (.int .u64 100000000000000), .lit (.int .u64 1000000000000000), .lit (.int .u64 10000000000000000), .lit (.int .u64 100000000000000000), .lit (.int .u64 1000000000000000000), .lit (.int .u64 10000000000000000000)]
def laid_tollhouse_report_wishes {H : Type} : DataW H := .agg [.lit (.string [112, 97, 115, 115]), .lit (.string [112, 97, 121]), .lit (.string [108, 111, 99, 107]), .lit (.string [100, 111, 110, 101]), .lit (.string [117, 110, 100, 111]), .lit (.string [116, 97, 107, 101])]
def laid_tollhouse_code_forms {H : Type} : DataW H := .agg [.agg [.lit (.string [104, 97, 108, 116]), .lit (.int .i64 0), .lit (.int .i64 1)], .agg [.lit (.string [112, 117, 115, 104]), .lit (.int .i64 8), .lit (.int .i64 1)], .agg [.lit (.string [108, 111, 97, 100]), .lit (.int .i64 1), .lit (.int .i64 1)], .agg [.lit (.string [97, 100, 100]), .lit (.int .i64 0), .lit (.int .i64 1)], .agg [.lit (.string [115, 117, 98]), .lit (.int .i64 0), .lit (.int .i64 1)], .agg [.lit (.string [109, 117, 108]), .lit (.int .i64 0), .lit (.int .i64 3)], .agg [.lit (.string [108, 101, 115, 115]), .lit (.int .i64 0), .lit (.int .i64 1)], .agg [.lit (.string [115, 97, 109, 101]), .lit (.int .i64 0), .lit (.int .i64 1)], .agg [.lit (.string [110, 111, 116]), .lit (.int .i64 0), .lit (.int .i64 1)], .agg [.lit (.string [98, 111, 116, 104]), .lit (.int .i64 0), .lit (.int .i64 1)], .agg [.lit (.string [97, 110, 121]), .lit (.int .i64 0), .lit (.int .i64 1)], .agg [.lit (.string [106, 117, 109, 112]), .lit (.int .i64 2), .lit (.int .i64 1)], .agg [.lit (.string [105, 102]), .lit (.int .i64 2), .lit (.int .i64 1)], .agg [.lit (.string [116, 119, 105, 99, 101]), .lit (.int .i64 0), .lit (.int .i64 1)], .agg [.lit (.string [115, 119, 97, 112]), .lit (.int .i64 0), .lit (.int .i64 1)], .agg [.lit (.string [100, 114, 111, 112]), .lit (.int .i64 0), .lit (.int .i64 1)], .agg [.lit (.string [112, 97, 105, 100]), .lit (.int .i64 1), .lit (.int .i64 10)], .agg [.lit (.string [110, 111, 119]), .lit (.int .i64 0), .lit (.int .i64 1)]]

/-- 'tollhouselaw31.ReportStates': WHATEVER THE INPUT: true; the input reads as it did. -/
def reportStatesSpec : ChangeSpec := { name := "reportStates", fn := fun _ => fun
  | [d1, d2, d3] => { results := [.lit (.bool true)], args := [d1, d2, d3] }
  | _ => none }
def reportStatesRow : OpenClaim := { program := "ytknffjhclhgoiaadoor", sum := "f040f17d3092bd20ed8427956eda7d510515a127cdf1009be8a9f855d2c9fc97", func := "tollhouse/tollhouselaw31.ReportStates", spec := "reportStates", inPlace := ["internal/abi.NoEscape", "internal/bytealg.MakeNoZero"], named := ["internal/strconv.uint64pow10", "math/bits.deBruijn32tab", "math/bits.deBruijn64tab", "tollhouse/report.wishes"], plainKeys := false, apart := false, laid := [("math/bits.deBruijn32tab", laid_math_bits_deBruijn32tab), ("math/bits.deBruijn64tab", laid_math_bits_deBruijn64tab), ("internal/strconv.uint64pow10", laid_internal_strconv_uint64pow10), ("tollhouse/report.wishes", laid_tollhouse_report_wishes)] }
def ReportStatesSaid : Prop := reportStatesRow.holds Tryd.pinned (OpenSpec.ofChange reportStatesSpec)

/-- ITS FALSE NEIGHBOUR: 'it returns false'. Refute it at one input. -/
def reportStatesWrong : ChangeSpec := { name := "reportStates", fn := fun _ => fun
  | [d1, d2, d3] => { results := [.lit (.bool false)], args := [d1, d2, d3] }
  | _ => none }
def ReportStatesWrongFalsely : Prop := reportStatesRow.holds Tryd.pinned (OpenSpec.ofChange reportStatesWrong)

/-- 'tollhouselaw31.ReportWebs': WHATEVER THE INPUT: true; the input reads as it did. -/
def reportWebsSpec : ChangeSpec := { name := "reportWebs", fn := fun _ => fun
  | [d1, d2] => { results := [.lit (.bool true)], args := [d1, d2] }
  | _ => none }
def reportWebsRow : OpenClaim := { program := "ytknffjhclhgoiaadoor", sum := "f040f17d3092bd20ed8427956eda7d510515a127cdf1009be8a9f855d2c9fc97", func := "tollhouse/tollhouselaw31.ReportWebs", spec := "reportWebs", inPlace := ["internal/abi.NoEscape", "internal/bytealg.MakeNoZero"], named := ["internal/strconv.uint64pow10", "math/bits.deBruijn32tab", "math/bits.deBruijn64tab"], plainKeys := false, apart := false, laid := [("math/bits.deBruijn32tab", laid_math_bits_deBruijn32tab), ("math/bits.deBruijn64tab", laid_math_bits_deBruijn64tab), ("internal/strconv.uint64pow10", laid_internal_strconv_uint64pow10)] }
def ReportWebsSaid : Prop := reportWebsRow.holds Tryd.pinned (OpenSpec.ofChange reportWebsSpec)

/-- ITS FALSE NEIGHBOUR: 'it returns false'. Refute it at one input. -/
def reportWebsWrong : ChangeSpec := { name := "reportWebs", fn := fun _ => fun
  | [d1, d2] => { results := [.lit (.bool false)], args := [d1, d2] }
  | _ => none }
def ReportWebsWrongFalsely : Prop := reportWebsRow.holds Tryd.pinned (OpenSpec.ofChange reportWebsWrong)

/-- 'tollhouselaw14.BondWaits': WHATEVER THE INPUT: true; the input reads as it did. -/
def bondWaitsSpec : ChangeSpec := { name := "bondWaits", fn := fun _ => fun
  | [d1, d2, d3] => { results := [.lit (.bool true)], args := [d1, d2, d3] }
  | _ => none }
def bondWaitsRow : OpenClaim := { program := "ytknffjhclhgoiaadoor", sum := "f040f17d3092bd20ed8427956eda7d510515a127cdf1009be8a9f855d2c9fc97", func := "tollhouse/tollhouselaw14.BondWaits", spec := "bondWaits", inPlace := ["math/bits.Add64"], unfollowed := true, recurses := true, named := ["tollhouse/code.forms"], plainKeys := false, apart := false, laid := [("tollhouse/code.forms", laid_tollhouse_code_forms)] }
def BondWaitsSaid : Prop := bondWaitsRow.holds Tryd.pinned (OpenSpec.ofChange bondWaitsSpec)

/-- ITS FALSE NEIGHBOUR: 'it returns false'. Refute it at one input. -/
def bondWaitsWrong : ChangeSpec := { name := "bondWaits", fn := fun _ => fun
  | [d1, d2, d3] => { results := [.lit (.bool false)], args := [d1, d2, d3] }
  | _ => none }
def BondWaitsWrongFalsely : Prop := bondWaitsRow.holds Tryd.pinned (OpenSpec.ofChange bondWaitsWrong)

/-- 'tollhouselaw14.BondNews': WHATEVER THE INPUT: true; the input reads as it did. -/
def bondNewsSpec : ChangeSpec := { name := "bondNews", fn := fun _ => fun
  | [d1, d2, d3, d4, d5] => { results := [.lit (.bool true)], args := [d1, d2, d3, d4, d5] }
  | _ => none }
def bondNewsRow : OpenClaim := { program := "ytknffjhclhgoiaadoor", sum := "f040f17d3092bd20ed8427956eda7d510515a127cdf1009be8a9f855d2c9fc97", func := "tollhouse/tollhouselaw14.BondNews", spec := "bondNews", inPlace := ["math/bits.Add64"], unfollowed := true, recurses := true, named := ["tollhouse/code.forms"], plainKeys := false, apart := false, laid := [("tollhouse/code.forms", laid_tollhouse_code_forms)] }
def BondNewsSaid : Prop := bondNewsRow.holds Tryd.pinned (OpenSpec.ofChange bondNewsSpec)

/-- ITS FALSE NEIGHBOUR: 'it returns false'. Refute it at one input. -/
def bondNewsWrong : ChangeSpec := { name := "bondNews", fn := fun _ => fun
  | [d1, d2, d3, d4, d5] => { results := [.lit (.bool false)], args := [d1, d2, d3, d4, d5] }
  | _ => none }
def BondNewsWrongFalsely : Prop := bondNewsRow.holds Tryd.pinned (OpenSpec.ofChange bondNewsWrong)

/- THE SECOND FORM. 'bulk': how many values and letters a reading holds, each counted each time it is reached (what is shared counts as often as it is met; a slice's spare places count too). A statement '..UptoSaid' is the law's where the arguments, and the package variables that the reading takes, are together of bulk at most 1048576: NARROWER than '..Said'. Prove '..Said' where nothing that the law and all that it calls make is longer than what came in: it says more and counts as full. Else prove '..UptoSaid'. A law counts once. -/
mutual
def uptoBulk {H : Type} : DataW H → Nat
  | .lit (.string bytes) => bytes.length + 1
  | .lit _ => 1
  | .nil => 1
  | .ptr d => uptoBulk d + 1
  | .slice elems spare => uptoBulkAll elems + uptoBulkAll spare + 1
  | .agg parts => uptoBulkAll parts + 1
  | .iface _ d => uptoBulk d + 1
  | .map entries => uptoBulkEntries entries + 1
  | .held _ => 1
def uptoBulkAll {H : Type} : List (DataW H) → Nat
  | [] => 0
  | d :: r => uptoBulk d + uptoBulkAll r
def uptoBulkEntries {H : Type} : List (Lit × DataW H) → Nat
  | [] => 0
  | x :: r => uptoBulkEntry x + uptoBulkEntries r
def uptoBulkEntry {H : Type} : Lit × DataW H → Nat
  | (.string bytes, d) => bytes.length + uptoBulk d + 1
  | (_, d) => uptoBulk d + 1
 end
def uptoSmall : (H : Type) → List (DataW H) → Bool := fun _ ds => decide (uptoBulkAll ds ≤ 1048576)
def OpenSpec.upto (s : _root_.Go.ChangeSpec) : _root_.Go.OpenSpec := { _root_.Go.OpenSpec.ofChange s with cond := some uptoSmall }

/-- 'tollhouselaw31.ReportStates', WHERE WHAT IT READS IS OF BULK AT MOST 1048576: true; the input reads as it did. -/
def reportStatesUptoRow : OpenClaim := { program := "ytknffjhclhgoiaadoor", sum := "f040f17d3092bd20ed8427956eda7d510515a127cdf1009be8a9f855d2c9fc97", func := "tollhouse/tollhouselaw31.ReportStates", spec := "reportStates", inPlace := ["internal/abi.NoEscape", "internal/bytealg.MakeNoZero"], named := ["internal/strconv.uint64pow10", "math/bits.deBruijn32tab", "math/bits.deBruijn64tab", "tollhouse/report.wishes"], plainKeys := false, apart := false, laid := [("math/bits.deBruijn32tab", laid_math_bits_deBruijn32tab), ("math/bits.deBruijn64tab", laid_math_bits_deBruijn64tab), ("internal/strconv.uint64pow10", laid_internal_strconv_uint64pow10), ("tollhouse/report.wishes", laid_tollhouse_report_wishes)], narrowed := true }
def ReportStatesUptoSaid : Prop := reportStatesUptoRow.holds Tryd.pinned (OpenSpec.upto reportStatesSpec)

/-- 'tollhouselaw31.ReportWebs', WHERE WHAT IT READS IS OF BULK AT MOST 1048576: true; the input reads as it did. -/
def reportWebsUptoRow : OpenClaim := { program := "ytknffjhclhgoiaadoor", sum := "f040f17d3092bd20ed8427956eda7d510515a127cdf1009be8a9f855d2c9fc97", func := "tollhouse/tollhouselaw31.ReportWebs", spec := "reportWebs", inPlace := ["internal/abi.NoEscape", "internal/bytealg.MakeNoZero"], named := ["internal/strconv.uint64pow10", "math/bits.deBruijn32tab", "math/bits.deBruijn64tab"], plainKeys := false, apart := false, laid := [("math/bits.deBruijn32tab", laid_math_bits_deBruijn32tab), ("math/bits.deBruijn64tab", laid_math_bits_deBruijn64tab), ("internal/strconv.uint64pow10", laid_internal_strconv_uint64pow10)], narrowed := true }
def ReportWebsUptoSaid : Prop := reportWebsUptoRow.holds Tryd.pinned (OpenSpec.upto reportWebsSpec)

/-- 'tollhouselaw14.BondWaits', WHERE WHAT IT READS IS OF BULK AT MOST 1048576: true; the input reads as it did. -/
def bondWaitsUptoRow : OpenClaim := { program := "ytknffjhclhgoiaadoor", sum := "f040f17d3092bd20ed8427956eda7d510515a127cdf1009be8a9f855d2c9fc97", func := "tollhouse/tollhouselaw14.BondWaits", spec := "bondWaits", inPlace := ["math/bits.Add64"], unfollowed := true, recurses := true, named := ["tollhouse/code.forms"], plainKeys := false, apart := false, laid := [("tollhouse/code.forms", laid_tollhouse_code_forms)], narrowed := true }
def BondWaitsUptoSaid : Prop := bondWaitsUptoRow.holds Tryd.pinned (OpenSpec.upto bondWaitsSpec)

/-- 'tollhouselaw14.BondNews', WHERE WHAT IT READS IS OF BULK AT MOST 1048576: true; the input reads as it did. -/
def bondNewsUptoRow : OpenClaim := { program := "ytknffjhclhgoiaadoor", sum := "f040f17d3092bd20ed8427956eda7d510515a127cdf1009be8a9f855d2c9fc97", func := "tollhouse/tollhouselaw14.BondNews", spec := "bondNews", inPlace := ["math/bits.Add64"], unfollowed := true, recurses := true, named := ["tollhouse/code.forms"], plainKeys := false, apart := false, laid := [("tollhouse/code.forms", laid_tollhouse_code_forms)], narrowed := true }
def BondNewsUptoSaid : Prop := bondNewsUptoRow.holds Tryd.pinned (OpenSpec.upto bondNewsSpec)

end Rows
end Go.Proofs.YtknffjhclhgoiaaDoor
