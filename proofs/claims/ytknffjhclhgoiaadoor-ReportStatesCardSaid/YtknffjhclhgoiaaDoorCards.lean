/-
  DERIVED. GIVEN WITH THE SEED: THE CARDS: each row of YtknffjhclhgoiaaDoorRows.lean that lists a variable, with what it lists TIED to the program's text (the seventh form; the later family's looks); each row that meets fmt, with fmt's text TOLD by the authors' own Lean function (tested against real Go, not proved from fmt's source: count such statements apart). THE CARD IS WHAT COUNTS. Prove the row's statement (the work); the ties are given (YtknffjhclhgoiaaDoorTie.lean); close each card by the builder's one call (the guide's Derived/Test/ToyasCard.lean, 'card_holds'). Laid BY PROGRAM, IN A SANDBOX (cutbox-door.mjs). By AI agents, Wed Nov 11 2026. No macro, syntax, notation, axiom, sorry.
-/
import Derived.Test.YtknffjhclhgoiaaDoorRows
import GoSem.ClaimSeven
namespace Go.Proofs.YtknffjhclhgoiaaDoor
namespace Rows

/-- THE TIED CARD OF 'tollhouselaw31.ReportStates'. -/
def reportStatesCard : Claim7 := { stood := { row := reportStatesRow, standIns := [], harness := (true, "6a3440543c94bcebb478cb4dd73e4f640665b5fa63cb771de9ff55d1bada00ec"), looks := false }, kinds := [], alts := [], laidByText := true, laidKinds := [.data, .data, .data, .widerDeep], laidTests := true, laidLooks := .later }
def ReportStatesCardSaid : Prop := Claim7.holds Tryd.pinned (.plain (OpenSpec.ofChange reportStatesSpec)) reportStatesCard

/-- THE TIED CARD OF 'tollhouselaw31.ReportWebs'. -/
def reportWebsCard : Claim7 := { stood := { row := reportWebsRow, standIns := [], harness := (true, "6a3440543c94bcebb478cb4dd73e4f640665b5fa63cb771de9ff55d1bada00ec"), looks := false }, kinds := [], alts := [], laidByText := true, laidKinds := [.data, .data, .data], laidTests := true, laidLooks := .later }
def ReportWebsCardSaid : Prop := Claim7.holds Tryd.pinned (.plain (OpenSpec.ofChange reportWebsSpec)) reportWebsCard

/-- THE TIED CARD OF 'tollhouselaw14.BondWaits'. -/
def bondWaitsCard : Claim7 := { stood := { row := bondWaitsRow, standIns := [], harness := (true, "6a3440543c94bcebb478cb4dd73e4f640665b5fa63cb771de9ff55d1bada00ec"), looks := false }, kinds := [], alts := [], laidByText := true, laidKinds := [.data], laidTests := true, laidLooks := .later }
def BondWaitsCardSaid : Prop := Claim7.holds Tryd.pinned (.plain (OpenSpec.ofChange bondWaitsSpec)) bondWaitsCard

/-- THE TIED CARD OF 'tollhouselaw14.BondNews'. -/
def bondNewsCard : Claim7 := { stood := { row := bondNewsRow, standIns := [], harness := (true, "6a3440543c94bcebb478cb4dd73e4f640665b5fa63cb771de9ff55d1bada00ec"), looks := false }, kinds := [], alts := [], laidByText := true, laidKinds := [.data], laidTests := true, laidLooks := .later }
def BondNewsCardSaid : Prop := Claim7.holds Tryd.pinned (.plain (OpenSpec.ofChange bondNewsSpec)) bondNewsCard

/-- THE SECOND FORM's CARD OF 'tollhouselaw31.ReportStates'. -/
def reportStatesUptoCard : Claim7 := { stood := { row := reportStatesUptoRow, standIns := [], harness := (true, "6a3440543c94bcebb478cb4dd73e4f640665b5fa63cb771de9ff55d1bada00ec"), looks := false }, kinds := [], alts := [], laidByText := true, laidKinds := [.data, .data, .data, .widerDeep], laidTests := true, laidLooks := .later }
def ReportStatesUptoCardSaid : Prop := Claim7.holds Tryd.pinned (.plain (OpenSpec.upto reportStatesSpec)) reportStatesUptoCard

/-- THE SECOND FORM's CARD OF 'tollhouselaw31.ReportWebs'. -/
def reportWebsUptoCard : Claim7 := { stood := { row := reportWebsUptoRow, standIns := [], harness := (true, "6a3440543c94bcebb478cb4dd73e4f640665b5fa63cb771de9ff55d1bada00ec"), looks := false }, kinds := [], alts := [], laidByText := true, laidKinds := [.data, .data, .data], laidTests := true, laidLooks := .later }
def ReportWebsUptoCardSaid : Prop := Claim7.holds Tryd.pinned (.plain (OpenSpec.upto reportWebsSpec)) reportWebsUptoCard

/-- THE SECOND FORM's CARD OF 'tollhouselaw14.BondWaits'. -/
def bondWaitsUptoCard : Claim7 := { stood := { row := bondWaitsUptoRow, standIns := [], harness := (true, "6a3440543c94bcebb478cb4dd73e4f640665b5fa63cb771de9ff55d1bada00ec"), looks := false }, kinds := [], alts := [], laidByText := true, laidKinds := [.data], laidTests := true, laidLooks := .later }
def BondWaitsUptoCardSaid : Prop := Claim7.holds Tryd.pinned (.plain (OpenSpec.upto bondWaitsSpec)) bondWaitsUptoCard

/-- THE SECOND FORM's CARD OF 'tollhouselaw14.BondNews'. -/
def bondNewsUptoCard : Claim7 := { stood := { row := bondNewsUptoRow, standIns := [], harness := (true, "6a3440543c94bcebb478cb4dd73e4f640665b5fa63cb771de9ff55d1bada00ec"), looks := false }, kinds := [], alts := [], laidByText := true, laidKinds := [.data], laidTests := true, laidLooks := .later }
def BondNewsUptoCardSaid : Prop := Claim7.holds Tryd.pinned (.plain (OpenSpec.upto bondNewsSpec)) bondNewsUptoCard
end Rows
end Go.Proofs.YtknffjhclhgoiaaDoor
