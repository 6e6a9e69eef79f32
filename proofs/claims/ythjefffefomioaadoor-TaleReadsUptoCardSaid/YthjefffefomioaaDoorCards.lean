/-
  DERIVED. GIVEN WITH THE SEED: THE CARDS: each row of YthjefffefomioaaDoorRows.lean that lists a variable, with what it lists TIED to the program's text (the seventh form; the later family's looks); each row that meets fmt, with fmt's text TOLD by the authors' own Lean function (tested against real Go, not proved from fmt's source: count such statements apart). THE CARD IS WHAT COUNTS. Prove the row's statement (the work); the ties are given (YthjefffefomioaaDoorTie.lean); close each card by the builder's one call (the guide's Derived/Test/ToyasCard.lean, 'card_holds'). Laid BY PROGRAM, IN A SANDBOX (cutbox-door.mjs). By AI agents, Wed Nov 11 2026. No macro, syntax, notation, axiom, sorry.
-/
import Derived.Test.YthjefffefomioaaDoorRows
import GoSem.ClaimSeven
namespace Go.Proofs.YthjefffefomioaaDoor
namespace Rows

/-- THE TIED CARD OF 'drawknifelaw26.TaleLines'. -/
def taleLinesCard : Claim7 := { stood := { row := taleLinesRow, standIns := [], harness := (true, "3685463fa6ae4bbe00865877c57c6fb2273b384c48607d467d6d5b6deec49329"), looks := true }, kinds := [], alts := [], laidByText := true, laidKinds := [.data, .data, .data, .data, .sentinel, .sentinel, .pinned], laidTests := true, laidLooks := .later }
def TaleLinesCardSaid : Prop := Claim7.holds Tryd.pinned (.plain (OpenSpec.ofChange taleLinesSpec)) taleLinesCard

/-- THE TIED CARD OF 'drawknifelaw26.TaleSteps'. -/
def taleStepsCard : Claim7 := { stood := { row := taleStepsRow, standIns := [], harness := (true, "3685463fa6ae4bbe00865877c57c6fb2273b384c48607d467d6d5b6deec49329"), looks := true }, kinds := [], alts := [], laidByText := true, laidKinds := [.data, .data, .data, .data, .sentinel, .sentinel, .pinned], laidTests := true, laidLooks := .later }
def TaleStepsCardSaid : Prop := Claim7.holds Tryd.pinned (.plain (OpenSpec.ofChange taleStepsSpec)) taleStepsCard

/-- THE TIED CARD OF 'drawknifelaw26.TaleReads'. -/
def taleReadsCard : Claim7 := { stood := { row := taleReadsRow, standIns := [], harness := (true, "3685463fa6ae4bbe00865877c57c6fb2273b384c48607d467d6d5b6deec49329"), looks := true }, kinds := [], alts := [], laidByText := true, laidKinds := [.data, .data, .data, .data, .sentinel, .sentinel, .pinned], laidTests := true, laidLooks := .later }
def TaleReadsCardSaid : Prop := Claim7.holds Tryd.pinned (.plain (OpenSpec.ofChange taleReadsSpec)) taleReadsCard

/-- THE TIED CARD OF 'drawknifelaw26.TaleTexts'. -/
def taleTextsCard : Claim7 := { stood := { row := taleTextsRow, standIns := [], harness := (true, "3685463fa6ae4bbe00865877c57c6fb2273b384c48607d467d6d5b6deec49329"), looks := true }, kinds := [], alts := [], laidByText := true, laidKinds := [.data, .data, .data, .data, .sentinel, .sentinel, .pinned], laidTests := true, laidLooks := .later }
def TaleTextsCardSaid : Prop := Claim7.holds Tryd.pinned (.plain (OpenSpec.ofChange taleTextsSpec)) taleTextsCard

/-- THE TIED CARD OF 'drawknifelaw25.AsmLines'. -/
def asmLinesCard : Claim7 := { stood := { row := asmLinesRow, standIns := [], harness := (true, "3685463fa6ae4bbe00865877c57c6fb2273b384c48607d467d6d5b6deec49329"), looks := true }, kinds := [], alts := [], laidByText := true, laidKinds := [.data, .data, .data, .data, .sentinel, .sentinel, .pinned], laidTests := true, laidLooks := .later }
def AsmLinesCardSaid : Prop := Claim7.holds Tryd.pinned (.plain (OpenSpec.ofChange asmLinesSpec)) asmLinesCard

/-- THE TIED CARD OF 'drawknifelaw25.AsmInstrs'. -/
def asmInstrsCard : Claim7 := { stood := { row := asmInstrsRow, standIns := [], harness := (true, "3685463fa6ae4bbe00865877c57c6fb2273b384c48607d467d6d5b6deec49329"), looks := true }, kinds := [], alts := [], laidByText := true, laidKinds := [.data, .data, .data, .data, .sentinel, .sentinel, .pinned], laidTests := true, laidLooks := .later }
def AsmInstrsCardSaid : Prop := Claim7.holds Tryd.pinned (.plain (OpenSpec.ofChange asmInstrsSpec)) asmInstrsCard

/-- THE TIED CARD OF 'drawknifelaw25.AsmParses'. -/
def asmParsesCard : Claim7 := { stood := { row := asmParsesRow, standIns := [], harness := (true, "3685463fa6ae4bbe00865877c57c6fb2273b384c48607d467d6d5b6deec49329"), looks := true }, kinds := [], alts := [], laidByText := true, laidKinds := [.data, .data, .data, .data, .sentinel, .sentinel, .pinned], laidTests := true, laidLooks := .later }
def AsmParsesCardSaid : Prop := Claim7.holds Tryd.pinned (.plain (OpenSpec.ofChange asmParsesSpec)) asmParsesCard

/-- THE TIED CARD OF 'drawknifelaw25.AsmNames'. -/
def asmNamesCard : Claim7 := { stood := { row := asmNamesRow, standIns := [], harness := (true, "3685463fa6ae4bbe00865877c57c6fb2273b384c48607d467d6d5b6deec49329"), looks := true }, kinds := [], alts := [], laidByText := true, laidKinds := [.data, .data, .data, .data, .sentinel, .sentinel, .pinned], laidTests := true, laidLooks := .later }
def AsmNamesCardSaid : Prop := Claim7.holds Tryd.pinned (.plain (OpenSpec.ofChange asmNamesSpec)) asmNamesCard

/-- THE TIED CARD OF 'drawknifelaw25.AsmPrints'. -/
def asmPrintsCard : Claim7 := { stood := { row := asmPrintsRow, standIns := [], harness := (true, "3685463fa6ae4bbe00865877c57c6fb2273b384c48607d467d6d5b6deec49329"), looks := true }, kinds := [], alts := [], laidByText := true, laidKinds := [.data, .data, .data, .data, .sentinel, .sentinel, .pinned], laidTests := true, laidLooks := .later }
def AsmPrintsCardSaid : Prop := Claim7.holds Tryd.pinned (.plain (OpenSpec.ofChange asmPrintsSpec)) asmPrintsCard

/-- THE SECOND FORM's CARD OF 'drawknifelaw26.TaleLines'. -/
def taleLinesUptoCard : Claim7 := { stood := { row := taleLinesUptoRow, standIns := [], harness := (true, "3685463fa6ae4bbe00865877c57c6fb2273b384c48607d467d6d5b6deec49329"), looks := true }, kinds := [], alts := [], laidByText := true, laidKinds := [.data, .data, .data, .data, .sentinel, .sentinel, .pinned], laidTests := true, laidLooks := .later }
def TaleLinesUptoCardSaid : Prop := Claim7.holds Tryd.pinned (.plain (OpenSpec.upto taleLinesSpec)) taleLinesUptoCard

/-- THE SECOND FORM's CARD OF 'drawknifelaw26.TaleSteps'. -/
def taleStepsUptoCard : Claim7 := { stood := { row := taleStepsUptoRow, standIns := [], harness := (true, "3685463fa6ae4bbe00865877c57c6fb2273b384c48607d467d6d5b6deec49329"), looks := true }, kinds := [], alts := [], laidByText := true, laidKinds := [.data, .data, .data, .data, .sentinel, .sentinel, .pinned], laidTests := true, laidLooks := .later }
def TaleStepsUptoCardSaid : Prop := Claim7.holds Tryd.pinned (.plain (OpenSpec.upto taleStepsSpec)) taleStepsUptoCard

/-- THE SECOND FORM's CARD OF 'drawknifelaw26.TaleReads'. -/
def taleReadsUptoCard : Claim7 := { stood := { row := taleReadsUptoRow, standIns := [], harness := (true, "3685463fa6ae4bbe00865877c57c6fb2273b384c48607d467d6d5b6deec49329"), looks := true }, kinds := [], alts := [], laidByText := true, laidKinds := [.data, .data, .data, .data, .sentinel, .sentinel, .pinned], laidTests := true, laidLooks := .later }
def TaleReadsUptoCardSaid : Prop := Claim7.holds Tryd.pinned (.plain (OpenSpec.upto taleReadsSpec)) taleReadsUptoCard

/-- THE SECOND FORM's CARD OF 'drawknifelaw26.TaleTexts'. -/
def taleTextsUptoCard : Claim7 := { stood := { row := taleTextsUptoRow, standIns := [], harness := (true, "3685463fa6ae4bbe00865877c57c6fb2273b384c48607d467d6d5b6deec49329"), looks := true }, kinds := [], alts := [], laidByText := true, laidKinds := [.data, .data, .data, .data, .sentinel, .sentinel, .pinned], laidTests := true, laidLooks := .later }
def TaleTextsUptoCardSaid : Prop := Claim7.holds Tryd.pinned (.plain (OpenSpec.upto taleTextsSpec)) taleTextsUptoCard

/-- THE SECOND FORM's CARD OF 'drawknifelaw25.AsmLines'. -/
def asmLinesUptoCard : Claim7 := { stood := { row := asmLinesUptoRow, standIns := [], harness := (true, "3685463fa6ae4bbe00865877c57c6fb2273b384c48607d467d6d5b6deec49329"), looks := true }, kinds := [], alts := [], laidByText := true, laidKinds := [.data, .data, .data, .data, .sentinel, .sentinel, .pinned], laidTests := true, laidLooks := .later }
def AsmLinesUptoCardSaid : Prop := Claim7.holds Tryd.pinned (.plain (OpenSpec.upto asmLinesSpec)) asmLinesUptoCard

/-- THE SECOND FORM's CARD OF 'drawknifelaw25.AsmInstrs'. -/
def asmInstrsUptoCard : Claim7 := { stood := { row := asmInstrsUptoRow, standIns := [], harness := (true, "3685463fa6ae4bbe00865877c57c6fb2273b384c48607d467d6d5b6deec49329"), looks := true }, kinds := [], alts := [], laidByText := true, laidKinds := [.data, .data, .data, .data, .sentinel, .sentinel, .pinned], laidTests := true, laidLooks := .later }
def AsmInstrsUptoCardSaid : Prop := Claim7.holds Tryd.pinned (.plain (OpenSpec.upto asmInstrsSpec)) asmInstrsUptoCard

/-- THE SECOND FORM's CARD OF 'drawknifelaw25.AsmParses'. -/
def asmParsesUptoCard : Claim7 := { stood := { row := asmParsesUptoRow, standIns := [], harness := (true, "3685463fa6ae4bbe00865877c57c6fb2273b384c48607d467d6d5b6deec49329"), looks := true }, kinds := [], alts := [], laidByText := true, laidKinds := [.data, .data, .data, .data, .sentinel, .sentinel, .pinned], laidTests := true, laidLooks := .later }
def AsmParsesUptoCardSaid : Prop := Claim7.holds Tryd.pinned (.plain (OpenSpec.upto asmParsesSpec)) asmParsesUptoCard

/-- THE SECOND FORM's CARD OF 'drawknifelaw25.AsmNames'. -/
def asmNamesUptoCard : Claim7 := { stood := { row := asmNamesUptoRow, standIns := [], harness := (true, "3685463fa6ae4bbe00865877c57c6fb2273b384c48607d467d6d5b6deec49329"), looks := true }, kinds := [], alts := [], laidByText := true, laidKinds := [.data, .data, .data, .data, .sentinel, .sentinel, .pinned], laidTests := true, laidLooks := .later }
def AsmNamesUptoCardSaid : Prop := Claim7.holds Tryd.pinned (.plain (OpenSpec.upto asmNamesSpec)) asmNamesUptoCard

/-- THE SECOND FORM's CARD OF 'drawknifelaw25.AsmPrints'. -/
def asmPrintsUptoCard : Claim7 := { stood := { row := asmPrintsUptoRow, standIns := [], harness := (true, "3685463fa6ae4bbe00865877c57c6fb2273b384c48607d467d6d5b6deec49329"), looks := true }, kinds := [], alts := [], laidByText := true, laidKinds := [.data, .data, .data, .data, .sentinel, .sentinel, .pinned], laidTests := true, laidLooks := .later }
def AsmPrintsUptoCardSaid : Prop := Claim7.holds Tryd.pinned (.plain (OpenSpec.upto asmPrintsSpec)) asmPrintsUptoCard
end Rows
end Go.Proofs.YthjefffefomioaaDoor
