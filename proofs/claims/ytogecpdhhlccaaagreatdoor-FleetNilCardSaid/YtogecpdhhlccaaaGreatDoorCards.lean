/-
  DERIVED. GIVEN WITH THE SEED: THE CARDS: each row of YtogecpdhhlccaaaGreatDoorRows.lean that lists a variable, with what it lists TIED to the program's text (the seventh form; the later family's looks); each row that meets fmt, with fmt's text TOLD by the authors' own Lean function (tested against real Go, not proved from fmt's source: count such statements apart). THE CARD IS WHAT COUNTS. Prove the row's statement (the work); the ties are given (YtogecpdhhlccaaaGreatDoorTie.lean); close each card by the builder's one call (the guide's Derived/Test/ToyasCard.lean, 'card_holds'). Laid BY PROGRAM, IN A SANDBOX (cutbox-door.mjs). By AI agents, Wed Nov 11 2026. No macro, syntax, notation, axiom, sorry.
-/
import Derived.Test.YtogecpdhhlccaaaGreatDoorRows
import GoSem.ClaimSeven
namespace Go.Proofs.YtogecpdhhlccaaaGreatDoor
namespace Rows

/-- THE TIED CARD OF 'cuneiformlaw30.FleetNil'. -/
def fleetNilCard : Claim7 := { stood := { row := fleetNilRow, standIns := [], harness := (true, "d044cfef44f3f8f49d321524ea18b0d709f44c1d8f50213e634c4af84a39cf1b"), looks := true }, kinds := [], alts := [], laidByText := true, laidKinds := [.data, .data, .data], laidTests := true, laidLooks := .later }
def FleetNilCardSaid : Prop := Claim7.holds Tryz.pinned (.plain (OpenSpec.ofChange fleetNilSpec)) fleetNilCard

/-- THE TIED CARD OF 'cuneiformlaw26.NoiseForged'. -/
def noiseForgedCard : Claim7 := { stood := { row := noiseForgedRow, standIns := [], harness := (true, "d044cfef44f3f8f49d321524ea18b0d709f44c1d8f50213e634c4af84a39cf1b"), looks := true }, kinds := [], alts := [], laidByText := true, laidKinds := [.data, .data, .data, .data, .sentinel, .sentinel, .pinned], laidTests := true, laidLooks := .later }
def NoiseForgedCardSaid : Prop := Claim7.holds Tryz.pinned (.plain (OpenSpec.ofChange noiseForgedSpec)) noiseForgedCard

/-- THE TIED CARD OF 'cuneiformlaw26.NoiseWholes'. -/
def noiseWholesCard : Claim7 := { stood := { row := noiseWholesRow, standIns := [], harness := (true, "d044cfef44f3f8f49d321524ea18b0d709f44c1d8f50213e634c4af84a39cf1b"), looks := true }, kinds := [], alts := [], laidByText := true, laidKinds := [.data, .data, .data, .data, .sentinel, .sentinel, .pinned], laidTests := true, laidLooks := .later }
def NoiseWholesCardSaid : Prop := Claim7.holds Tryz.pinned (.plain (OpenSpec.ofChange noiseWholesSpec)) noiseWholesCard

/-- THE TIED CARD OF 'cuneiformlaw20.SayLines'. -/
def sayLinesCard : Claim7 := { stood := { row := sayLinesRow, standIns := [], harness := (true, "d044cfef44f3f8f49d321524ea18b0d709f44c1d8f50213e634c4af84a39cf1b"), looks := true }, kinds := [], alts := [], laidByText := true, laidKinds := [.data, .data, .data, .data, .sentinel, .sentinel, .pinned], laidTests := true, laidLooks := .later }
def SayLinesCardSaid : Prop := Claim7.holds Tryz.pinned (.plain (OpenSpec.ofChange sayLinesSpec)) sayLinesCard

/-- THE TIED CARD OF 'cuneiformlaw20.SayParses'. -/
def sayParsesCard : Claim7 := { stood := { row := sayParsesRow, standIns := [], harness := (true, "d044cfef44f3f8f49d321524ea18b0d709f44c1d8f50213e634c4af84a39cf1b"), looks := true }, kinds := [], alts := [], laidByText := true, laidKinds := [.data, .data, .data, .data, .sentinel, .sentinel, .pinned], laidTests := true, laidLooks := .later }
def SayParsesCardSaid : Prop := Claim7.holds Tryz.pinned (.plain (OpenSpec.ofChange sayParsesSpec)) sayParsesCard

/-- THE TIED CARD OF 'cuneiformlaw27.ScriptParses'. -/
def scriptParsesCard : Claim7 := { stood := { row := scriptParsesRow, standIns := [], harness := (true, "d044cfef44f3f8f49d321524ea18b0d709f44c1d8f50213e634c4af84a39cf1b"), looks := true }, kinds := [], alts := [], laidByText := true, laidKinds := [.data, .data, .data, .data, .sentinel, .sentinel, .pinned], laidTests := true, laidLooks := .later }
def ScriptParsesCardSaid : Prop := Claim7.holds Tryz.pinned (.plain (OpenSpec.ofChange scriptParsesSpec)) scriptParsesCard

/-- THE TIED CARD OF 'cuneiformlaw27.ScriptSteps'. -/
def scriptStepsCard : Claim7 := { stood := { row := scriptStepsRow, standIns := [], harness := (true, "d044cfef44f3f8f49d321524ea18b0d709f44c1d8f50213e634c4af84a39cf1b"), looks := true }, kinds := [], alts := [], laidByText := true, laidKinds := [.data, .data, .data, .data, .sentinel, .sentinel, .pinned], laidTests := true, laidLooks := .later }
def ScriptStepsCardSaid : Prop := Claim7.holds Tryz.pinned (.plain (OpenSpec.ofChange scriptStepsSpec)) scriptStepsCard

/-- THE TIED CARD OF 'cuneiformlaw27.ScriptReads'. -/
def scriptReadsCard : Claim7 := { stood := { row := scriptReadsRow, standIns := [], harness := (true, "d044cfef44f3f8f49d321524ea18b0d709f44c1d8f50213e634c4af84a39cf1b"), looks := true }, kinds := [], alts := [], laidByText := true, laidKinds := [.data, .data, .data, .data, .sentinel, .sentinel, .pinned], laidTests := true, laidLooks := .later }
def ScriptReadsCardSaid : Prop := Claim7.holds Tryz.pinned (.plain (OpenSpec.ofChange scriptReadsSpec)) scriptReadsCard

/-- THE TIED CARD OF 'cuneiformlaw27.ScriptPrints'. -/
def scriptPrintsCard : Claim7 := { stood := { row := scriptPrintsRow, standIns := [], harness := (true, "d044cfef44f3f8f49d321524ea18b0d709f44c1d8f50213e634c4af84a39cf1b"), looks := true }, kinds := [], alts := [], laidByText := true, laidKinds := [.data, .data, .data, .data, .sentinel, .sentinel, .pinned], laidTests := true, laidLooks := .later }
def ScriptPrintsCardSaid : Prop := Claim7.holds Tryz.pinned (.plain (OpenSpec.ofChange scriptPrintsSpec)) scriptPrintsCard

/-- THE TIED CARD OF 'cuneiformlaw34.LogReplays'. -/
def logReplaysCard : Claim7 := { stood := { row := logReplaysRow, standIns := [], harness := (true, "d044cfef44f3f8f49d321524ea18b0d709f44c1d8f50213e634c4af84a39cf1b"), looks := true }, kinds := [], alts := [], laidByText := true, laidKinds := [.data, .data, .data], laidTests := true, laidLooks := .later }
def LogReplaysCardSaid : Prop := Claim7.holds Tryz.pinned (.plain (OpenSpec.ofChange logReplaysSpec)) logReplaysCard

/-- THE SECOND FORM's CARD OF 'cuneiformlaw30.FleetNil'. -/
def fleetNilUptoCard : Claim7 := { stood := { row := fleetNilUptoRow, standIns := [], harness := (true, "d044cfef44f3f8f49d321524ea18b0d709f44c1d8f50213e634c4af84a39cf1b"), looks := true }, kinds := [], alts := [], laidByText := true, laidKinds := [.data, .data, .data], laidTests := true, laidLooks := .later }
def FleetNilUptoCardSaid : Prop := Claim7.holds Tryz.pinned (.plain (OpenSpec.upto fleetNilSpec)) fleetNilUptoCard

/-- THE SECOND FORM's CARD OF 'cuneiformlaw26.NoiseForged'. -/
def noiseForgedUptoCard : Claim7 := { stood := { row := noiseForgedUptoRow, standIns := [], harness := (true, "d044cfef44f3f8f49d321524ea18b0d709f44c1d8f50213e634c4af84a39cf1b"), looks := true }, kinds := [], alts := [], laidByText := true, laidKinds := [.data, .data, .data, .data, .sentinel, .sentinel, .pinned], laidTests := true, laidLooks := .later }
def NoiseForgedUptoCardSaid : Prop := Claim7.holds Tryz.pinned (.plain (OpenSpec.upto noiseForgedSpec)) noiseForgedUptoCard

/-- THE SECOND FORM's CARD OF 'cuneiformlaw26.NoiseWholes'. -/
def noiseWholesUptoCard : Claim7 := { stood := { row := noiseWholesUptoRow, standIns := [], harness := (true, "d044cfef44f3f8f49d321524ea18b0d709f44c1d8f50213e634c4af84a39cf1b"), looks := true }, kinds := [], alts := [], laidByText := true, laidKinds := [.data, .data, .data, .data, .sentinel, .sentinel, .pinned], laidTests := true, laidLooks := .later }
def NoiseWholesUptoCardSaid : Prop := Claim7.holds Tryz.pinned (.plain (OpenSpec.upto noiseWholesSpec)) noiseWholesUptoCard

/-- THE SECOND FORM's CARD OF 'cuneiformlaw20.SayLines'. -/
def sayLinesUptoCard : Claim7 := { stood := { row := sayLinesUptoRow, standIns := [], harness := (true, "d044cfef44f3f8f49d321524ea18b0d709f44c1d8f50213e634c4af84a39cf1b"), looks := true }, kinds := [], alts := [], laidByText := true, laidKinds := [.data, .data, .data, .data, .sentinel, .sentinel, .pinned], laidTests := true, laidLooks := .later }
def SayLinesUptoCardSaid : Prop := Claim7.holds Tryz.pinned (.plain (OpenSpec.upto sayLinesSpec)) sayLinesUptoCard

/-- THE SECOND FORM's CARD OF 'cuneiformlaw20.SayParses'. -/
def sayParsesUptoCard : Claim7 := { stood := { row := sayParsesUptoRow, standIns := [], harness := (true, "d044cfef44f3f8f49d321524ea18b0d709f44c1d8f50213e634c4af84a39cf1b"), looks := true }, kinds := [], alts := [], laidByText := true, laidKinds := [.data, .data, .data, .data, .sentinel, .sentinel, .pinned], laidTests := true, laidLooks := .later }
def SayParsesUptoCardSaid : Prop := Claim7.holds Tryz.pinned (.plain (OpenSpec.upto sayParsesSpec)) sayParsesUptoCard

/-- THE SECOND FORM's CARD OF 'cuneiformlaw27.ScriptParses'. -/
def scriptParsesUptoCard : Claim7 := { stood := { row := scriptParsesUptoRow, standIns := [], harness := (true, "d044cfef44f3f8f49d321524ea18b0d709f44c1d8f50213e634c4af84a39cf1b"), looks := true }, kinds := [], alts := [], laidByText := true, laidKinds := [.data, .data, .data, .data, .sentinel, .sentinel, .pinned], laidTests := true, laidLooks := .later }
def ScriptParsesUptoCardSaid : Prop := Claim7.holds Tryz.pinned (.plain (OpenSpec.upto scriptParsesSpec)) scriptParsesUptoCard

/-- THE SECOND FORM's CARD OF 'cuneiformlaw27.ScriptSteps'. -/
def scriptStepsUptoCard : Claim7 := { stood := { row := scriptStepsUptoRow, standIns := [], harness := (true, "d044cfef44f3f8f49d321524ea18b0d709f44c1d8f50213e634c4af84a39cf1b"), looks := true }, kinds := [], alts := [], laidByText := true, laidKinds := [.data, .data, .data, .data, .sentinel, .sentinel, .pinned], laidTests := true, laidLooks := .later }
def ScriptStepsUptoCardSaid : Prop := Claim7.holds Tryz.pinned (.plain (OpenSpec.upto scriptStepsSpec)) scriptStepsUptoCard

/-- THE SECOND FORM's CARD OF 'cuneiformlaw27.ScriptReads'. -/
def scriptReadsUptoCard : Claim7 := { stood := { row := scriptReadsUptoRow, standIns := [], harness := (true, "d044cfef44f3f8f49d321524ea18b0d709f44c1d8f50213e634c4af84a39cf1b"), looks := true }, kinds := [], alts := [], laidByText := true, laidKinds := [.data, .data, .data, .data, .sentinel, .sentinel, .pinned], laidTests := true, laidLooks := .later }
def ScriptReadsUptoCardSaid : Prop := Claim7.holds Tryz.pinned (.plain (OpenSpec.upto scriptReadsSpec)) scriptReadsUptoCard

/-- THE SECOND FORM's CARD OF 'cuneiformlaw27.ScriptPrints'. -/
def scriptPrintsUptoCard : Claim7 := { stood := { row := scriptPrintsUptoRow, standIns := [], harness := (true, "d044cfef44f3f8f49d321524ea18b0d709f44c1d8f50213e634c4af84a39cf1b"), looks := true }, kinds := [], alts := [], laidByText := true, laidKinds := [.data, .data, .data, .data, .sentinel, .sentinel, .pinned], laidTests := true, laidLooks := .later }
def ScriptPrintsUptoCardSaid : Prop := Claim7.holds Tryz.pinned (.plain (OpenSpec.upto scriptPrintsSpec)) scriptPrintsUptoCard

/-- THE SECOND FORM's CARD OF 'cuneiformlaw34.LogReplays'. -/
def logReplaysUptoCard : Claim7 := { stood := { row := logReplaysUptoRow, standIns := [], harness := (true, "d044cfef44f3f8f49d321524ea18b0d709f44c1d8f50213e634c4af84a39cf1b"), looks := true }, kinds := [], alts := [], laidByText := true, laidKinds := [.data, .data, .data], laidTests := true, laidLooks := .later }
def LogReplaysUptoCardSaid : Prop := Claim7.holds Tryz.pinned (.plain (OpenSpec.upto logReplaysSpec)) logReplaysUptoCard
end Rows
end Go.Proofs.YtogecpdhhlccaaaGreatDoor
