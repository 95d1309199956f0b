/-
  DERIVED. GIVEN WITH THE SEED: THE CARDS: each row of YtlkgkjpnphdhdaaDoorRows.lean that lists a variable, with what it lists TIED to the program's text (the seventh form; the later family's looks); each row that meets fmt, with fmt's text TOLD by the authors' own Lean function (tested against real Go, not proved from fmt's source: count such statements apart). THE CARD IS WHAT COUNTS. Prove the row's statement (the work); the ties are given (YtlkgkjpnphdhdaaDoorTie.lean); close each card by the builder's one call (the guide's Derived/Test/ToyasCard.lean, 'card_holds'). Laid BY PROGRAM, IN A SANDBOX (cutbox-door.mjs). By AI agents, Wed Nov 11 2026. No macro, syntax, notation, axiom, sorry.
-/
import Derived.Test.YtlkgkjpnphdhdaaDoorRows
import GoSem.ClaimSeven
namespace Go.Proofs.YtlkgkjpnphdhdaaDoor
namespace Rows

/-- THE TIED CARD OF 'foresightlaw01.SignalMatchesReference'. -/
def signalMatchesReferenceCard : Claim7 := { stood := { row := signalMatchesReferenceRow, standIns := [], harness := (true, "96c0fb2bd73ca3f625a6cec154c3e55ef67bacbc815b1c79fdc9845cd86332ad"), looks := false }, kinds := [], alts := [], laidByText := true, laidKinds := [.listed, .data], laidTests := true, laidLooks := .later }
def SignalMatchesReferenceCardSaid : Prop := Claim7.holds Tryd.pinned (.plain (OpenSpec.ofChange signalMatchesReferenceSpec)) signalMatchesReferenceCard

/-- THE TIED CARD OF 'foresightlaw01.SignalPairs'. -/
def signalPairsCard : Claim7 := { stood := { row := signalPairsRow, standIns := [], harness := (true, "96c0fb2bd73ca3f625a6cec154c3e55ef67bacbc815b1c79fdc9845cd86332ad"), looks := false }, kinds := [], alts := [], laidByText := true, laidKinds := [.listed, .data], laidTests := true, laidLooks := .later }
def SignalPairsCardSaid : Prop := Claim7.holds Tryd.pinned (.plain (OpenSpec.ofChange signalPairsSpec)) signalPairsCard

/-- THE TIED CARD OF 'foresightlaw01.SignalValues'. -/
def signalValuesCard : Claim7 := { stood := { row := signalValuesRow, standIns := [], harness := (true, "96c0fb2bd73ca3f625a6cec154c3e55ef67bacbc815b1c79fdc9845cd86332ad"), looks := false }, kinds := [], alts := [], laidByText := true, laidKinds := [.listed, .data], laidTests := true, laidLooks := .later }
def SignalValuesCardSaid : Prop := Claim7.holds Tryd.pinned (.plain (OpenSpec.ofChange signalValuesSpec)) signalValuesCard

/-- THE TIED CARD OF 'foresightlaw01.SignalHalves'. -/
def signalHalvesCard : Claim7 := { stood := { row := signalHalvesRow, standIns := [], harness := (true, "96c0fb2bd73ca3f625a6cec154c3e55ef67bacbc815b1c79fdc9845cd86332ad"), looks := false }, kinds := [], alts := [], laidByText := true, laidKinds := [.listed, .data], laidTests := true, laidLooks := .later }
def SignalHalvesCardSaid : Prop := Claim7.holds Tryd.pinned (.plain (OpenSpec.ofChange signalHalvesSpec)) signalHalvesCard

/-- THE TIED CARD OF 'foresightlaw01.SignalOrder'. -/
def signalOrderCard : Claim7 := { stood := { row := signalOrderRow, standIns := [], harness := (true, "96c0fb2bd73ca3f625a6cec154c3e55ef67bacbc815b1c79fdc9845cd86332ad"), looks := false }, kinds := [], alts := [], laidByText := true, laidKinds := [.listed, .data], laidTests := true, laidLooks := .later }
def SignalOrderCardSaid : Prop := Claim7.holds Tryd.pinned (.plain (OpenSpec.ofChange signalOrderSpec)) signalOrderCard

/-- THE TIED CARD OF 'foresightlaw01.SignalParts'. -/
def signalPartsCard : Claim7 := { stood := { row := signalPartsRow, standIns := [], harness := (true, "96c0fb2bd73ca3f625a6cec154c3e55ef67bacbc815b1c79fdc9845cd86332ad"), looks := false }, kinds := [], alts := [], laidByText := true, laidKinds := [.listed, .data], laidTests := true, laidLooks := .later }
def SignalPartsCardSaid : Prop := Claim7.holds Tryd.pinned (.plain (OpenSpec.ofChange signalPartsSpec)) signalPartsCard

/-- THE SECOND FORM's CARD OF 'foresightlaw01.SignalMatchesReference'. -/
def signalMatchesReferenceUptoCard : Claim7 := { stood := { row := signalMatchesReferenceUptoRow, standIns := [], harness := (true, "96c0fb2bd73ca3f625a6cec154c3e55ef67bacbc815b1c79fdc9845cd86332ad"), looks := false }, kinds := [], alts := [], laidByText := true, laidKinds := [.listed, .data], laidTests := true, laidLooks := .later }
def SignalMatchesReferenceUptoCardSaid : Prop := Claim7.holds Tryd.pinned (.plain (OpenSpec.upto signalMatchesReferenceSpec)) signalMatchesReferenceUptoCard

/-- THE SECOND FORM's CARD OF 'foresightlaw01.SignalPairs'. -/
def signalPairsUptoCard : Claim7 := { stood := { row := signalPairsUptoRow, standIns := [], harness := (true, "96c0fb2bd73ca3f625a6cec154c3e55ef67bacbc815b1c79fdc9845cd86332ad"), looks := false }, kinds := [], alts := [], laidByText := true, laidKinds := [.listed, .data], laidTests := true, laidLooks := .later }
def SignalPairsUptoCardSaid : Prop := Claim7.holds Tryd.pinned (.plain (OpenSpec.upto signalPairsSpec)) signalPairsUptoCard

/-- THE SECOND FORM's CARD OF 'foresightlaw01.SignalValues'. -/
def signalValuesUptoCard : Claim7 := { stood := { row := signalValuesUptoRow, standIns := [], harness := (true, "96c0fb2bd73ca3f625a6cec154c3e55ef67bacbc815b1c79fdc9845cd86332ad"), looks := false }, kinds := [], alts := [], laidByText := true, laidKinds := [.listed, .data], laidTests := true, laidLooks := .later }
def SignalValuesUptoCardSaid : Prop := Claim7.holds Tryd.pinned (.plain (OpenSpec.upto signalValuesSpec)) signalValuesUptoCard

/-- THE SECOND FORM's CARD OF 'foresightlaw01.SignalHalves'. -/
def signalHalvesUptoCard : Claim7 := { stood := { row := signalHalvesUptoRow, standIns := [], harness := (true, "96c0fb2bd73ca3f625a6cec154c3e55ef67bacbc815b1c79fdc9845cd86332ad"), looks := false }, kinds := [], alts := [], laidByText := true, laidKinds := [.listed, .data], laidTests := true, laidLooks := .later }
def SignalHalvesUptoCardSaid : Prop := Claim7.holds Tryd.pinned (.plain (OpenSpec.upto signalHalvesSpec)) signalHalvesUptoCard

/-- THE SECOND FORM's CARD OF 'foresightlaw01.SignalOrder'. -/
def signalOrderUptoCard : Claim7 := { stood := { row := signalOrderUptoRow, standIns := [], harness := (true, "96c0fb2bd73ca3f625a6cec154c3e55ef67bacbc815b1c79fdc9845cd86332ad"), looks := false }, kinds := [], alts := [], laidByText := true, laidKinds := [.listed, .data], laidTests := true, laidLooks := .later }
def SignalOrderUptoCardSaid : Prop := Claim7.holds Tryd.pinned (.plain (OpenSpec.upto signalOrderSpec)) signalOrderUptoCard

/-- THE SECOND FORM's CARD OF 'foresightlaw01.SignalParts'. -/
def signalPartsUptoCard : Claim7 := { stood := { row := signalPartsUptoRow, standIns := [], harness := (true, "96c0fb2bd73ca3f625a6cec154c3e55ef67bacbc815b1c79fdc9845cd86332ad"), looks := false }, kinds := [], alts := [], laidByText := true, laidKinds := [.listed, .data], laidTests := true, laidLooks := .later }
def SignalPartsUptoCardSaid : Prop := Claim7.holds Tryd.pinned (.plain (OpenSpec.upto signalPartsSpec)) signalPartsUptoCard
end Rows
end Go.Proofs.YtlkgkjpnphdhdaaDoor
