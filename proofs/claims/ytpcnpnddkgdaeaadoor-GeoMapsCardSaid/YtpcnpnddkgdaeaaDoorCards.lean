/-
  DERIVED. GIVEN WITH THE SEED: THE CARDS: each row of YtpcnpnddkgdaeaaDoorRows.lean that lists a variable, with what it lists TIED to the program's text (the seventh form; the later family's looks); each row that meets fmt, with fmt's text TOLD by the authors' own Lean function (tested against real Go, not proved from fmt's source: count such statements apart). THE CARD IS WHAT COUNTS. Prove the row's statement (the work); the ties are given (YtpcnpnddkgdaeaaDoorTie.lean); close each card by the builder's one call (the guide's Derived/Test/ToyasCard.lean, 'card_holds'). Laid BY PROGRAM, IN A SANDBOX (cutbox-door.mjs). By AI agents, Wed Nov 11 2026. No macro, syntax, notation, axiom, sorry.
-/
import Derived.Test.YtpcnpnddkgdaeaaDoorRows
import GoSem.ClaimSeven
namespace Go.Proofs.YtpcnpnddkgdaeaaDoor
namespace Rows

/-- THE TIED CARD OF 'triptychlaw09.GeoMaps'. -/
def geoMapsCard : Claim7 := { stood := { row := geoMapsRow, standIns := [], harness := (true, "fb6e46ef7f17899ba9b7b1c68b668e5ea130a0dd44e76a4698304c5862248b71"), looks := true }, kinds := [], alts := [], laidByText := true, laidKinds := [.data, .data, .data, .listed, .data], laidTests := true, laidLooks := .later }
def GeoMapsCardSaid : Prop := Claim7.holds Tryd.pinned (.plain (OpenSpec.ofChange geoMapsSpec)) geoMapsCard

/-- THE TIED CARD OF 'triptychlaw18.VerWords'. -/
def verWordsCard : Claim7 := { stood := { row := verWordsRow, standIns := [], harness := (true, "fb6e46ef7f17899ba9b7b1c68b668e5ea130a0dd44e76a4698304c5862248b71"), looks := true }, kinds := [], alts := [], laidByText := true, laidKinds := [.data, .data, .data, .data, .sentinel, .sentinel, .pinned], laidTests := true, laidLooks := .later }
def VerWordsCardSaid : Prop := Claim7.holds Tryd.pinned (.plain (OpenSpec.ofChange verWordsSpec)) verWordsCard

/-- THE TIED CARD OF 'triptychlaw18.VerOrder'. -/
def verOrderCard : Claim7 := { stood := { row := verOrderRow, standIns := [], harness := (true, "fb6e46ef7f17899ba9b7b1c68b668e5ea130a0dd44e76a4698304c5862248b71"), looks := true }, kinds := [], alts := [], laidByText := true, laidKinds := [.data, .data, .data, .data, .sentinel, .sentinel, .pinned], laidTests := true, laidLooks := .later }
def VerOrderCardSaid : Prop := Claim7.holds Tryd.pinned (.plain (OpenSpec.ofChange verOrderSpec)) verOrderCard

/-- THE TIED CARD OF 'triptychlaw28.LinesPrint'. -/
def linesPrintCard : Claim7 := { stood := { row := linesPrintRow, standIns := [], harness := (true, "fb6e46ef7f17899ba9b7b1c68b668e5ea130a0dd44e76a4698304c5862248b71"), looks := true }, kinds := [], alts := [], laidByText := true, laidKinds := [.data, .data, .data, .data, .sentinel, .sentinel, .pinned], laidTests := true, laidLooks := .later }
def LinesPrintCardSaid : Prop := Claim7.holds Tryd.pinned (.plain (OpenSpec.ofChange linesPrintSpec)) linesPrintCard

/-- THE TIED CARD OF 'triptychlaw28.LinesParse'. -/
def linesParseCard : Claim7 := { stood := { row := linesParseRow, standIns := [], harness := (true, "fb6e46ef7f17899ba9b7b1c68b668e5ea130a0dd44e76a4698304c5862248b71"), looks := true }, kinds := [], alts := [], laidByText := true, laidKinds := [.data, .data, .data, .data, .sentinel, .sentinel, .pinned], laidTests := true, laidLooks := .later }
def LinesParseCardSaid : Prop := Claim7.holds Tryd.pinned (.plain (OpenSpec.ofChange linesParseSpec)) linesParseCard

/-- THE TIED CARD OF 'triptychlaw28.LinesRead'. -/
def linesReadCard : Claim7 := { stood := { row := linesReadRow, standIns := [], harness := (true, "fb6e46ef7f17899ba9b7b1c68b668e5ea130a0dd44e76a4698304c5862248b71"), looks := true }, kinds := [], alts := [], laidByText := true, laidKinds := [.data, .data, .data, .data, .sentinel, .sentinel, .pinned], laidTests := true, laidLooks := .later }
def LinesReadCardSaid : Prop := Claim7.holds Tryd.pinned (.plain (OpenSpec.ofChange linesReadSpec)) linesReadCard

/-- THE TIED CARD OF 'triptychlaw28.LinesTell'. -/
def linesTellCard : Claim7 := { stood := { row := linesTellRow, standIns := [], harness := (true, "fb6e46ef7f17899ba9b7b1c68b668e5ea130a0dd44e76a4698304c5862248b71"), looks := true }, kinds := [], alts := [], laidByText := true, laidKinds := [.data, .data, .data, .data, .sentinel, .sentinel, .pinned], laidTests := true, laidLooks := .later }
def LinesTellCardSaid : Prop := Claim7.holds Tryd.pinned (.plain (OpenSpec.ofChange linesTellSpec)) linesTellCard

/-- THE TIED CARD OF 'triptychlaw19.ManifestSplits'. -/
def manifestSplitsCard : Claim7 := { stood := { row := manifestSplitsRow, standIns := [], harness := (true, "fb6e46ef7f17899ba9b7b1c68b668e5ea130a0dd44e76a4698304c5862248b71"), looks := true }, kinds := [], alts := [], laidByText := true, laidKinds := [.data, .data, .data, .data, .sentinel, .sentinel, .pinned], laidTests := true, laidLooks := .later }
def ManifestSplitsCardSaid : Prop := Claim7.holds Tryd.pinned (.plain (OpenSpec.ofChange manifestSplitsSpec)) manifestSplitsCard

/-- THE TIED CARD OF 'triptychlaw19.ManifestUnlike'. -/
def manifestUnlikeCard : Claim7 := { stood := { row := manifestUnlikeRow, standIns := [], harness := (true, "fb6e46ef7f17899ba9b7b1c68b668e5ea130a0dd44e76a4698304c5862248b71"), looks := true }, kinds := [], alts := [], laidByText := true, laidKinds := [.data, .data, .data, .data, .sentinel, .sentinel, .pinned], laidTests := true, laidLooks := .later }
def ManifestUnlikeCardSaid : Prop := Claim7.holds Tryd.pinned (.plain (OpenSpec.ofChange manifestUnlikeSpec)) manifestUnlikeCard

/-- THE SECOND FORM's CARD OF 'triptychlaw09.GeoMaps'. -/
def geoMapsUptoCard : Claim7 := { stood := { row := geoMapsUptoRow, standIns := [], harness := (true, "fb6e46ef7f17899ba9b7b1c68b668e5ea130a0dd44e76a4698304c5862248b71"), looks := true }, kinds := [], alts := [], laidByText := true, laidKinds := [.data, .data, .data, .listed, .data], laidTests := true, laidLooks := .later }
def GeoMapsUptoCardSaid : Prop := Claim7.holds Tryd.pinned (.plain (OpenSpec.upto geoMapsSpec)) geoMapsUptoCard

/-- THE SECOND FORM's CARD OF 'triptychlaw18.VerWords'. -/
def verWordsUptoCard : Claim7 := { stood := { row := verWordsUptoRow, standIns := [], harness := (true, "fb6e46ef7f17899ba9b7b1c68b668e5ea130a0dd44e76a4698304c5862248b71"), looks := true }, kinds := [], alts := [], laidByText := true, laidKinds := [.data, .data, .data, .data, .sentinel, .sentinel, .pinned], laidTests := true, laidLooks := .later }
def VerWordsUptoCardSaid : Prop := Claim7.holds Tryd.pinned (.plain (OpenSpec.upto verWordsSpec)) verWordsUptoCard

/-- THE SECOND FORM's CARD OF 'triptychlaw18.VerOrder'. -/
def verOrderUptoCard : Claim7 := { stood := { row := verOrderUptoRow, standIns := [], harness := (true, "fb6e46ef7f17899ba9b7b1c68b668e5ea130a0dd44e76a4698304c5862248b71"), looks := true }, kinds := [], alts := [], laidByText := true, laidKinds := [.data, .data, .data, .data, .sentinel, .sentinel, .pinned], laidTests := true, laidLooks := .later }
def VerOrderUptoCardSaid : Prop := Claim7.holds Tryd.pinned (.plain (OpenSpec.upto verOrderSpec)) verOrderUptoCard

/-- THE SECOND FORM's CARD OF 'triptychlaw28.LinesPrint'. -/
def linesPrintUptoCard : Claim7 := { stood := { row := linesPrintUptoRow, standIns := [], harness := (true, "fb6e46ef7f17899ba9b7b1c68b668e5ea130a0dd44e76a4698304c5862248b71"), looks := true }, kinds := [], alts := [], laidByText := true, laidKinds := [.data, .data, .data, .data, .sentinel, .sentinel, .pinned], laidTests := true, laidLooks := .later }
def LinesPrintUptoCardSaid : Prop := Claim7.holds Tryd.pinned (.plain (OpenSpec.upto linesPrintSpec)) linesPrintUptoCard

/-- THE SECOND FORM's CARD OF 'triptychlaw28.LinesParse'. -/
def linesParseUptoCard : Claim7 := { stood := { row := linesParseUptoRow, standIns := [], harness := (true, "fb6e46ef7f17899ba9b7b1c68b668e5ea130a0dd44e76a4698304c5862248b71"), looks := true }, kinds := [], alts := [], laidByText := true, laidKinds := [.data, .data, .data, .data, .sentinel, .sentinel, .pinned], laidTests := true, laidLooks := .later }
def LinesParseUptoCardSaid : Prop := Claim7.holds Tryd.pinned (.plain (OpenSpec.upto linesParseSpec)) linesParseUptoCard

/-- THE SECOND FORM's CARD OF 'triptychlaw28.LinesRead'. -/
def linesReadUptoCard : Claim7 := { stood := { row := linesReadUptoRow, standIns := [], harness := (true, "fb6e46ef7f17899ba9b7b1c68b668e5ea130a0dd44e76a4698304c5862248b71"), looks := true }, kinds := [], alts := [], laidByText := true, laidKinds := [.data, .data, .data, .data, .sentinel, .sentinel, .pinned], laidTests := true, laidLooks := .later }
def LinesReadUptoCardSaid : Prop := Claim7.holds Tryd.pinned (.plain (OpenSpec.upto linesReadSpec)) linesReadUptoCard

/-- THE SECOND FORM's CARD OF 'triptychlaw28.LinesTell'. -/
def linesTellUptoCard : Claim7 := { stood := { row := linesTellUptoRow, standIns := [], harness := (true, "fb6e46ef7f17899ba9b7b1c68b668e5ea130a0dd44e76a4698304c5862248b71"), looks := true }, kinds := [], alts := [], laidByText := true, laidKinds := [.data, .data, .data, .data, .sentinel, .sentinel, .pinned], laidTests := true, laidLooks := .later }
def LinesTellUptoCardSaid : Prop := Claim7.holds Tryd.pinned (.plain (OpenSpec.upto linesTellSpec)) linesTellUptoCard

/-- THE SECOND FORM's CARD OF 'triptychlaw19.ManifestSplits'. -/
def manifestSplitsUptoCard : Claim7 := { stood := { row := manifestSplitsUptoRow, standIns := [], harness := (true, "fb6e46ef7f17899ba9b7b1c68b668e5ea130a0dd44e76a4698304c5862248b71"), looks := true }, kinds := [], alts := [], laidByText := true, laidKinds := [.data, .data, .data, .data, .sentinel, .sentinel, .pinned], laidTests := true, laidLooks := .later }
def ManifestSplitsUptoCardSaid : Prop := Claim7.holds Tryd.pinned (.plain (OpenSpec.upto manifestSplitsSpec)) manifestSplitsUptoCard

/-- THE SECOND FORM's CARD OF 'triptychlaw19.ManifestUnlike'. -/
def manifestUnlikeUptoCard : Claim7 := { stood := { row := manifestUnlikeUptoRow, standIns := [], harness := (true, "fb6e46ef7f17899ba9b7b1c68b668e5ea130a0dd44e76a4698304c5862248b71"), looks := true }, kinds := [], alts := [], laidByText := true, laidKinds := [.data, .data, .data, .data, .sentinel, .sentinel, .pinned], laidTests := true, laidLooks := .later }
def ManifestUnlikeUptoCardSaid : Prop := Claim7.holds Tryd.pinned (.plain (OpenSpec.upto manifestUnlikeSpec)) manifestUnlikeUptoCard
end Rows
end Go.Proofs.YtpcnpnddkgdaeaaDoor
