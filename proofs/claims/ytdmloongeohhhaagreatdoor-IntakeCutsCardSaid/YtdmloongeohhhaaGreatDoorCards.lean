/-
  DERIVED. GIVEN WITH THE SEED: THE CARDS: each row of YtdmloongeohhhaaGreatDoorRows.lean that lists a variable, with what it lists TIED to the program's text (the seventh form; the later family's looks); each row that meets fmt, with fmt's text TOLD by the authors' own Lean function (tested against real Go, not proved from fmt's source: count such statements apart). THE CARD IS WHAT COUNTS. Prove the row's statement (the work); the ties are given (YtdmloongeohhhaaGreatDoorTie.lean); close each card by the builder's one call (the guide's Derived/Test/ToyasCard.lean, 'card_holds'). Laid BY PROGRAM, IN A SANDBOX (cutbox-door.mjs). By AI agents, Wed Nov 11 2026. No macro, syntax, notation, axiom, sorry.
-/
import Derived.Test.YtdmloongeohhhaaGreatDoorRows
import GoSem.ClaimSeven
namespace Go.Proofs.YtdmloongeohhhaaGreatDoor
namespace Rows

/-- THE TIED CARD OF 'triptychlaw19.ManifestTexts'. -/
def manifestTextsCard : Claim7 := { stood := { row := manifestTextsRow, standIns := [], harness := (true, "ecf90b97ce50d6465117ffd1cf933b2a59bcf6957026e203cbdbf6fcb382f777"), looks := true }, kinds := [], alts := [], laidByText := true, laidKinds := [.data, .data, .data, .data, .sentinel, .sentinel, .pinned], laidTests := true, laidLooks := .later }
def ManifestTextsCardSaid : Prop := Claim7.holds Tryz.pinned (.plain (OpenSpec.ofChange manifestTextsSpec)) manifestTextsCard

/-- THE TIED CARD OF 'triptychlaw19.ManifestSigns'. -/
def manifestSignsCard : Claim7 := { stood := { row := manifestSignsRow, standIns := [], harness := (true, "ecf90b97ce50d6465117ffd1cf933b2a59bcf6957026e203cbdbf6fcb382f777"), looks := true }, kinds := [], alts := [], laidByText := true, laidKinds := [.data, .data, .data, .data, .sentinel, .sentinel, .pinned], laidTests := true, laidLooks := .later }
def ManifestSignsCardSaid : Prop := Claim7.holds Tryz.pinned (.plain (OpenSpec.ofChange manifestSignsSpec)) manifestSignsCard

/-- THE TIED CARD OF 'triptychlaw20.IntakeCuts'. -/
def intakeCutsCard : Claim7 := { stood := { row := intakeCutsRow, standIns := [], harness := (true, "ecf90b97ce50d6465117ffd1cf933b2a59bcf6957026e203cbdbf6fcb382f777"), looks := true }, kinds := [], alts := [], laidByText := true, laidKinds := [.data, .data, .data, .data, .sentinel, .sentinel, .pinned], laidTests := true, laidLooks := .later }
def IntakeCutsCardSaid : Prop := Claim7.holds Tryz.pinned (.plain (OpenSpec.ofChange intakeCutsSpec)) intakeCutsCard

/-- THE TIED CARD OF 'triptychlaw20.IntakeTakes'. -/
def intakeTakesCard : Claim7 := { stood := { row := intakeTakesRow, standIns := [], harness := (true, "ecf90b97ce50d6465117ffd1cf933b2a59bcf6957026e203cbdbf6fcb382f777"), looks := true }, kinds := [], alts := [], laidByText := true, laidKinds := [.data, .data, .data, .data, .sentinel, .sentinel, .pinned], laidTests := true, laidLooks := .later }
def IntakeTakesCardSaid : Prop := Claim7.holds Tryz.pinned (.plain (OpenSpec.ofChange intakeTakesSpec)) intakeTakesCard

/-- THE TIED CARD OF 'triptychlaw20.IntakeFeeds'. -/
def intakeFeedsCard : Claim7 := { stood := { row := intakeFeedsRow, standIns := [], harness := (true, "ecf90b97ce50d6465117ffd1cf933b2a59bcf6957026e203cbdbf6fcb382f777"), looks := true }, kinds := [], alts := [], laidByText := true, laidKinds := [.data, .data, .data, .data, .sentinel, .sentinel, .pinned], laidTests := true, laidLooks := .later }
def IntakeFeedsCardSaid : Prop := Claim7.holds Tryz.pinned (.plain (OpenSpec.ofChange intakeFeedsSpec)) intakeFeedsCard

/-- THE TIED CARD OF 'triptychlaw20.IntakeNone'. -/
def intakeNoneCard : Claim7 := { stood := { row := intakeNoneRow, standIns := [], harness := (true, "ecf90b97ce50d6465117ffd1cf933b2a59bcf6957026e203cbdbf6fcb382f777"), looks := true }, kinds := [], alts := [], laidByText := true, laidKinds := [.data, .data, .data, .data, .sentinel, .sentinel, .pinned], laidTests := true, laidLooks := .later }
def IntakeNoneCardSaid : Prop := Claim7.holds Tryz.pinned (.plain (OpenSpec.ofChange intakeNoneSpec)) intakeNoneCard

/-- THE TIED CARD OF 'triptychlaw17.MetaTexts'. -/
def metaTextsCard : Claim7 := { stood := { row := metaTextsRow, standIns := [], harness := (true, "ecf90b97ce50d6465117ffd1cf933b2a59bcf6957026e203cbdbf6fcb382f777"), looks := true }, kinds := [], alts := [], laidByText := true, laidKinds := [.data, .data, .data, .data, .sentinel, .sentinel, .listed, .data, .pinned], laidTests := true, laidLooks := .later }
def MetaTextsCardSaid : Prop := Claim7.holds Tryz.pinned (.plain (OpenSpec.ofChange metaTextsSpec)) metaTextsCard

/-- THE TIED CARD OF 'triptychlaw17.MetaParses'. -/
def metaParsesCard : Claim7 := { stood := { row := metaParsesRow, standIns := [], harness := (true, "ecf90b97ce50d6465117ffd1cf933b2a59bcf6957026e203cbdbf6fcb382f777"), looks := true }, kinds := [], alts := [], laidByText := true, laidKinds := [.data, .data, .data, .data, .sentinel, .sentinel, .listed, .data, .pinned], laidTests := true, laidLooks := .later }
def MetaParsesCardSaid : Prop := Claim7.holds Tryz.pinned (.plain (OpenSpec.ofChange metaParsesSpec)) metaParsesCard

/-- THE SECOND FORM's CARD OF 'triptychlaw19.ManifestTexts'. -/
def manifestTextsUptoCard : Claim7 := { stood := { row := manifestTextsUptoRow, standIns := [], harness := (true, "ecf90b97ce50d6465117ffd1cf933b2a59bcf6957026e203cbdbf6fcb382f777"), looks := true }, kinds := [], alts := [], laidByText := true, laidKinds := [.data, .data, .data, .data, .sentinel, .sentinel, .pinned], laidTests := true, laidLooks := .later }
def ManifestTextsUptoCardSaid : Prop := Claim7.holds Tryz.pinned (.plain (OpenSpec.upto manifestTextsSpec)) manifestTextsUptoCard

/-- THE SECOND FORM's CARD OF 'triptychlaw19.ManifestSigns'. -/
def manifestSignsUptoCard : Claim7 := { stood := { row := manifestSignsUptoRow, standIns := [], harness := (true, "ecf90b97ce50d6465117ffd1cf933b2a59bcf6957026e203cbdbf6fcb382f777"), looks := true }, kinds := [], alts := [], laidByText := true, laidKinds := [.data, .data, .data, .data, .sentinel, .sentinel, .pinned], laidTests := true, laidLooks := .later }
def ManifestSignsUptoCardSaid : Prop := Claim7.holds Tryz.pinned (.plain (OpenSpec.upto manifestSignsSpec)) manifestSignsUptoCard

/-- THE SECOND FORM's CARD OF 'triptychlaw20.IntakeCuts'. -/
def intakeCutsUptoCard : Claim7 := { stood := { row := intakeCutsUptoRow, standIns := [], harness := (true, "ecf90b97ce50d6465117ffd1cf933b2a59bcf6957026e203cbdbf6fcb382f777"), looks := true }, kinds := [], alts := [], laidByText := true, laidKinds := [.data, .data, .data, .data, .sentinel, .sentinel, .pinned], laidTests := true, laidLooks := .later }
def IntakeCutsUptoCardSaid : Prop := Claim7.holds Tryz.pinned (.plain (OpenSpec.upto intakeCutsSpec)) intakeCutsUptoCard

/-- THE SECOND FORM's CARD OF 'triptychlaw20.IntakeTakes'. -/
def intakeTakesUptoCard : Claim7 := { stood := { row := intakeTakesUptoRow, standIns := [], harness := (true, "ecf90b97ce50d6465117ffd1cf933b2a59bcf6957026e203cbdbf6fcb382f777"), looks := true }, kinds := [], alts := [], laidByText := true, laidKinds := [.data, .data, .data, .data, .sentinel, .sentinel, .pinned], laidTests := true, laidLooks := .later }
def IntakeTakesUptoCardSaid : Prop := Claim7.holds Tryz.pinned (.plain (OpenSpec.upto intakeTakesSpec)) intakeTakesUptoCard

/-- THE SECOND FORM's CARD OF 'triptychlaw20.IntakeFeeds'. -/
def intakeFeedsUptoCard : Claim7 := { stood := { row := intakeFeedsUptoRow, standIns := [], harness := (true, "ecf90b97ce50d6465117ffd1cf933b2a59bcf6957026e203cbdbf6fcb382f777"), looks := true }, kinds := [], alts := [], laidByText := true, laidKinds := [.data, .data, .data, .data, .sentinel, .sentinel, .pinned], laidTests := true, laidLooks := .later }
def IntakeFeedsUptoCardSaid : Prop := Claim7.holds Tryz.pinned (.plain (OpenSpec.upto intakeFeedsSpec)) intakeFeedsUptoCard

/-- THE SECOND FORM's CARD OF 'triptychlaw20.IntakeNone'. -/
def intakeNoneUptoCard : Claim7 := { stood := { row := intakeNoneUptoRow, standIns := [], harness := (true, "ecf90b97ce50d6465117ffd1cf933b2a59bcf6957026e203cbdbf6fcb382f777"), looks := true }, kinds := [], alts := [], laidByText := true, laidKinds := [.data, .data, .data, .data, .sentinel, .sentinel, .pinned], laidTests := true, laidLooks := .later }
def IntakeNoneUptoCardSaid : Prop := Claim7.holds Tryz.pinned (.plain (OpenSpec.upto intakeNoneSpec)) intakeNoneUptoCard

/-- THE SECOND FORM's CARD OF 'triptychlaw17.MetaTexts'. -/
def metaTextsUptoCard : Claim7 := { stood := { row := metaTextsUptoRow, standIns := [], harness := (true, "ecf90b97ce50d6465117ffd1cf933b2a59bcf6957026e203cbdbf6fcb382f777"), looks := true }, kinds := [], alts := [], laidByText := true, laidKinds := [.data, .data, .data, .data, .sentinel, .sentinel, .listed, .data, .pinned], laidTests := true, laidLooks := .later }
def MetaTextsUptoCardSaid : Prop := Claim7.holds Tryz.pinned (.plain (OpenSpec.upto metaTextsSpec)) metaTextsUptoCard

/-- THE SECOND FORM's CARD OF 'triptychlaw17.MetaParses'. -/
def metaParsesUptoCard : Claim7 := { stood := { row := metaParsesUptoRow, standIns := [], harness := (true, "ecf90b97ce50d6465117ffd1cf933b2a59bcf6957026e203cbdbf6fcb382f777"), looks := true }, kinds := [], alts := [], laidByText := true, laidKinds := [.data, .data, .data, .data, .sentinel, .sentinel, .listed, .data, .pinned], laidTests := true, laidLooks := .later }
def MetaParsesUptoCardSaid : Prop := Claim7.holds Tryz.pinned (.plain (OpenSpec.upto metaParsesSpec)) metaParsesUptoCard
end Rows
end Go.Proofs.YtdmloongeohhhaaGreatDoor
