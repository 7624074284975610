/-
  DERIVED. GIVEN WITH THE SEED: THE CARDS: each row of YtofoihlcjmghfaaGreatDoorRows.lean that lists a variable, with what it lists TIED to the program's text (the seventh form; the later family's looks); each row that meets fmt, with fmt's text TOLD by the authors' own Lean function (tested against real Go, not proved from fmt's source: count such statements apart). THE CARD IS WHAT COUNTS. Prove the row's statement (the work); the ties are given (YtofoihlcjmghfaaGreatDoorTie.lean); close each card by the builder's one call (the guide's Derived/Test/ToyasCard.lean, 'card_holds'). Laid BY PROGRAM, IN A SANDBOX (cutbox-door.mjs). By AI agents, Wed Nov 11 2026. No macro, syntax, notation, axiom, sorry.
-/
import Derived.Test.YtofoihlcjmghfaaGreatDoorRows
import GoSem.ClaimSeven
namespace Go.Proofs.YtofoihlcjmghfaaGreatDoor
namespace Rows

/-- THE TIED CARD OF 'triptychlaw20.IntakeFeeds'. -/
def intakeFeedsCard : Claim7 := { stood := { row := intakeFeedsRow, standIns := [], harness := (true, "9fcbfe28071da216b5f864b0dd2665bb1205db71eb85e5b5bb60cfcec2c0fa16"), looks := true }, kinds := [], alts := [], laidByText := true, laidKinds := [.data, .data, .data, .data, .sentinel, .sentinel, .pinned], laidTests := true, laidLooks := .later }
def IntakeFeedsCardSaid : Prop := Claim7.holds Tryz.pinned (.plain (OpenSpec.ofChange intakeFeedsSpec)) intakeFeedsCard

/-- THE TIED CARD OF 'triptychlaw17.MetaTexts'. -/
def metaTextsCard : Claim7 := { stood := { row := metaTextsRow, standIns := [], harness := (true, "9fcbfe28071da216b5f864b0dd2665bb1205db71eb85e5b5bb60cfcec2c0fa16"), looks := true }, kinds := [], alts := [], laidByText := true, laidKinds := [.data, .data, .data, .data, .sentinel, .sentinel, .listed, .data, .pinned], laidTests := true, laidLooks := .later }
def MetaTextsCardSaid : Prop := Claim7.holds Tryz.pinned (.plain (OpenSpec.ofChange metaTextsSpec)) metaTextsCard

/-- THE TIED CARD OF 'triptychlaw17.MetaParses'. -/
def metaParsesCard : Claim7 := { stood := { row := metaParsesRow, standIns := [], harness := (true, "9fcbfe28071da216b5f864b0dd2665bb1205db71eb85e5b5bb60cfcec2c0fa16"), looks := true }, kinds := [], alts := [], laidByText := true, laidKinds := [.data, .data, .data, .data, .sentinel, .sentinel, .listed, .data, .pinned], laidTests := true, laidLooks := .later }
def MetaParsesCardSaid : Prop := Claim7.holds Tryz.pinned (.plain (OpenSpec.ofChange metaParsesSpec)) metaParsesCard

/-- THE SECOND FORM's CARD OF 'triptychlaw20.IntakeFeeds'. -/
def intakeFeedsUptoCard : Claim7 := { stood := { row := intakeFeedsUptoRow, standIns := [], harness := (true, "9fcbfe28071da216b5f864b0dd2665bb1205db71eb85e5b5bb60cfcec2c0fa16"), looks := true }, kinds := [], alts := [], laidByText := true, laidKinds := [.data, .data, .data, .data, .sentinel, .sentinel, .pinned], laidTests := true, laidLooks := .later }
def IntakeFeedsUptoCardSaid : Prop := Claim7.holds Tryz.pinned (.plain (OpenSpec.upto intakeFeedsSpec)) intakeFeedsUptoCard

/-- THE SECOND FORM's CARD OF 'triptychlaw17.MetaTexts'. -/
def metaTextsUptoCard : Claim7 := { stood := { row := metaTextsUptoRow, standIns := [], harness := (true, "9fcbfe28071da216b5f864b0dd2665bb1205db71eb85e5b5bb60cfcec2c0fa16"), looks := true }, kinds := [], alts := [], laidByText := true, laidKinds := [.data, .data, .data, .data, .sentinel, .sentinel, .listed, .data, .pinned], laidTests := true, laidLooks := .later }
def MetaTextsUptoCardSaid : Prop := Claim7.holds Tryz.pinned (.plain (OpenSpec.upto metaTextsSpec)) metaTextsUptoCard

/-- THE SECOND FORM's CARD OF 'triptychlaw17.MetaParses'. -/
def metaParsesUptoCard : Claim7 := { stood := { row := metaParsesUptoRow, standIns := [], harness := (true, "9fcbfe28071da216b5f864b0dd2665bb1205db71eb85e5b5bb60cfcec2c0fa16"), looks := true }, kinds := [], alts := [], laidByText := true, laidKinds := [.data, .data, .data, .data, .sentinel, .sentinel, .listed, .data, .pinned], laidTests := true, laidLooks := .later }
def MetaParsesUptoCardSaid : Prop := Claim7.holds Tryz.pinned (.plain (OpenSpec.upto metaParsesSpec)) metaParsesUptoCard
end Rows
end Go.Proofs.YtofoihlcjmghfaaGreatDoor
