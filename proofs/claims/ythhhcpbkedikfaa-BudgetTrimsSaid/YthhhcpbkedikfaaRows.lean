/-
  No cell of these rows narrows 'for every input' (looked for: loops, veiled, ifaces, maps, wideKeys, modest, calm, conditions, laid).
  DERIVED. THE GIVEN ROWS OF THIS SEAT. 20 by the template 'for every input the law returns true; each argument reads behind the call as it read before'; 0 by the template 'total and deterministic' (their statements: YthhhcpbkedikfaaTotals.lean).
  GIVEN WITH THE SEED: the statements are not yours to turn. If you find one false, say at which input.
  Laid BY PROGRAM, IN A SANDBOX (cutbox-rows.mjs): the forced cells as the released guide's own fill.sh prints them over the translation 2304b41139aab80b… (all of the seat's roots in one cut). By AI agents, Wed Nov 11 2026. No macro, syntax, notation, axiom, sorry.
-/
import Derived.Test.YthhhcpbkedikfaaChecked
import GoSem.Claim
import GoSem.ClaimJoined
import GoSem.ClaimMapViews
import Derived.JoinedTies
import Derived.KernelRfl
namespace Go.Proofs.Ythhhcpbkedikfaa
/- THE CELL 'sum', in the pinned program and in every row, IS THE sha256 OF THE DUMP (.gsa) THAT YthhhcpbkedikfaaProg.lean LOADS. Nothing in Lean hashes anything: it is a label: what it is worth is what the hold of that sum in a sandbox is worth. -/
noncomputable def Try.pinned : Pinned := { name := "ythhhcpbkedikfaa", sum := "2304b41139aab80b2cfb32d1f8aac5ebddc33061b9092c8b8a5f475f90f49856", checked := Try.checked }
namespace Rows
def none {H : Type} : Left H := { results := [], args := [] }

/-- 'triptychlaw01.NumOrder': WHATEVER THE INPUT: true; the input reads as it did. -/
def numOrderSpec : ChangeSpec := { name := "numOrder", fn := fun _ => fun
  | [d1, d2, d3] => { results := [.lit (.bool true)], args := [d1, d2, d3] }
  | _ => none }
def numOrderRow : OpenClaim := { program := "ythhhcpbkedikfaa", sum := "2304b41139aab80b2cfb32d1f8aac5ebddc33061b9092c8b8a5f475f90f49856", func := "triptych/triptychlaw01.NumOrder", spec := "numOrder", plainKeys := false, apart := false }
def NumOrderSaid : Prop := numOrderRow.holds Try.pinned (OpenSpec.ofChange numOrderSpec)

/-- ITS FALSE NEIGHBOUR: 'it returns false'. Refute it at one input. -/
def numOrderWrong : ChangeSpec := { name := "numOrder", fn := fun _ => fun
  | [d1, d2, d3] => { results := [.lit (.bool false)], args := [d1, d2, d3] }
  | _ => none }
def NumOrderWrongFalsely : Prop := numOrderRow.holds Try.pinned (OpenSpec.ofChange numOrderWrong)

/-- 'triptychlaw09.GeoSpread': WHATEVER THE INPUT: true; the input reads as it did. -/
def geoSpreadSpec : ChangeSpec := { name := "geoSpread", fn := fun _ => fun
  | [d1, d2] => { results := [.lit (.bool true)], args := [d1, d2] }
  | _ => none }
def geoSpreadRow : OpenClaim := { program := "ythhhcpbkedikfaa", sum := "2304b41139aab80b2cfb32d1f8aac5ebddc33061b9092c8b8a5f475f90f49856", func := "triptych/triptychlaw09.GeoSpread", spec := "geoSpread", plainKeys := false, apart := false }
def GeoSpreadSaid : Prop := geoSpreadRow.holds Try.pinned (OpenSpec.ofChange geoSpreadSpec)

/-- ITS FALSE NEIGHBOUR: 'it returns false'. Refute it at one input. -/
def geoSpreadWrong : ChangeSpec := { name := "geoSpread", fn := fun _ => fun
  | [d1, d2] => { results := [.lit (.bool false)], args := [d1, d2] }
  | _ => none }
def GeoSpreadWrongFalsely : Prop := geoSpreadRow.holds Try.pinned (OpenSpec.ofChange geoSpreadWrong)

/-- 'triptychlaw01.NumPuts': WHATEVER THE INPUT: true; the input reads as it did. -/
def numPutsSpec : ChangeSpec := { name := "numPuts", fn := fun _ => fun
  | [d1, d2, d3] => { results := [.lit (.bool true)], args := [d1, d2, d3] }
  | _ => none }
def numPutsRow : OpenClaim := { program := "ythhhcpbkedikfaa", sum := "2304b41139aab80b2cfb32d1f8aac5ebddc33061b9092c8b8a5f475f90f49856", func := "triptych/triptychlaw01.NumPuts", spec := "numPuts", unfollowed := true, recurses := true, plainKeys := false, apart := false }
def NumPutsSaid : Prop := numPutsRow.holds Try.pinned (OpenSpec.ofChange numPutsSpec)

/-- ITS FALSE NEIGHBOUR: 'it returns false'. Refute it at one input. -/
def numPutsWrong : ChangeSpec := { name := "numPuts", fn := fun _ => fun
  | [d1, d2, d3] => { results := [.lit (.bool false)], args := [d1, d2, d3] }
  | _ => none }
def NumPutsWrongFalsely : Prop := numPutsRow.holds Try.pinned (OpenSpec.ofChange numPutsWrong)

/-- 'triptychlaw01.NumTakes': WHATEVER THE INPUT: true; the input reads as it did. -/
def numTakesSpec : ChangeSpec := { name := "numTakes", fn := fun _ => fun
  | [d1, d2] => { results := [.lit (.bool true)], args := [d1, d2] }
  | _ => none }
def numTakesRow : OpenClaim := { program := "ythhhcpbkedikfaa", sum := "2304b41139aab80b2cfb32d1f8aac5ebddc33061b9092c8b8a5f475f90f49856", func := "triptych/triptychlaw01.NumTakes", spec := "numTakes", unfollowed := true, recurses := true, plainKeys := false, apart := false }
def NumTakesSaid : Prop := numTakesRow.holds Try.pinned (OpenSpec.ofChange numTakesSpec)

/-- ITS FALSE NEIGHBOUR: 'it returns false'. Refute it at one input. -/
def numTakesWrong : ChangeSpec := { name := "numTakes", fn := fun _ => fun
  | [d1, d2] => { results := [.lit (.bool false)], args := [d1, d2] }
  | _ => none }
def NumTakesWrongFalsely : Prop := numTakesRow.holds Try.pinned (OpenSpec.ofChange numTakesWrong)

/-- 'triptychlaw09.GeoApart': WHATEVER THE INPUT: true; the input reads as it did. -/
def geoApartSpec : ChangeSpec := { name := "geoApart", fn := fun _ => fun
  | [d1, d2, d3] => { results := [.lit (.bool true)], args := [d1, d2, d3] }
  | _ => none }
def geoApartRow : OpenClaim := { program := "ythhhcpbkedikfaa", sum := "2304b41139aab80b2cfb32d1f8aac5ebddc33061b9092c8b8a5f475f90f49856", func := "triptych/triptychlaw09.GeoApart", spec := "geoApart", plainKeys := false, apart := false }
def GeoApartSaid : Prop := geoApartRow.holds Try.pinned (OpenSpec.ofChange geoApartSpec)

/-- ITS FALSE NEIGHBOUR: 'it returns false'. Refute it at one input. -/
def geoApartWrong : ChangeSpec := { name := "geoApart", fn := fun _ => fun
  | [d1, d2, d3] => { results := [.lit (.bool false)], args := [d1, d2, d3] }
  | _ => none }
def GeoApartWrongFalsely : Prop := geoApartRow.holds Try.pinned (OpenSpec.ofChange geoApartWrong)

/-- 'triptychlaw09.GeoPlaces': WHATEVER THE INPUT: true; the input reads as it did. -/
def geoPlacesSpec : ChangeSpec := { name := "geoPlaces", fn := fun _ => fun
  | [d1, d2, d3] => { results := [.lit (.bool true)], args := [d1, d2, d3] }
  | _ => none }
def geoPlacesRow : OpenClaim := { program := "ythhhcpbkedikfaa", sum := "2304b41139aab80b2cfb32d1f8aac5ebddc33061b9092c8b8a5f475f90f49856", func := "triptych/triptychlaw09.GeoPlaces", spec := "geoPlaces", plainKeys := false, apart := false }
def GeoPlacesSaid : Prop := geoPlacesRow.holds Try.pinned (OpenSpec.ofChange geoPlacesSpec)

/-- ITS FALSE NEIGHBOUR: 'it returns false'. Refute it at one input. -/
def geoPlacesWrong : ChangeSpec := { name := "geoPlaces", fn := fun _ => fun
  | [d1, d2, d3] => { results := [.lit (.bool false)], args := [d1, d2, d3] }
  | _ => none }
def GeoPlacesWrongFalsely : Prop := geoPlacesRow.holds Try.pinned (OpenSpec.ofChange geoPlacesWrong)

/-- 'triptychlaw27.BudgetTrims': WHATEVER THE INPUT: true; the input reads as it did. -/
def budgetTrimsSpec : ChangeSpec := { name := "budgetTrims", fn := fun _ => fun
  | [d1, d2] => { results := [.lit (.bool true)], args := [d1, d2] }
  | _ => none }
def budgetTrimsRow : OpenClaim := { program := "ythhhcpbkedikfaa", sum := "2304b41139aab80b2cfb32d1f8aac5ebddc33061b9092c8b8a5f475f90f49856", func := "triptych/triptychlaw27.BudgetTrims", spec := "budgetTrims", inPlace := ["maps.clone"], plainKeys := false, apart := false }
def BudgetTrimsSaid : Prop := budgetTrimsRow.holds Try.pinned (OpenSpec.ofChange budgetTrimsSpec)

/-- ITS FALSE NEIGHBOUR: 'it returns false'. Refute it at one input. -/
def budgetTrimsWrong : ChangeSpec := { name := "budgetTrims", fn := fun _ => fun
  | [d1, d2] => { results := [.lit (.bool false)], args := [d1, d2] }
  | _ => none }
def BudgetTrimsWrongFalsely : Prop := budgetTrimsRow.holds Try.pinned (OpenSpec.ofChange budgetTrimsWrong)

/-- 'triptychlaw27.BudgetSplits': WHATEVER THE INPUT: true; the input reads as it did. -/
def budgetSplitsSpec : ChangeSpec := { name := "budgetSplits", fn := fun _ => fun
  | [d1, d2, d3] => { results := [.lit (.bool true)], args := [d1, d2, d3] }
  | _ => none }
def budgetSplitsRow : OpenClaim := { program := "ythhhcpbkedikfaa", sum := "2304b41139aab80b2cfb32d1f8aac5ebddc33061b9092c8b8a5f475f90f49856", func := "triptych/triptychlaw27.BudgetSplits", spec := "budgetSplits", inPlace := ["maps.clone"], plainKeys := false, apart := false }
def BudgetSplitsSaid : Prop := budgetSplitsRow.holds Try.pinned (OpenSpec.ofChange budgetSplitsSpec)

/-- ITS FALSE NEIGHBOUR: 'it returns false'. Refute it at one input. -/
def budgetSplitsWrong : ChangeSpec := { name := "budgetSplits", fn := fun _ => fun
  | [d1, d2, d3] => { results := [.lit (.bool false)], args := [d1, d2, d3] }
  | _ => none }
def BudgetSplitsWrongFalsely : Prop := budgetSplitsRow.holds Try.pinned (OpenSpec.ofChange budgetSplitsWrong)

/-- 'triptychlaw27.BudgetHits': WHATEVER THE INPUT: true; the input reads as it did. -/
def budgetHitsSpec : ChangeSpec := { name := "budgetHits", fn := fun _ => fun
  | [d1, d2] => { results := [.lit (.bool true)], args := [d1, d2] }
  | _ => none }
def budgetHitsRow : OpenClaim := { program := "ythhhcpbkedikfaa", sum := "2304b41139aab80b2cfb32d1f8aac5ebddc33061b9092c8b8a5f475f90f49856", func := "triptych/triptychlaw27.BudgetHits", spec := "budgetHits", inPlace := ["maps.clone"], plainKeys := false, apart := false }
def BudgetHitsSaid : Prop := budgetHitsRow.holds Try.pinned (OpenSpec.ofChange budgetHitsSpec)

/-- ITS FALSE NEIGHBOUR: 'it returns false'. Refute it at one input. -/
def budgetHitsWrong : ChangeSpec := { name := "budgetHits", fn := fun _ => fun
  | [d1, d2] => { results := [.lit (.bool false)], args := [d1, d2] }
  | _ => none }
def BudgetHitsWrongFalsely : Prop := budgetHitsRow.holds Try.pinned (OpenSpec.ofChange budgetHitsWrong)

/-- 'triptychlaw27.BudgetSteps': WHATEVER THE INPUT: true; the input reads as it did. -/
def budgetStepsSpec : ChangeSpec := { name := "budgetSteps", fn := fun _ => fun
  | [d1, d2] => { results := [.lit (.bool true)], args := [d1, d2] }
  | _ => none }
def budgetStepsRow : OpenClaim := { program := "ythhhcpbkedikfaa", sum := "2304b41139aab80b2cfb32d1f8aac5ebddc33061b9092c8b8a5f475f90f49856", func := "triptych/triptychlaw27.BudgetSteps", spec := "budgetSteps", inPlace := ["maps.clone"], plainKeys := false, apart := false }
def BudgetStepsSaid : Prop := budgetStepsRow.holds Try.pinned (OpenSpec.ofChange budgetStepsSpec)

/-- ITS FALSE NEIGHBOUR: 'it returns false'. Refute it at one input. -/
def budgetStepsWrong : ChangeSpec := { name := "budgetSteps", fn := fun _ => fun
  | [d1, d2] => { results := [.lit (.bool false)], args := [d1, d2] }
  | _ => none }
def BudgetStepsWrongFalsely : Prop := budgetStepsRow.holds Try.pinned (OpenSpec.ofChange budgetStepsWrong)

/-- 'triptychlaw03.ShaApart': WHATEVER THE INPUT: true; the input reads as it did. -/
def shaApartSpec : ChangeSpec := { name := "shaApart", fn := fun _ => fun
  | [d1, d2] => { results := [.lit (.bool true)], args := [d1, d2] }
  | _ => none }
def shaApartRow : OpenClaim := { program := "ythhhcpbkedikfaa", sum := "2304b41139aab80b2cfb32d1f8aac5ebddc33061b9092c8b8a5f475f90f49856", func := "triptych/triptychlaw03.ShaApart", spec := "shaApart", inPlace := ["internal/abi.NoEscape"], recurses := true, plainKeys := false, apart := false }
def ShaApartSaid : Prop := shaApartRow.holds Try.pinned (OpenSpec.ofChange shaApartSpec)

/-- ITS FALSE NEIGHBOUR: 'it returns false'. Refute it at one input. -/
def shaApartWrong : ChangeSpec := { name := "shaApart", fn := fun _ => fun
  | [d1, d2] => { results := [.lit (.bool false)], args := [d1, d2] }
  | _ => none }
def ShaApartWrongFalsely : Prop := shaApartRow.holds Try.pinned (OpenSpec.ofChange shaApartWrong)

/-- 'triptychlaw12.HeadMatches': WHATEVER THE INPUT: true; the input reads as it did. -/
def headMatchesSpec : ChangeSpec := { name := "headMatches", fn := fun _ => fun
  | [d1, d2, d3] => { results := [.lit (.bool true)], args := [d1, d2, d3] }
  | _ => none }
def headMatchesRow : OpenClaim := { program := "ythhhcpbkedikfaa", sum := "2304b41139aab80b2cfb32d1f8aac5ebddc33061b9092c8b8a5f475f90f49856", func := "triptych/triptychlaw12.HeadMatches", spec := "headMatches", recurses := true, plainKeys := false, apart := false }
def HeadMatchesSaid : Prop := headMatchesRow.holds Try.pinned (OpenSpec.ofChange headMatchesSpec)

/-- ITS FALSE NEIGHBOUR: 'it returns false'. Refute it at one input. -/
def headMatchesWrong : ChangeSpec := { name := "headMatches", fn := fun _ => fun
  | [d1, d2, d3] => { results := [.lit (.bool false)], args := [d1, d2, d3] }
  | _ => none }
def HeadMatchesWrongFalsely : Prop := headMatchesRow.holds Try.pinned (OpenSpec.ofChange headMatchesWrong)

/-- 'triptychlaw03.ShaSums': WHATEVER THE INPUT: true; the input reads as it did. -/
def shaSumsSpec : ChangeSpec := { name := "shaSums", fn := fun _ => fun
  | [d] => { results := [.lit (.bool true)], args := [d] }
  | _ => none }
def shaSumsRow : OpenClaim := { program := "ythhhcpbkedikfaa", sum := "2304b41139aab80b2cfb32d1f8aac5ebddc33061b9092c8b8a5f475f90f49856", func := "triptych/triptychlaw03.ShaSums", spec := "shaSums", inPlace := ["internal/abi.NoEscape"], recurses := true, plainKeys := false, apart := false }
def ShaSumsSaid : Prop := shaSumsRow.holds Try.pinned (OpenSpec.ofChange shaSumsSpec)

/-- ITS FALSE NEIGHBOUR: 'it returns false'. Refute it at one input. -/
def shaSumsWrong : ChangeSpec := { name := "shaSums", fn := fun _ => fun
  | [d] => { results := [.lit (.bool false)], args := [d] }
  | _ => none }
def ShaSumsWrongFalsely : Prop := shaSumsRow.holds Try.pinned (OpenSpec.ofChange shaSumsWrong)

/-- 'triptychlaw03.ShaNone': WHATEVER THE INPUT: true; the input reads as it did. -/
def shaNoneSpec : ChangeSpec := { name := "shaNone", fn := fun _ => fun
  | [d] => { results := [.lit (.bool true)], args := [d] }
  | _ => none }
def shaNoneRow : OpenClaim := { program := "ythhhcpbkedikfaa", sum := "2304b41139aab80b2cfb32d1f8aac5ebddc33061b9092c8b8a5f475f90f49856", func := "triptych/triptychlaw03.ShaNone", spec := "shaNone", inPlace := ["internal/abi.NoEscape"], recurses := true, plainKeys := false, apart := false }
def ShaNoneSaid : Prop := shaNoneRow.holds Try.pinned (OpenSpec.ofChange shaNoneSpec)

/-- ITS FALSE NEIGHBOUR: 'it returns false'. Refute it at one input. -/
def shaNoneWrong : ChangeSpec := { name := "shaNone", fn := fun _ => fun
  | [d] => { results := [.lit (.bool false)], args := [d] }
  | _ => none }
def ShaNoneWrongFalsely : Prop := shaNoneRow.holds Try.pinned (OpenSpec.ofChange shaNoneWrong)

/-- 'triptychlaw03.ShaWords': WHATEVER THE INPUT: true; the input reads as it did. -/
def shaWordsSpec : ChangeSpec := { name := "shaWords", fn := fun _ => fun
  | [d1, d2] => { results := [.lit (.bool true)], args := [d1, d2] }
  | _ => none }
def shaWordsRow : OpenClaim := { program := "ythhhcpbkedikfaa", sum := "2304b41139aab80b2cfb32d1f8aac5ebddc33061b9092c8b8a5f475f90f49856", func := "triptych/triptychlaw03.ShaWords", spec := "shaWords", inPlace := ["internal/abi.NoEscape", "internal/bytealg.IndexByteString"], recurses := true, plainKeys := false, apart := false }
def ShaWordsSaid : Prop := shaWordsRow.holds Try.pinned (OpenSpec.ofChange shaWordsSpec)

/-- ITS FALSE NEIGHBOUR: 'it returns false'. Refute it at one input. -/
def shaWordsWrong : ChangeSpec := { name := "shaWords", fn := fun _ => fun
  | [d1, d2] => { results := [.lit (.bool false)], args := [d1, d2] }
  | _ => none }
def ShaWordsWrongFalsely : Prop := shaWordsRow.holds Try.pinned (OpenSpec.ofChange shaWordsWrong)

/-- 'triptychlaw03.ShaMacs': WHATEVER THE INPUT: true; the input reads as it did. -/
def shaMacsSpec : ChangeSpec := { name := "shaMacs", fn := fun _ => fun
  | [d1, d2, d3] => { results := [.lit (.bool true)], args := [d1, d2, d3] }
  | _ => none }
def shaMacsRow : OpenClaim := { program := "ythhhcpbkedikfaa", sum := "2304b41139aab80b2cfb32d1f8aac5ebddc33061b9092c8b8a5f475f90f49856", func := "triptych/triptychlaw03.ShaMacs", spec := "shaMacs", inPlace := ["internal/abi.NoEscape"], recurses := true, plainKeys := false, apart := false }
def ShaMacsSaid : Prop := shaMacsRow.holds Try.pinned (OpenSpec.ofChange shaMacsSpec)

/-- ITS FALSE NEIGHBOUR: 'it returns false'. Refute it at one input. -/
def shaMacsWrong : ChangeSpec := { name := "shaMacs", fn := fun _ => fun
  | [d1, d2, d3] => { results := [.lit (.bool false)], args := [d1, d2, d3] }
  | _ => none }
def ShaMacsWrongFalsely : Prop := shaMacsRow.holds Try.pinned (OpenSpec.ofChange shaMacsWrong)

/-- 'triptychlaw12.HeadPuts': WHATEVER THE INPUT: true; the input reads as it did. -/
def headPutsSpec : ChangeSpec := { name := "headPuts", fn := fun _ => fun
  | [d1, d2] => { results := [.lit (.bool true)], args := [d1, d2] }
  | _ => none }
def headPutsRow : OpenClaim := { program := "ythhhcpbkedikfaa", sum := "2304b41139aab80b2cfb32d1f8aac5ebddc33061b9092c8b8a5f475f90f49856", func := "triptych/triptychlaw12.HeadPuts", spec := "headPuts", unfollowed := true, recurses := true, plainKeys := false, apart := false }
def HeadPutsSaid : Prop := headPutsRow.holds Try.pinned (OpenSpec.ofChange headPutsSpec)

/-- ITS FALSE NEIGHBOUR: 'it returns false'. Refute it at one input. -/
def headPutsWrong : ChangeSpec := { name := "headPuts", fn := fun _ => fun
  | [d1, d2] => { results := [.lit (.bool false)], args := [d1, d2] }
  | _ => none }
def HeadPutsWrongFalsely : Prop := headPutsRow.holds Try.pinned (OpenSpec.ofChange headPutsWrong)

/-- 'triptychlaw17.MetaPaths': WHATEVER THE INPUT: true; the input reads as it did. -/
def metaPathsSpec : ChangeSpec := { name := "metaPaths", fn := fun _ => fun
  | [d] => { results := [.lit (.bool true)], args := [d] }
  | _ => none }
def metaPathsRow : OpenClaim := { program := "ythhhcpbkedikfaa", sum := "2304b41139aab80b2cfb32d1f8aac5ebddc33061b9092c8b8a5f475f90f49856", func := "triptych/triptychlaw17.MetaPaths", spec := "metaPaths", unfollowed := true, recurses := true, plainKeys := false, apart := false }
def MetaPathsSaid : Prop := metaPathsRow.holds Try.pinned (OpenSpec.ofChange metaPathsSpec)

/-- ITS FALSE NEIGHBOUR: 'it returns false'. Refute it at one input. -/
def metaPathsWrong : ChangeSpec := { name := "metaPaths", fn := fun _ => fun
  | [d] => { results := [.lit (.bool false)], args := [d] }
  | _ => none }
def MetaPathsWrongFalsely : Prop := metaPathsRow.holds Try.pinned (OpenSpec.ofChange metaPathsWrong)

/-- 'triptychlaw17.MetaStays': WHATEVER THE INPUT: true; the input reads as it did. -/
def metaStaysSpec : ChangeSpec := { name := "metaStays", fn := fun _ => fun
  | [d] => { results := [.lit (.bool true)], args := [d] }
  | _ => none }
def metaStaysRow : OpenClaim := { program := "ythhhcpbkedikfaa", sum := "2304b41139aab80b2cfb32d1f8aac5ebddc33061b9092c8b8a5f475f90f49856", func := "triptych/triptychlaw17.MetaStays", spec := "metaStays", unfollowed := true, recurses := true, plainKeys := false, apart := false }
def MetaStaysSaid : Prop := metaStaysRow.holds Try.pinned (OpenSpec.ofChange metaStaysSpec)

/-- ITS FALSE NEIGHBOUR: 'it returns false'. Refute it at one input. -/
def metaStaysWrong : ChangeSpec := { name := "metaStays", fn := fun _ => fun
  | [d] => { results := [.lit (.bool false)], args := [d] }
  | _ => none }
def MetaStaysWrongFalsely : Prop := metaStaysRow.holds Try.pinned (OpenSpec.ofChange metaStaysWrong)

/-- 'triptychlaw17.MetaBases': WHATEVER THE INPUT: true; the input reads as it did. -/
def metaBasesSpec : ChangeSpec := { name := "metaBases", fn := fun _ => fun
  | [d1, d2] => { results := [.lit (.bool true)], args := [d1, d2] }
  | _ => none }
def metaBasesRow : OpenClaim := { program := "ythhhcpbkedikfaa", sum := "2304b41139aab80b2cfb32d1f8aac5ebddc33061b9092c8b8a5f475f90f49856", func := "triptych/triptychlaw17.MetaBases", spec := "metaBases", unfollowed := true, recurses := true, plainKeys := false, apart := false }
def MetaBasesSaid : Prop := metaBasesRow.holds Try.pinned (OpenSpec.ofChange metaBasesSpec)

/-- ITS FALSE NEIGHBOUR: 'it returns false'. Refute it at one input. -/
def metaBasesWrong : ChangeSpec := { name := "metaBases", fn := fun _ => fun
  | [d1, d2] => { results := [.lit (.bool false)], args := [d1, d2] }
  | _ => none }
def MetaBasesWrongFalsely : Prop := metaBasesRow.holds Try.pinned (OpenSpec.ofChange metaBasesWrong)

/- THE SECOND FORM. 'bulk': how many values and letters a reading holds, each counted each time it is reached (what is shared counts as often as it is met; a slice's spare places count too). A statement '..UptoSaid' is the law's where the arguments, and the package variables that the reading takes, are together of bulk at most 1048576: NARROWER than '..Said'. Prove '..Said' where nothing that the law and all that it calls make is longer than what came in: it says more and counts as full. Else prove '..UptoSaid'. A law counts once. -/
mutual
def uptoBulk {H : Type} : DataW H → Nat
  | .lit (.string bytes) => bytes.length + 1
  | .lit _ => 1
  | .nil => 1
  | .ptr d => uptoBulk d + 1
  | .slice elems spare => uptoBulkAll elems + uptoBulkAll spare + 1
  | .agg parts => uptoBulkAll parts + 1
  | .iface _ d => uptoBulk d + 1
  | .map entries => uptoBulkEntries entries + 1
  | .held _ => 1
def uptoBulkAll {H : Type} : List (DataW H) → Nat
  | [] => 0
  | d :: r => uptoBulk d + uptoBulkAll r
def uptoBulkEntries {H : Type} : List (Lit × DataW H) → Nat
  | [] => 0
  | x :: r => uptoBulkEntry x + uptoBulkEntries r
def uptoBulkEntry {H : Type} : Lit × DataW H → Nat
  | (.string bytes, d) => bytes.length + uptoBulk d + 1
  | (_, d) => uptoBulk d + 1
 end
def uptoSmall : (H : Type) → List (DataW H) → Bool := fun _ ds => decide (uptoBulkAll ds ≤ 1048576)
def OpenSpec.upto (s : _root_.Go.ChangeSpec) : _root_.Go.OpenSpec := { _root_.Go.OpenSpec.ofChange s with cond := some uptoSmall }

/-- 'triptychlaw01.NumOrder', WHERE WHAT IT READS IS OF BULK AT MOST 1048576: true; the input reads as it did. -/
def numOrderUptoRow : OpenClaim := { program := "ythhhcpbkedikfaa", sum := "2304b41139aab80b2cfb32d1f8aac5ebddc33061b9092c8b8a5f475f90f49856", func := "triptych/triptychlaw01.NumOrder", spec := "numOrder", plainKeys := false, apart := false, narrowed := true }
def NumOrderUptoSaid : Prop := numOrderUptoRow.holds Try.pinned (OpenSpec.upto numOrderSpec)

/-- 'triptychlaw09.GeoSpread', WHERE WHAT IT READS IS OF BULK AT MOST 1048576: true; the input reads as it did. -/
def geoSpreadUptoRow : OpenClaim := { program := "ythhhcpbkedikfaa", sum := "2304b41139aab80b2cfb32d1f8aac5ebddc33061b9092c8b8a5f475f90f49856", func := "triptych/triptychlaw09.GeoSpread", spec := "geoSpread", plainKeys := false, apart := false, narrowed := true }
def GeoSpreadUptoSaid : Prop := geoSpreadUptoRow.holds Try.pinned (OpenSpec.upto geoSpreadSpec)

/-- 'triptychlaw01.NumPuts', WHERE WHAT IT READS IS OF BULK AT MOST 1048576: true; the input reads as it did. -/
def numPutsUptoRow : OpenClaim := { program := "ythhhcpbkedikfaa", sum := "2304b41139aab80b2cfb32d1f8aac5ebddc33061b9092c8b8a5f475f90f49856", func := "triptych/triptychlaw01.NumPuts", spec := "numPuts", unfollowed := true, recurses := true, plainKeys := false, apart := false, narrowed := true }
def NumPutsUptoSaid : Prop := numPutsUptoRow.holds Try.pinned (OpenSpec.upto numPutsSpec)

/-- 'triptychlaw01.NumTakes', WHERE WHAT IT READS IS OF BULK AT MOST 1048576: true; the input reads as it did. -/
def numTakesUptoRow : OpenClaim := { program := "ythhhcpbkedikfaa", sum := "2304b41139aab80b2cfb32d1f8aac5ebddc33061b9092c8b8a5f475f90f49856", func := "triptych/triptychlaw01.NumTakes", spec := "numTakes", unfollowed := true, recurses := true, plainKeys := false, apart := false, narrowed := true }
def NumTakesUptoSaid : Prop := numTakesUptoRow.holds Try.pinned (OpenSpec.upto numTakesSpec)

/-- 'triptychlaw09.GeoApart', WHERE WHAT IT READS IS OF BULK AT MOST 1048576: true; the input reads as it did. -/
def geoApartUptoRow : OpenClaim := { program := "ythhhcpbkedikfaa", sum := "2304b41139aab80b2cfb32d1f8aac5ebddc33061b9092c8b8a5f475f90f49856", func := "triptych/triptychlaw09.GeoApart", spec := "geoApart", plainKeys := false, apart := false, narrowed := true }
def GeoApartUptoSaid : Prop := geoApartUptoRow.holds Try.pinned (OpenSpec.upto geoApartSpec)

/-- 'triptychlaw09.GeoPlaces', WHERE WHAT IT READS IS OF BULK AT MOST 1048576: true; the input reads as it did. -/
def geoPlacesUptoRow : OpenClaim := { program := "ythhhcpbkedikfaa", sum := "2304b41139aab80b2cfb32d1f8aac5ebddc33061b9092c8b8a5f475f90f49856", func := "triptych/triptychlaw09.GeoPlaces", spec := "geoPlaces", plainKeys := false, apart := false, narrowed := true }
def GeoPlacesUptoSaid : Prop := geoPlacesUptoRow.holds Try.pinned (OpenSpec.upto geoPlacesSpec)

/-- 'triptychlaw27.BudgetTrims', WHERE WHAT IT READS IS OF BULK AT MOST 1048576: true; the input reads as it did. -/
def budgetTrimsUptoRow : OpenClaim := { program := "ythhhcpbkedikfaa", sum := "2304b41139aab80b2cfb32d1f8aac5ebddc33061b9092c8b8a5f475f90f49856", func := "triptych/triptychlaw27.BudgetTrims", spec := "budgetTrims", inPlace := ["maps.clone"], plainKeys := false, apart := false, narrowed := true }
def BudgetTrimsUptoSaid : Prop := budgetTrimsUptoRow.holds Try.pinned (OpenSpec.upto budgetTrimsSpec)

/-- 'triptychlaw27.BudgetSplits', WHERE WHAT IT READS IS OF BULK AT MOST 1048576: true; the input reads as it did. -/
def budgetSplitsUptoRow : OpenClaim := { program := "ythhhcpbkedikfaa", sum := "2304b41139aab80b2cfb32d1f8aac5ebddc33061b9092c8b8a5f475f90f49856", func := "triptych/triptychlaw27.BudgetSplits", spec := "budgetSplits", inPlace := ["maps.clone"], plainKeys := false, apart := false, narrowed := true }
def BudgetSplitsUptoSaid : Prop := budgetSplitsUptoRow.holds Try.pinned (OpenSpec.upto budgetSplitsSpec)

/-- 'triptychlaw27.BudgetHits', WHERE WHAT IT READS IS OF BULK AT MOST 1048576: true; the input reads as it did. -/
def budgetHitsUptoRow : OpenClaim := { program := "ythhhcpbkedikfaa", sum := "2304b41139aab80b2cfb32d1f8aac5ebddc33061b9092c8b8a5f475f90f49856", func := "triptych/triptychlaw27.BudgetHits", spec := "budgetHits", inPlace := ["maps.clone"], plainKeys := false, apart := false, narrowed := true }
def BudgetHitsUptoSaid : Prop := budgetHitsUptoRow.holds Try.pinned (OpenSpec.upto budgetHitsSpec)

/-- 'triptychlaw27.BudgetSteps', WHERE WHAT IT READS IS OF BULK AT MOST 1048576: true; the input reads as it did. -/
def budgetStepsUptoRow : OpenClaim := { program := "ythhhcpbkedikfaa", sum := "2304b41139aab80b2cfb32d1f8aac5ebddc33061b9092c8b8a5f475f90f49856", func := "triptych/triptychlaw27.BudgetSteps", spec := "budgetSteps", inPlace := ["maps.clone"], plainKeys := false, apart := false, narrowed := true }
def BudgetStepsUptoSaid : Prop := budgetStepsUptoRow.holds Try.pinned (OpenSpec.upto budgetStepsSpec)

/-- 'triptychlaw03.ShaApart', WHERE WHAT IT READS IS OF BULK AT MOST 1048576: true; the input reads as it did. -/
def shaApartUptoRow : OpenClaim := { program := "ythhhcpbkedikfaa", sum := "2304b41139aab80b2cfb32d1f8aac5ebddc33061b9092c8b8a5f475f90f49856", func := "triptych/triptychlaw03.ShaApart", spec := "shaApart", inPlace := ["internal/abi.NoEscape"], recurses := true, plainKeys := false, apart := false, narrowed := true }
def ShaApartUptoSaid : Prop := shaApartUptoRow.holds Try.pinned (OpenSpec.upto shaApartSpec)

/-- 'triptychlaw12.HeadMatches', WHERE WHAT IT READS IS OF BULK AT MOST 1048576: true; the input reads as it did. -/
def headMatchesUptoRow : OpenClaim := { program := "ythhhcpbkedikfaa", sum := "2304b41139aab80b2cfb32d1f8aac5ebddc33061b9092c8b8a5f475f90f49856", func := "triptych/triptychlaw12.HeadMatches", spec := "headMatches", recurses := true, plainKeys := false, apart := false, narrowed := true }
def HeadMatchesUptoSaid : Prop := headMatchesUptoRow.holds Try.pinned (OpenSpec.upto headMatchesSpec)

/-- 'triptychlaw03.ShaSums', WHERE WHAT IT READS IS OF BULK AT MOST 1048576: true; the input reads as it did. -/
def shaSumsUptoRow : OpenClaim := { program := "ythhhcpbkedikfaa", sum := "2304b41139aab80b2cfb32d1f8aac5ebddc33061b9092c8b8a5f475f90f49856", func := "triptych/triptychlaw03.ShaSums", spec := "shaSums", inPlace := ["internal/abi.NoEscape"], recurses := true, plainKeys := false, apart := false, narrowed := true }
def ShaSumsUptoSaid : Prop := shaSumsUptoRow.holds Try.pinned (OpenSpec.upto shaSumsSpec)

/-- 'triptychlaw03.ShaNone', WHERE WHAT IT READS IS OF BULK AT MOST 1048576: true; the input reads as it did. -/
def shaNoneUptoRow : OpenClaim := { program := "ythhhcpbkedikfaa", sum := "2304b41139aab80b2cfb32d1f8aac5ebddc33061b9092c8b8a5f475f90f49856", func := "triptych/triptychlaw03.ShaNone", spec := "shaNone", inPlace := ["internal/abi.NoEscape"], recurses := true, plainKeys := false, apart := false, narrowed := true }
def ShaNoneUptoSaid : Prop := shaNoneUptoRow.holds Try.pinned (OpenSpec.upto shaNoneSpec)

/-- 'triptychlaw03.ShaWords', WHERE WHAT IT READS IS OF BULK AT MOST 1048576: true; the input reads as it did. -/
def shaWordsUptoRow : OpenClaim := { program := "ythhhcpbkedikfaa", sum := "2304b41139aab80b2cfb32d1f8aac5ebddc33061b9092c8b8a5f475f90f49856", func := "triptych/triptychlaw03.ShaWords", spec := "shaWords", inPlace := ["internal/abi.NoEscape", "internal/bytealg.IndexByteString"], recurses := true, plainKeys := false, apart := false, narrowed := true }
def ShaWordsUptoSaid : Prop := shaWordsUptoRow.holds Try.pinned (OpenSpec.upto shaWordsSpec)

/-- 'triptychlaw03.ShaMacs', WHERE WHAT IT READS IS OF BULK AT MOST 1048576: true; the input reads as it did. -/
def shaMacsUptoRow : OpenClaim := { program := "ythhhcpbkedikfaa", sum := "2304b41139aab80b2cfb32d1f8aac5ebddc33061b9092c8b8a5f475f90f49856", func := "triptych/triptychlaw03.ShaMacs", spec := "shaMacs", inPlace := ["internal/abi.NoEscape"], recurses := true, plainKeys := false, apart := false, narrowed := true }
def ShaMacsUptoSaid : Prop := shaMacsUptoRow.holds Try.pinned (OpenSpec.upto shaMacsSpec)

/-- 'triptychlaw12.HeadPuts', WHERE WHAT IT READS IS OF BULK AT MOST 1048576: true; the input reads as it did. -/
def headPutsUptoRow : OpenClaim := { program := "ythhhcpbkedikfaa", sum := "2304b41139aab80b2cfb32d1f8aac5ebddc33061b9092c8b8a5f475f90f49856", func := "triptych/triptychlaw12.HeadPuts", spec := "headPuts", unfollowed := true, recurses := true, plainKeys := false, apart := false, narrowed := true }
def HeadPutsUptoSaid : Prop := headPutsUptoRow.holds Try.pinned (OpenSpec.upto headPutsSpec)

/-- 'triptychlaw17.MetaPaths', WHERE WHAT IT READS IS OF BULK AT MOST 1048576: true; the input reads as it did. -/
def metaPathsUptoRow : OpenClaim := { program := "ythhhcpbkedikfaa", sum := "2304b41139aab80b2cfb32d1f8aac5ebddc33061b9092c8b8a5f475f90f49856", func := "triptych/triptychlaw17.MetaPaths", spec := "metaPaths", unfollowed := true, recurses := true, plainKeys := false, apart := false, narrowed := true }
def MetaPathsUptoSaid : Prop := metaPathsUptoRow.holds Try.pinned (OpenSpec.upto metaPathsSpec)

/-- 'triptychlaw17.MetaStays', WHERE WHAT IT READS IS OF BULK AT MOST 1048576: true; the input reads as it did. -/
def metaStaysUptoRow : OpenClaim := { program := "ythhhcpbkedikfaa", sum := "2304b41139aab80b2cfb32d1f8aac5ebddc33061b9092c8b8a5f475f90f49856", func := "triptych/triptychlaw17.MetaStays", spec := "metaStays", unfollowed := true, recurses := true, plainKeys := false, apart := false, narrowed := true }
def MetaStaysUptoSaid : Prop := metaStaysUptoRow.holds Try.pinned (OpenSpec.upto metaStaysSpec)

/-- 'triptychlaw17.MetaBases', WHERE WHAT IT READS IS OF BULK AT MOST 1048576: true; the input reads as it did. -/
def metaBasesUptoRow : OpenClaim := { program := "ythhhcpbkedikfaa", sum := "2304b41139aab80b2cfb32d1f8aac5ebddc33061b9092c8b8a5f475f90f49856", func := "triptych/triptychlaw17.MetaBases", spec := "metaBases", unfollowed := true, recurses := true, plainKeys := false, apart := false, narrowed := true }
def MetaBasesUptoSaid : Prop := metaBasesUptoRow.holds Try.pinned (OpenSpec.upto metaBasesSpec)

end Rows
end Go.Proofs.Ythhhcpbkedikfaa
