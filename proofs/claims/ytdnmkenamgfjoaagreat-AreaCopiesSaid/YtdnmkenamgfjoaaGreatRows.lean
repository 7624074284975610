/-
  No cell of these rows narrows 'for every input' (looked for: loops, veiled, ifaces, maps, wideKeys, modest, calm, conditions, laid).
  DERIVED. THE GIVEN ROWS OF THIS SEAT. 7 by the template 'for every input the law returns true; each argument reads behind the call as it read before'; 0 by the template 'total and deterministic' (their statements: YtdnmkenamgfjoaaGreatTotals.lean).
  GIVEN WITH THE SEED: the statements are not yours to turn. If you find one false, say at which input.
  Laid BY PROGRAM, IN A SANDBOX (cutbox-rows.mjs): the forced cells as the released guide's own fill.sh prints them over the translation 139d4da057348541… (all of the seat's roots in one cut). By AI agents, Wed Nov 11 2026. No macro, syntax, notation, axiom, sorry.
-/
import Derived.Test.YtdnmkenamgfjoaaGreatChecked
import GoSem.Claim
import GoSem.ClaimJoined
import GoSem.ClaimMapViews
import Derived.JoinedTies
import Derived.KernelRfl
namespace Go.Proofs.YtdnmkenamgfjoaaGreat
/- THE CELL 'sum', in the pinned program and in every row, IS THE sha256 OF THE DUMP (.gsa) THAT YtdnmkenamgfjoaaGreatProg.lean LOADS. Nothing in Lean hashes anything: it is a label: what it is worth is what the hold of that sum in a sandbox is worth. -/
noncomputable def Tryz.pinned : Pinned := { name := "ytdnmkenamgfjoaagreat", sum := "139d4da057348541a6959a55463b7c6c647ae704ca818582b802f0d517496897", checked := Tryz.checked }
namespace Rows
def none {H : Type} : Left H := { results := [], args := [] }

/-- 'triptychlaw21.MendLooks': WHATEVER THE INPUT: true; the input reads as it did. -/
def mendLooksSpec : ChangeSpec := { name := "mendLooks", fn := fun _ => fun
  | [d1, d2, d3] => { results := [.lit (.bool true)], args := [d1, d2, d3] }
  | _ => none }
def mendLooksRow : OpenClaim := { program := "ytdnmkenamgfjoaagreat", sum := "139d4da057348541a6959a55463b7c6c647ae704ca818582b802f0d517496897", func := "triptych/triptychlaw21.MendLooks", spec := "mendLooks", inPlace := ["internal/abi.NoEscape", "internal/bytealg.MakeNoZero"], unfollowed := true, recurses := true, apart := false }
def MendLooksSaid : Prop := mendLooksRow.holds Tryz.pinned (OpenSpec.ofChange mendLooksSpec)

/-- ITS FALSE NEIGHBOUR: 'it returns false'. Refute it at one input. -/
def mendLooksWrong : ChangeSpec := { name := "mendLooks", fn := fun _ => fun
  | [d1, d2, d3] => { results := [.lit (.bool false)], args := [d1, d2, d3] }
  | _ => none }
def MendLooksWrongFalsely : Prop := mendLooksRow.holds Tryz.pinned (OpenSpec.ofChange mendLooksWrong)

/-- 'triptychlaw21.MendErrors': WHATEVER THE INPUT: true; the input reads as it did. -/
def mendErrorsSpec : ChangeSpec := { name := "mendErrors", fn := fun _ => fun
  | [d1, d2, d3] => { results := [.lit (.bool true)], args := [d1, d2, d3] }
  | _ => none }
def mendErrorsRow : OpenClaim := { program := "ytdnmkenamgfjoaagreat", sum := "139d4da057348541a6959a55463b7c6c647ae704ca818582b802f0d517496897", func := "triptych/triptychlaw21.MendErrors", spec := "mendErrors", inPlace := ["internal/abi.NoEscape", "internal/bytealg.MakeNoZero"], unfollowed := true, recurses := true, apart := false }
def MendErrorsSaid : Prop := mendErrorsRow.holds Tryz.pinned (OpenSpec.ofChange mendErrorsSpec)

/-- ITS FALSE NEIGHBOUR: 'it returns false'. Refute it at one input. -/
def mendErrorsWrong : ChangeSpec := { name := "mendErrors", fn := fun _ => fun
  | [d1, d2, d3] => { results := [.lit (.bool false)], args := [d1, d2, d3] }
  | _ => none }
def MendErrorsWrongFalsely : Prop := mendErrorsRow.holds Tryz.pinned (OpenSpec.ofChange mendErrorsWrong)

/-- 'triptychlaw13.AreaMends': WHATEVER THE INPUT: true; the input reads as it did. -/
def areaMendsSpec : ChangeSpec := { name := "areaMends", fn := fun _ => fun
  | [d1, d2, d3] => { results := [.lit (.bool true)], args := [d1, d2, d3] }
  | _ => none }
def areaMendsRow : OpenClaim := { program := "ytdnmkenamgfjoaagreat", sum := "139d4da057348541a6959a55463b7c6c647ae704ca818582b802f0d517496897", func := "triptych/triptychlaw13.AreaMends", spec := "areaMends", inPlace := ["internal/abi.NoEscape", "internal/bytealg.MakeNoZero"], unfollowed := true, recurses := true, apart := false }
def AreaMendsSaid : Prop := areaMendsRow.holds Tryz.pinned (OpenSpec.ofChange areaMendsSpec)

/-- ITS FALSE NEIGHBOUR: 'it returns false'. Refute it at one input. -/
def areaMendsWrong : ChangeSpec := { name := "areaMends", fn := fun _ => fun
  | [d1, d2, d3] => { results := [.lit (.bool false)], args := [d1, d2, d3] }
  | _ => none }
def AreaMendsWrongFalsely : Prop := areaMendsRow.holds Tryz.pinned (OpenSpec.ofChange areaMendsWrong)

/-- 'triptychlaw13.AreaLoads': WHATEVER THE INPUT: true; the input reads as it did. -/
def areaLoadsSpec : ChangeSpec := { name := "areaLoads", fn := fun _ => fun
  | [d1, d2, d3] => { results := [.lit (.bool true)], args := [d1, d2, d3] }
  | _ => none }
def areaLoadsRow : OpenClaim := { program := "ytdnmkenamgfjoaagreat", sum := "139d4da057348541a6959a55463b7c6c647ae704ca818582b802f0d517496897", func := "triptych/triptychlaw13.AreaLoads", spec := "areaLoads", inPlace := ["internal/abi.NoEscape", "internal/bytealg.MakeNoZero"], unfollowed := true, recurses := true, apart := false }
def AreaLoadsSaid : Prop := areaLoadsRow.holds Tryz.pinned (OpenSpec.ofChange areaLoadsSpec)

/-- ITS FALSE NEIGHBOUR: 'it returns false'. Refute it at one input. -/
def areaLoadsWrong : ChangeSpec := { name := "areaLoads", fn := fun _ => fun
  | [d1, d2, d3] => { results := [.lit (.bool false)], args := [d1, d2, d3] }
  | _ => none }
def AreaLoadsWrongFalsely : Prop := areaLoadsRow.holds Tryz.pinned (OpenSpec.ofChange areaLoadsWrong)

/-- 'triptychlaw13.AreaCopies': WHATEVER THE INPUT: true; the input reads as it did. -/
def areaCopiesSpec : ChangeSpec := { name := "areaCopies", fn := fun _ => fun
  | [d1, d2, d3] => { results := [.lit (.bool true)], args := [d1, d2, d3] }
  | _ => none }
def areaCopiesRow : OpenClaim := { program := "ytdnmkenamgfjoaagreat", sum := "139d4da057348541a6959a55463b7c6c647ae704ca818582b802f0d517496897", func := "triptych/triptychlaw13.AreaCopies", spec := "areaCopies", inPlace := ["internal/abi.NoEscape", "internal/bytealg.MakeNoZero"], unfollowed := true, recurses := true, apart := false }
def AreaCopiesSaid : Prop := areaCopiesRow.holds Tryz.pinned (OpenSpec.ofChange areaCopiesSpec)

/-- ITS FALSE NEIGHBOUR: 'it returns false'. Refute it at one input. -/
def areaCopiesWrong : ChangeSpec := { name := "areaCopies", fn := fun _ => fun
  | [d1, d2, d3] => { results := [.lit (.bool false)], args := [d1, d2, d3] }
  | _ => none }
def AreaCopiesWrongFalsely : Prop := areaCopiesRow.holds Tryz.pinned (OpenSpec.ofChange areaCopiesWrong)

/-- 'triptychlaw13.AreaChecks': WHATEVER THE INPUT: true; the input reads as it did. -/
def areaChecksSpec : ChangeSpec := { name := "areaChecks", fn := fun _ => fun
  | [d1, d2, d3] => { results := [.lit (.bool true)], args := [d1, d2, d3] }
  | _ => none }
def areaChecksRow : OpenClaim := { program := "ytdnmkenamgfjoaagreat", sum := "139d4da057348541a6959a55463b7c6c647ae704ca818582b802f0d517496897", func := "triptych/triptychlaw13.AreaChecks", spec := "areaChecks", inPlace := ["internal/abi.NoEscape", "internal/bytealg.MakeNoZero"], unfollowed := true, recurses := true, apart := false }
def AreaChecksSaid : Prop := areaChecksRow.holds Tryz.pinned (OpenSpec.ofChange areaChecksSpec)

/-- ITS FALSE NEIGHBOUR: 'it returns false'. Refute it at one input. -/
def areaChecksWrong : ChangeSpec := { name := "areaChecks", fn := fun _ => fun
  | [d1, d2, d3] => { results := [.lit (.bool false)], args := [d1, d2, d3] }
  | _ => none }
def AreaChecksWrongFalsely : Prop := areaChecksRow.holds Tryz.pinned (OpenSpec.ofChange areaChecksWrong)

/-- 'triptychlaw21.MendTorn': WHATEVER THE INPUT: true; the input reads as it did. -/
def mendTornSpec : ChangeSpec := { name := "mendTorn", fn := fun _ => fun
  | [d1, d2, d3] => { results := [.lit (.bool true)], args := [d1, d2, d3] }
  | _ => none }
def mendTornRow : OpenClaim := { program := "ytdnmkenamgfjoaagreat", sum := "139d4da057348541a6959a55463b7c6c647ae704ca818582b802f0d517496897", func := "triptych/triptychlaw21.MendTorn", spec := "mendTorn", inPlace := ["internal/abi.NoEscape", "internal/bytealg.MakeNoZero"], unfollowed := true, recurses := true, apart := false }
def MendTornSaid : Prop := mendTornRow.holds Tryz.pinned (OpenSpec.ofChange mendTornSpec)

/-- ITS FALSE NEIGHBOUR: 'it returns false'. Refute it at one input. -/
def mendTornWrong : ChangeSpec := { name := "mendTorn", fn := fun _ => fun
  | [d1, d2, d3] => { results := [.lit (.bool false)], args := [d1, d2, d3] }
  | _ => none }
def MendTornWrongFalsely : Prop := mendTornRow.holds Tryz.pinned (OpenSpec.ofChange mendTornWrong)

/- THE SECOND FORM. 'bulk': how many values and letters a reading holds, each counted each time it is reached (what is shared counts as often as it is met; a slice's spare places count too). A statement '..UptoSaid' is the law's where the arguments, and the package variables that the reading takes, are together of bulk at most 1048576: NARROWER than '..Said'. Prove '..Said' where nothing that the law and all that it calls make is longer than what came in: it says more and counts as full. Else prove '..UptoSaid'. A law counts once. -/
mutual
def uptoBulk {H : Type} : DataW H → Nat
  | .lit (.string bytes) => bytes.length + 1
  | .lit _ => 1
  | .nil => 1
  | .ptr d => uptoBulk d + 1
  | .slice elems spare => uptoBulkAll elems + uptoBulkAll spare + 1
  | .agg parts => uptoBulkAll parts + 1
  | .iface _ d => uptoBulk d + 1
  | .map entries => uptoBulkEntries entries + 1
  | .held _ => 1
def uptoBulkAll {H : Type} : List (DataW H) → Nat
  | [] => 0
  | d :: r => uptoBulk d + uptoBulkAll r
def uptoBulkEntries {H : Type} : List (Lit × DataW H) → Nat
  | [] => 0
  | x :: r => uptoBulkEntry x + uptoBulkEntries r
def uptoBulkEntry {H : Type} : Lit × DataW H → Nat
  | (.string bytes, d) => bytes.length + uptoBulk d + 1
  | (_, d) => uptoBulk d + 1
 end
def uptoSmall : (H : Type) → List (DataW H) → Bool := fun _ ds => decide (uptoBulkAll ds ≤ 1048576)
def OpenSpec.upto (s : _root_.Go.ChangeSpec) : _root_.Go.OpenSpec := { _root_.Go.OpenSpec.ofChange s with cond := some uptoSmall }

/-- 'triptychlaw21.MendLooks', WHERE WHAT IT READS IS OF BULK AT MOST 1048576: true; the input reads as it did. -/
def mendLooksUptoRow : OpenClaim := { program := "ytdnmkenamgfjoaagreat", sum := "139d4da057348541a6959a55463b7c6c647ae704ca818582b802f0d517496897", func := "triptych/triptychlaw21.MendLooks", spec := "mendLooks", inPlace := ["internal/abi.NoEscape", "internal/bytealg.MakeNoZero"], unfollowed := true, recurses := true, apart := false, narrowed := true }
def MendLooksUptoSaid : Prop := mendLooksUptoRow.holds Tryz.pinned (OpenSpec.upto mendLooksSpec)

/-- 'triptychlaw21.MendErrors', WHERE WHAT IT READS IS OF BULK AT MOST 1048576: true; the input reads as it did. -/
def mendErrorsUptoRow : OpenClaim := { program := "ytdnmkenamgfjoaagreat", sum := "139d4da057348541a6959a55463b7c6c647ae704ca818582b802f0d517496897", func := "triptych/triptychlaw21.MendErrors", spec := "mendErrors", inPlace := ["internal/abi.NoEscape", "internal/bytealg.MakeNoZero"], unfollowed := true, recurses := true, apart := false, narrowed := true }
def MendErrorsUptoSaid : Prop := mendErrorsUptoRow.holds Tryz.pinned (OpenSpec.upto mendErrorsSpec)

/-- 'triptychlaw13.AreaMends', WHERE WHAT IT READS IS OF BULK AT MOST 1048576: true; the input reads as it did. -/
def areaMendsUptoRow : OpenClaim := { program := "ytdnmkenamgfjoaagreat", sum := "139d4da057348541a6959a55463b7c6c647ae704ca818582b802f0d517496897", func := "triptych/triptychlaw13.AreaMends", spec := "areaMends", inPlace := ["internal/abi.NoEscape", "internal/bytealg.MakeNoZero"], unfollowed := true, recurses := true, apart := false, narrowed := true }
def AreaMendsUptoSaid : Prop := areaMendsUptoRow.holds Tryz.pinned (OpenSpec.upto areaMendsSpec)

/-- 'triptychlaw13.AreaLoads', WHERE WHAT IT READS IS OF BULK AT MOST 1048576: true; the input reads as it did. -/
def areaLoadsUptoRow : OpenClaim := { program := "ytdnmkenamgfjoaagreat", sum := "139d4da057348541a6959a55463b7c6c647ae704ca818582b802f0d517496897", func := "triptych/triptychlaw13.AreaLoads", spec := "areaLoads", inPlace := ["internal/abi.NoEscape", "internal/bytealg.MakeNoZero"], unfollowed := true, recurses := true, apart := false, narrowed := true }
def AreaLoadsUptoSaid : Prop := areaLoadsUptoRow.holds Tryz.pinned (OpenSpec.upto areaLoadsSpec)

/-- 'triptychlaw13.AreaCopies', WHERE WHAT IT READS IS OF BULK AT MOST 1048576: true; the input reads as it did. -/
def areaCopiesUptoRow : OpenClaim := { program := "ytdnmkenamgfjoaagreat", sum := "139d4da057348541a6959a55463b7c6c647ae704ca818582b802f0d517496897", func := "triptych/triptychlaw13.AreaCopies", spec := "areaCopies", inPlace := ["internal/abi.NoEscape", "internal/bytealg.MakeNoZero"], unfollowed := true, recurses := true, apart := false, narrowed := true }
def AreaCopiesUptoSaid : Prop := areaCopiesUptoRow.holds Tryz.pinned (OpenSpec.upto areaCopiesSpec)

/-- 'triptychlaw13.AreaChecks', WHERE WHAT IT READS IS OF BULK AT MOST 1048576: true; the input reads as it did. -/
def areaChecksUptoRow : OpenClaim := { program := "ytdnmkenamgfjoaagreat", sum := "139d4da057348541a6959a55463b7c6c647ae704ca818582b802f0d517496897", func := "triptych/triptychlaw13.AreaChecks", spec := "areaChecks", inPlace := ["internal/abi.NoEscape", "internal/bytealg.MakeNoZero"], unfollowed := true, recurses := true, apart := false, narrowed := true }
def AreaChecksUptoSaid : Prop := areaChecksUptoRow.holds Tryz.pinned (OpenSpec.upto areaChecksSpec)

/-- 'triptychlaw21.MendTorn', WHERE WHAT IT READS IS OF BULK AT MOST 1048576: true; the input reads as it did. -/
def mendTornUptoRow : OpenClaim := { program := "ytdnmkenamgfjoaagreat", sum := "139d4da057348541a6959a55463b7c6c647ae704ca818582b802f0d517496897", func := "triptych/triptychlaw21.MendTorn", spec := "mendTorn", inPlace := ["internal/abi.NoEscape", "internal/bytealg.MakeNoZero"], unfollowed := true, recurses := true, apart := false, narrowed := true }
def MendTornUptoSaid : Prop := mendTornUptoRow.holds Tryz.pinned (OpenSpec.upto mendTornSpec)

end Rows
end Go.Proofs.YtdnmkenamgfjoaaGreat
