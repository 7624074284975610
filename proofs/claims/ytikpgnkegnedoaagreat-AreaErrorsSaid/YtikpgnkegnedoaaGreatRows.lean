/-
  No cell of these rows narrows 'for every input' (looked for: loops, veiled, ifaces, maps, wideKeys, modest, calm, conditions, laid).
  DERIVED. THE GIVEN ROWS OF THIS SEAT. 5 by the template 'for every input the law returns true; each argument reads behind the call as it read before'; 0 by the template 'total and deterministic' (their statements: YtikpgnkegnedoaaGreatTotals.lean).
  GIVEN WITH THE SEED: the statements are not yours to turn. If you find one false, say at which input.
  Laid BY PROGRAM, IN A SANDBOX (cutbox-rows.mjs): the forced cells as the released guide's own fill.sh prints them over the translation 19d679c53e7e9597… (all of the seat's roots in one cut). By AI agents, Wed Nov 11 2026. No macro, syntax, notation, axiom, sorry.
-/
import Derived.Test.YtikpgnkegnedoaaGreatChecked
import GoSem.Claim
import GoSem.ClaimJoined
import GoSem.ClaimMapViews
import Derived.JoinedTies
import Derived.KernelRfl
namespace Go.Proofs.YtikpgnkegnedoaaGreat
/- THE CELL 'sum', in the pinned program and in every row, IS THE sha256 OF THE DUMP (.gsa) THAT YtikpgnkegnedoaaGreatProg.lean LOADS. Nothing in Lean hashes anything: it is a label: what it is worth is what the hold of that sum in a sandbox is worth. -/
noncomputable def Tryz.pinned : Pinned := { name := "ytikpgnkegnedoaagreat", sum := "19d679c53e7e9597666482e91835dd9d85f2a11f62c869bdd8de6d1a6359bb5c", checked := Tryz.checked }
namespace Rows
def none {H : Type} : Left H := { results := [], args := [] }

/-- 'triptychlaw13.AreaTexts': WHATEVER THE INPUT: true; the input reads as it did. -/
def areaTextsSpec : ChangeSpec := { name := "areaTexts", fn := fun _ => fun
  | [d1, d2, d3] => { results := [.lit (.bool true)], args := [d1, d2, d3] }
  | _ => none }
def areaTextsRow : OpenClaim := { program := "ytikpgnkegnedoaagreat", sum := "19d679c53e7e9597666482e91835dd9d85f2a11f62c869bdd8de6d1a6359bb5c", func := "triptych/triptychlaw13.AreaTexts", spec := "areaTexts", inPlace := ["internal/abi.NoEscape", "internal/bytealg.MakeNoZero"], unfollowed := true, recurses := true, apart := false }
def AreaTextsSaid : Prop := areaTextsRow.holds Tryz.pinned (OpenSpec.ofChange areaTextsSpec)

/-- ITS FALSE NEIGHBOUR: 'it returns false'. Refute it at one input. -/
def areaTextsWrong : ChangeSpec := { name := "areaTexts", fn := fun _ => fun
  | [d1, d2, d3] => { results := [.lit (.bool false)], args := [d1, d2, d3] }
  | _ => none }
def AreaTextsWrongFalsely : Prop := areaTextsRow.holds Tryz.pinned (OpenSpec.ofChange areaTextsWrong)

/-- 'triptychlaw13.AreaLocked': WHATEVER THE INPUT: true; the input reads as it did. -/
def areaLockedSpec : ChangeSpec := { name := "areaLocked", fn := fun _ => fun
  | [d1, d2, d3] => { results := [.lit (.bool true)], args := [d1, d2, d3] }
  | _ => none }
def areaLockedRow : OpenClaim := { program := "ytikpgnkegnedoaagreat", sum := "19d679c53e7e9597666482e91835dd9d85f2a11f62c869bdd8de6d1a6359bb5c", func := "triptych/triptychlaw13.AreaLocked", spec := "areaLocked", inPlace := ["internal/abi.NoEscape", "internal/bytealg.MakeNoZero"], unfollowed := true, recurses := true, apart := false }
def AreaLockedSaid : Prop := areaLockedRow.holds Tryz.pinned (OpenSpec.ofChange areaLockedSpec)

/-- ITS FALSE NEIGHBOUR: 'it returns false'. Refute it at one input. -/
def areaLockedWrong : ChangeSpec := { name := "areaLocked", fn := fun _ => fun
  | [d1, d2, d3] => { results := [.lit (.bool false)], args := [d1, d2, d3] }
  | _ => none }
def AreaLockedWrongFalsely : Prop := areaLockedRow.holds Tryz.pinned (OpenSpec.ofChange areaLockedWrong)

/-- 'triptychlaw13.AreaErrors': WHATEVER THE INPUT: true; the input reads as it did. -/
def areaErrorsSpec : ChangeSpec := { name := "areaErrors", fn := fun _ => fun
  | [d1, d2, d3] => { results := [.lit (.bool true)], args := [d1, d2, d3] }
  | _ => none }
def areaErrorsRow : OpenClaim := { program := "ytikpgnkegnedoaagreat", sum := "19d679c53e7e9597666482e91835dd9d85f2a11f62c869bdd8de6d1a6359bb5c", func := "triptych/triptychlaw13.AreaErrors", spec := "areaErrors", inPlace := ["internal/abi.NoEscape", "internal/bytealg.MakeNoZero"], unfollowed := true, recurses := true, apart := false }
def AreaErrorsSaid : Prop := areaErrorsRow.holds Tryz.pinned (OpenSpec.ofChange areaErrorsSpec)

/-- ITS FALSE NEIGHBOUR: 'it returns false'. Refute it at one input. -/
def areaErrorsWrong : ChangeSpec := { name := "areaErrors", fn := fun _ => fun
  | [d1, d2, d3] => { results := [.lit (.bool false)], args := [d1, d2, d3] }
  | _ => none }
def AreaErrorsWrongFalsely : Prop := areaErrorsRow.holds Tryz.pinned (OpenSpec.ofChange areaErrorsWrong)

/-- 'triptychlaw13.AreaMends': WHATEVER THE INPUT: true; the input reads as it did. -/
def areaMendsSpec : ChangeSpec := { name := "areaMends", fn := fun _ => fun
  | [d1, d2, d3] => { results := [.lit (.bool true)], args := [d1, d2, d3] }
  | _ => none }
def areaMendsRow : OpenClaim := { program := "ytikpgnkegnedoaagreat", sum := "19d679c53e7e9597666482e91835dd9d85f2a11f62c869bdd8de6d1a6359bb5c", func := "triptych/triptychlaw13.AreaMends", spec := "areaMends", inPlace := ["internal/abi.NoEscape", "internal/bytealg.MakeNoZero"], unfollowed := true, recurses := true, apart := false }
def AreaMendsSaid : Prop := areaMendsRow.holds Tryz.pinned (OpenSpec.ofChange areaMendsSpec)

/-- ITS FALSE NEIGHBOUR: 'it returns false'. Refute it at one input. -/
def areaMendsWrong : ChangeSpec := { name := "areaMends", fn := fun _ => fun
  | [d1, d2, d3] => { results := [.lit (.bool false)], args := [d1, d2, d3] }
  | _ => none }
def AreaMendsWrongFalsely : Prop := areaMendsRow.holds Tryz.pinned (OpenSpec.ofChange areaMendsWrong)

/-- 'triptychlaw13.AreaCopies': WHATEVER THE INPUT: true; the input reads as it did. -/
def areaCopiesSpec : ChangeSpec := { name := "areaCopies", fn := fun _ => fun
  | [d1, d2, d3] => { results := [.lit (.bool true)], args := [d1, d2, d3] }
  | _ => none }
def areaCopiesRow : OpenClaim := { program := "ytikpgnkegnedoaagreat", sum := "19d679c53e7e9597666482e91835dd9d85f2a11f62c869bdd8de6d1a6359bb5c", func := "triptych/triptychlaw13.AreaCopies", spec := "areaCopies", inPlace := ["internal/abi.NoEscape", "internal/bytealg.MakeNoZero"], unfollowed := true, recurses := true, apart := false }
def AreaCopiesSaid : Prop := areaCopiesRow.holds Tryz.pinned (OpenSpec.ofChange areaCopiesSpec)

/-- ITS FALSE NEIGHBOUR: 'it returns false'. Refute it at one input. -/
def areaCopiesWrong : ChangeSpec := { name := "areaCopies", fn := fun _ => fun
  | [d1, d2, d3] => { results := [.lit (.bool false)], args := [d1, d2, d3] }
  | _ => none }
def AreaCopiesWrongFalsely : Prop := areaCopiesRow.holds Tryz.pinned (OpenSpec.ofChange areaCopiesWrong)

/- THE SECOND FORM. 'bulk': how many values and letters a reading holds, each counted each time it is reached (what is shared counts as often as it is met; a slice's spare places count too). A statement '..UptoSaid' is the law's where the arguments, and the package variables that the reading takes, are together of bulk at most 1048576: NARROWER than '..Said'. Prove '..Said' where nothing that the law and all that it calls make is longer than what came in: it says more and counts as full. Else prove '..UptoSaid'. A law counts once. -/
mutual
def uptoBulk {H : Type} : DataW H → Nat
  | .lit (.string bytes) => bytes.length + 1
  | .lit _ => 1
  | .nil => 1
  | .ptr d => uptoBulk d + 1
  | .slice elems spare => uptoBulkAll elems + uptoBulkAll spare + 1
  | .agg parts => uptoBulkAll parts + 1
  | .iface _ d => uptoBulk d + 1
  | .map entries => uptoBulkEntries entries + 1
  | .held _ => 1
def uptoBulkAll {H : Type} : List (DataW H) → Nat
  | [] => 0
  | d :: r => uptoBulk d + uptoBulkAll r
def uptoBulkEntries {H : Type} : List (Lit × DataW H) → Nat
  | [] => 0
  | x :: r => uptoBulkEntry x + uptoBulkEntries r
def uptoBulkEntry {H : Type} : Lit × DataW H → Nat
  | (.string bytes, d) => bytes.length + uptoBulk d + 1
  | (_, d) => uptoBulk d + 1
 end
def uptoSmall : (H : Type) → List (DataW H) → Bool := fun _ ds => decide (uptoBulkAll ds ≤ 1048576)
def OpenSpec.upto (s : _root_.Go.ChangeSpec) : _root_.Go.OpenSpec := { _root_.Go.OpenSpec.ofChange s with cond := some uptoSmall }

/-- 'triptychlaw13.AreaTexts', WHERE WHAT IT READS IS OF BULK AT MOST 1048576: true; the input reads as it did. -/
def areaTextsUptoRow : OpenClaim := { program := "ytikpgnkegnedoaagreat", sum := "19d679c53e7e9597666482e91835dd9d85f2a11f62c869bdd8de6d1a6359bb5c", func := "triptych/triptychlaw13.AreaTexts", spec := "areaTexts", inPlace := ["internal/abi.NoEscape", "internal/bytealg.MakeNoZero"], unfollowed := true, recurses := true, apart := false, narrowed := true }
def AreaTextsUptoSaid : Prop := areaTextsUptoRow.holds Tryz.pinned (OpenSpec.upto areaTextsSpec)

/-- 'triptychlaw13.AreaLocked', WHERE WHAT IT READS IS OF BULK AT MOST 1048576: true; the input reads as it did. -/
def areaLockedUptoRow : OpenClaim := { program := "ytikpgnkegnedoaagreat", sum := "19d679c53e7e9597666482e91835dd9d85f2a11f62c869bdd8de6d1a6359bb5c", func := "triptych/triptychlaw13.AreaLocked", spec := "areaLocked", inPlace := ["internal/abi.NoEscape", "internal/bytealg.MakeNoZero"], unfollowed := true, recurses := true, apart := false, narrowed := true }
def AreaLockedUptoSaid : Prop := areaLockedUptoRow.holds Tryz.pinned (OpenSpec.upto areaLockedSpec)

/-- 'triptychlaw13.AreaErrors', WHERE WHAT IT READS IS OF BULK AT MOST 1048576: true; the input reads as it did. -/
def areaErrorsUptoRow : OpenClaim := { program := "ytikpgnkegnedoaagreat", sum := "19d679c53e7e9597666482e91835dd9d85f2a11f62c869bdd8de6d1a6359bb5c", func := "triptych/triptychlaw13.AreaErrors", spec := "areaErrors", inPlace := ["internal/abi.NoEscape", "internal/bytealg.MakeNoZero"], unfollowed := true, recurses := true, apart := false, narrowed := true }
def AreaErrorsUptoSaid : Prop := areaErrorsUptoRow.holds Tryz.pinned (OpenSpec.upto areaErrorsSpec)

/-- 'triptychlaw13.AreaMends', WHERE WHAT IT READS IS OF BULK AT MOST 1048576: true; the input reads as it did. -/
def areaMendsUptoRow : OpenClaim := { program := "ytikpgnkegnedoaagreat", sum := "19d679c53e7e9597666482e91835dd9d85f2a11f62c869bdd8de6d1a6359bb5c", func := "triptych/triptychlaw13.AreaMends", spec := "areaMends", inPlace := ["internal/abi.NoEscape", "internal/bytealg.MakeNoZero"], unfollowed := true, recurses := true, apart := false, narrowed := true }
def AreaMendsUptoSaid : Prop := areaMendsUptoRow.holds Tryz.pinned (OpenSpec.upto areaMendsSpec)

/-- 'triptychlaw13.AreaCopies', WHERE WHAT IT READS IS OF BULK AT MOST 1048576: true; the input reads as it did. -/
def areaCopiesUptoRow : OpenClaim := { program := "ytikpgnkegnedoaagreat", sum := "19d679c53e7e9597666482e91835dd9d85f2a11f62c869bdd8de6d1a6359bb5c", func := "triptych/triptychlaw13.AreaCopies", spec := "areaCopies", inPlace := ["internal/abi.NoEscape", "internal/bytealg.MakeNoZero"], unfollowed := true, recurses := true, apart := false, narrowed := true }
def AreaCopiesUptoSaid : Prop := areaCopiesUptoRow.holds Tryz.pinned (OpenSpec.upto areaCopiesSpec)

end Rows
end Go.Proofs.YtikpgnkegnedoaaGreat
