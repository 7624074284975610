/-
 Ab: what is known of the package-level variables: their first cells,by the variable's number.
-/
import Derived.WalkKit
namespace Go.Ab
structure TabBox where
 tab : Nat → Option (List Value)
def GT [Inhabited TabBox] : Nat → Option (List Value) := (default : TabBox).tab
end Go.Ab
