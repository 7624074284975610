/-
  What all rows of this seat need of the program's beginning: it may be entered; its lifts; how it was made.
-/
import Derived.Test.YtpcnpnddkgdaeaaDoorRows
import Derived.KernelRfl
namespace Go.Proofs.YtpcnpnddkgdaeaaDoor
open Go Go.Proofs
theorem begun : (Tryd.pinned.checked.prog.mayEnter && (Rows.verWordsRow.lifted == Tryd.pinned.checked.prog.liftsFinal) && (Tryd.pinned.checked.prog.make == some Rows.verWordsRow.make)) = true := by kernel_rfl
end Go.Proofs.YtpcnpnddkgdaeaaDoor
