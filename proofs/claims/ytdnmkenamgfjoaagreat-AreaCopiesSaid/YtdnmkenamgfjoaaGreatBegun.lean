/-
  What all rows of this seat need of the program's beginning: it may be entered; its lifts; how it was made.
-/
import Derived.Test.YtdnmkenamgfjoaaGreatRows
import Derived.KernelRfl
namespace Go.Proofs.YtdnmkenamgfjoaaGreat
open Go Go.Proofs
theorem begun : (Tryz.pinned.checked.prog.mayEnter && (Rows.mendLooksRow.lifted == Tryz.pinned.checked.prog.liftsFinal) && (Tryz.pinned.checked.prog.make == some Rows.mendLooksRow.make)) = true := by kernel_rfl
end Go.Proofs.YtdnmkenamgfjoaaGreat
