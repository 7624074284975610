/-
  What all rows of this seat need of the program's beginning: it may be entered; its lifts; how it was made.
-/
import Derived.Test.YthhhcpbkedikfaaRows
import Derived.KernelRfl
namespace Go.Proofs.Ythhhcpbkedikfaa
open Go Go.Proofs
theorem begun : (Try.pinned.checked.prog.mayEnter && (Rows.numOrderRow.lifted == Try.pinned.checked.prog.liftsFinal) && (Try.pinned.checked.prog.make == some Rows.numOrderRow.make)) = true := by kernel_rfl
end Go.Proofs.Ythhhcpbkedikfaa
