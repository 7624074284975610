/-
 Contracts.
-/
import Derived.Test.YtdnmkenamgfjoaaGreatStr
import Derived.IntWalk
import Derived.KernelRfl
set_option linter.unusedSimpArgs false
set_option linter.unusedVariables false
set_option linter.unusedSectionVars false
namespace Go.Proofs.YtdnmkenamgfjoaaGreat.vers
open Go Go.Ab Go.Proofs Go.RowKit str
variable [Inhabited TabBox]
variable [Nonempty GF]
variable [Nonempty GE]
set_option maxRecDepth 100000
theorem vb_tup2 {n : Nat} {a b : Value} (ha : VBelow n a) (hb : VBelow n b) : VBelow n (.tuple #[a,b]) := vb_tuple2 ha hb
def vOk (a b c : Int) : Prop := (0 ≤ a ∧ a ≤ 65535) ∧ (0 ≤ b ∧ b ≤ 65535) ∧ (0 ≤ c ∧ c ≤ 65535)
instance (a b c : Int) : Decidable (vOk a b c) := by unfold vOk; infer_instance
end Go.Proofs.YtdnmkenamgfjoaaGreat.vers
