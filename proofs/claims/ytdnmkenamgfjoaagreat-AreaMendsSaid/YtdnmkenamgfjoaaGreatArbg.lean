/-
 Contracts.
-/
import Derived.Test.YtdnmkenamgfjoaaGreatArbf
import Derived.IntWalk
import Derived.KernelRfl
set_option linter.unusedSimpArgs false
set_option linter.unusedVariables false
set_option linter.unusedSectionVars false
namespace Go.Proofs.YtdnmkenamgfjoaaGreat.arbg
open Go Go.Ab Go.Proofs Go.RowKit Go.Proofs.YtdnmkenamgfjoaaGreat.str Go.Proofs.YtdnmkenamgfjoaaGreat.vers Go.Proofs.YtdnmkenamgfjoaaGreat.lin1 Go.Proofs.YtdnmkenamgfjoaaGreat.sha Go.Proofs.YtdnmkenamgfjoaaGreat.arba Go.Proofs.YtdnmkenamgfjoaaGreat.arbb Go.Proofs.YtdnmkenamgfjoaaGreat.arbc Go.Proofs.YtdnmkenamgfjoaaGreat.arbd Go.Proofs.YtdnmkenamgfjoaaGreat.arbe Go.Proofs.YtdnmkenamgfjoaaGreat.arbf
variable [Inhabited TabBox]
variable [Nonempty GF]
variable [Nonempty GE]
set_option maxRecDepth 100000
def c36_0 : AC := .seq (.ops [oP 20 (.bin .lss (tP 19) (tP 18))]) (.seq (.cond (tP 20) .skip (.exit 0)) (.seq (.block 1 (.seq (.ops [mV 21 19,mV 6 21]) (.seq (.draw [([mV 22 0,oP 23 (.nilck (tP 22)),oP 24 (.fAddr 1 (tP 23)),oP 25 (.load none (tP 24)),mV 26 1,mV 27 0,oP 28 (.nilck (tP 27)),oP 29 (.fAddr 2 (tP 28)),oP 30 (.load (some 3) (tP 29)),mV 33 6],[oP 31 (.call 35 [tP 30])],[oP 25 (.load none (tP 24))]),([oP 32 (.bin .mul (tP 26) (tP 31)),oP 34 (.bin .add (tP 32) (tP 33))],[oP 35 (.call 46 [tP 25,tP 34])],[]),([mV 7 35],[],[])]) (.seq (.ops [mV 36 7,oP 37 (.bin .neq (tP 36) (kI 0))]) (.cond (tP 37) (.seq (.ops [mV 38 7,mV 4 38]) .ret) .skip))))) (.ops [oP 39 (.bin .add (tP 19) (kI 1)),mV 19 39])))
def c36 : AC := .seq (.ops [oP 4 (.mv (kI 0))]) (.seq (.seq (.ops [mV 8 0,mV 9 1,oP 10 (.call 61 [tP 8,tP 9,.const (.int .i64 0)]),mV 5 10]) (.seq (.ops [mV 11 5,oP 12 (.bin .neq (tP 11) (kI 0))]) (.cond (tP 12) (.seq (.ops [mV 13 5,mV 4 13]) .ret) .skip))) (.seq (.seq (.ops [mV 14 0,oP 15 (.nilck (tP 14)),oP 16 (.fAddr 2 (tP 15)),oP 17 (.load (some 3) (tP 16)),oP 18 (.call 35 [tP 17]),oP 19 (.mv (kI 0))]) (.block 0 (.loop c36_0))) (.seq (.ops [oP 4 (.mv (kI 0))]) .ret)))
theorem of_E {D P S : Nat} (hr : right D P S = true) (a b c : Int) (ha : rng a) (hb : rng b) (hc : rng c) (img : List UInt8) (hi : (img.length : Int) ≤ roomF D P S) (h1 : img.length ≤ 100000) : txE D P S ⟨a, b, c, (img.length : Int), shaB img⟩ img.length = 0 := by
 unfold txE
 rw [if_pos ⟨hr, ⟨fun j hj => by
   match j, hj with
   | 0, _ => exact ha
   | 1, _ => exact hb
   | 2, _ => exact hc, by show (0 : Int) ≤ img.length; omega, by show (img.length : Int) ≤ 16777215; omega⟩, rfl⟩, if_neg (by omega)]
theorem rng0 : rng 0 := by unfold rng; decide
theorem nats_of {d p s : Int} (hr : right d p s = true) : ∃ D P S : Nat, d = D ∧ p = P ∧ s = S := by
 obtain ⟨⟨hd1, hd8⟩, ⟨hp2, hp6⟩, hn1, hn8⟩ := right_prop.1 hr
 exact ⟨d.toNat, p.toNat, s.toNat, by omega, by omega, by omega⟩
end Go.Proofs.YtdnmkenamgfjoaaGreat.arbg

