/-
 Contracts.
-/
import Derived.Test.YtdnmkenamgfjoaaGreatArbf
import Derived.IntWalk
import Derived.KernelRfl
set_option linter.unusedSimpArgs false
set_option linter.unusedVariables false
set_option linter.unusedSectionVars false
namespace Go.Proofs.YtdnmkenamgfjoaaGreat.arbg
open Go Go.Ab Go.Proofs Go.RowKit str vers lin1 sha arba arbb arbc arbd arbe arbf
variable [Inhabited TabBox]
variable [Nonempty GF]
variable [Nonempty GE]
set_option maxRecDepth 100000
def c36_0 : AC := sO [oP 20 (bT .lss 19 18)] (.seq (cT 20 .skip (.exit 0)) (.seq (.block 1 (sO [mV 21 19,mV 6 21] (.seq (.draw [([mV 22 0,oP 23 (nC 22),oP 24 (fA 1 23),oP 25 (lN 24),mV 26 1,mV 27 0,oP 28 (nC 27),oP 29 (fA 2 28),oP 30 (.load (some 3) (tP 29)),mV 33 6],[oP 31 (.call 35 [tP 30])],[oP 25 (lN 24)]),([oP 32 (bT .mul 26 31),oP 34 (bT .add 32 33)],[oP 35 (.call 46 [tP 25,tP 34])],[]),([mV 7 35],[],[])]) (sO [mV 36 7,oP 37 (bK .neq 36 0)] (cT 37 (sO [mV 38 7,mV 4 38] .ret) .skip))))) (.ops [oP 39 (bK .add 19 1),mV 19 39])))
def c36 : AC := sO [oP 4 (.mv (kI 0))] (.seq (sO [mV 8 0,mV 9 1,oP 10 (.call 61 [tP 8,tP 9,.const (.int .i64 0)]),mV 5 10] (sO [mV 11 5,oP 12 (bK .neq 11 0)] (cT 12 (sO [mV 13 5,mV 4 13] .ret) .skip))) (.seq (sO [mV 14 0,oP 15 (nC 14),oP 16 (fA 2 15),oP 17 (.load (some 3) (tP 16)),oP 18 (.call 35 [tP 17]),oP 19 (.mv (kI 0))] (.block 0 (.loop c36_0))) (sO [oP 4 (.mv (kI 0))] .ret)))
theorem of_E {D P S : Nat} (hr : right D P S = true) (a b c : Int) (ha : rng a) (hb : rng b) (hc : rng c) (img : List UInt8) (hi : (img.length : Int) ≤ roomF D P S) (h1 : img.length ≤ 100000) : txE D P S ⟨a,b,c,(img.length : Int),shaB img⟩ img.length = 0 := by
 unfold txE
 rw [if_pos ⟨hr,⟨fun j hj => by
   match j,hj with
   | 0,_ => exact ha
   | 1,_ => exact hb
   | 2,_ => exact hc,by show (0 : Int) ≤ img.length; omega,by show (img.length : Int) ≤ 16777215; omega⟩,rfl⟩,if_neg (by omega)]
theorem rng0 : rng 0 := by unfold rng; decide
theorem nats_of {d p s : Int} (hr : right d p s = true) : ∃ D P S : Nat,d = D ∧ p = P ∧ s = S := by
 obtain ⟨⟨hd1,hd8⟩,⟨hp2,hp6⟩,hn1,hn8⟩ := right_prop.1 hr
 exact ⟨d.toNat,p.toNat,s.toNat,by omega,by omega,by omega⟩
end Go.Proofs.YtdnmkenamgfjoaaGreat.arbg
