/-
 Contracts.
-/
import Derived.Test.YtdnmkenamgfjoaaGreatArbf
import Derived.IntWalk
import Derived.KernelRfl
set_option linter.unusedSimpArgs false
set_option linter.unusedVariables false
set_option linter.unusedSectionVars false
namespace Go.Proofs.YtdnmkenamgfjoaaGreat.arbg
open Go Go.Ab Go.Proofs Go.RowKit Go.Proofs.YtdnmkenamgfjoaaGreat.str Go.Proofs.YtdnmkenamgfjoaaGreat.vers Go.Proofs.YtdnmkenamgfjoaaGreat.lin1 Go.Proofs.YtdnmkenamgfjoaaGreat.sha Go.Proofs.YtdnmkenamgfjoaaGreat.arba Go.Proofs.YtdnmkenamgfjoaaGreat.arbb Go.Proofs.YtdnmkenamgfjoaaGreat.arbc Go.Proofs.YtdnmkenamgfjoaaGreat.arbd Go.Proofs.YtdnmkenamgfjoaaGreat.arbe Go.Proofs.YtdnmkenamgfjoaaGreat.arbf
variable [Inhabited TabBox]
variable [Nonempty GF]
variable [Nonempty GE]
set_option maxRecDepth 100000
def c36_0 : AC := .seq (.ops [oP 20 (.bin .lss (tP 19) (tP 18))]) (.seq (.cond (tP 20) .skip (.exit 0)) (.seq (.block 1 (.seq (.ops [mV 21 19,mV 6 21]) (.seq (.draw [([mV 22 0,oP 23 (.nilck (tP 22)),oP 24 (.fAddr 1 (tP 23)),oP 25 (.load none (tP 24)),mV 26 1,mV 27 0,oP 28 (.nilck (tP 27)),oP 29 (.fAddr 2 (tP 28)),oP 30 (.load (some 3) (tP 29)),mV 33 6],[oP 31 (.call 35 [tP 30])],[oP 25 (.load none (tP 24))]),([oP 32 (.bin .mul (tP 26) (tP 31)),oP 34 (.bin .add (tP 32) (tP 33))],[oP 35 (.call 46 [tP 25,tP 34])],[]),([mV 7 35],[],[])]) (.seq (.ops [mV 36 7,oP 37 (.bin .neq (tP 36) (kI 0))]) (.cond (tP 37) (.seq (.ops [mV 38 7,mV 4 38]) .ret) .skip))))) (.ops [oP 39 (.bin .add (tP 19) (kI 1)),mV 19 39])))
def c36 : AC := .seq (.ops [oP 4 (.mv (kI 0))]) (.seq (.seq (.ops [mV 8 0,mV 9 1,oP 10 (.call 61 [tP 8,tP 9,.const (.int .i64 0)]),mV 5 10]) (.seq (.ops [mV 11 5,oP 12 (.bin .neq (tP 11) (kI 0))]) (.cond (tP 12) (.seq (.ops [mV 13 5,mV 4 13]) .ret) .skip))) (.seq (.seq (.ops [mV 14 0,oP 15 (.nilck (tP 14)),oP 16 (.fAddr 2 (tP 15)),oP 17 (.load (some 3) (tP 16)),oP 18 (.call 35 [tP 17]),oP 19 (.mv (kI 0))]) (.block 0 (.loop c36_0))) (.seq (.ops [oP 4 (.mv (kI 0))]) .ret)))
theorem of_E {D P S : Nat} (hr : right D P S = true) (a b c : Int) (ha : rng a) (hb : rng b) (hc : rng c) (img : List UInt8) (hi : (img.length : Int) ≤ roomF D P S) (h1 : img.length ≤ 100000) : txE D P S ⟨a, b, c, (img.length : Int), shaB img⟩ img.length = 0 := by
 unfold txE
 rw [if_pos ⟨hr, ⟨fun j hj => by
   match j, hj with
   | 0, _ => exact ha
   | 1, _ => exact hb
   | 2, _ => exact hc, by show (0 : Int) ≤ img.length; omega, by show (img.length : Int) ≤ 16777215; omega⟩, rfl⟩, if_neg (by omega)]
theorem rng0 : rng 0 := by unfold rng; decide
theorem room0 (d p s : Int) : 0 ≤ roomF d p s := by
 unfold roomF
 split <;> omega
theorem nats_of {d p s : Int} (hr : right d p s = true) : ∃ D P S : Nat, d = D ∧ p = P ∧ s = S := by
 obtain ⟨⟨hd1, hd8⟩, ⟨hp2, hp6⟩, hn1, hn8⟩ := right_prop.1 hr
 exact ⟨d.toNat, p.toNat, s.toNat, by omega, by omega, by omega⟩
theorem lockF_get (L : List Bool) (n j : Nat) (hj : j < L.length) : (lockF L 0 n)[j]! = if j < n then true else L[j]! := by
 unfold lockF
 rw [getElem!_pos _ j (by simpa using hj)]
 simp
theorem slot0_of {P S D : Nat} (hr : right D P S = true) : slot (D : Int) P S = (((D + P) * S : Nat) : Int) := by rw [(slot_right hr).1]; push_cast; rfl
def _root_.Go.Proofs.YtdnmkenamgfjoaaGreat.arbb.DevS.lk0 (V : DevS) (n : Nat) : DevS := { V with lock := lockF V.lock 0 n }
theorem _root_.Go.Proofs.YtdnmkenamgfjoaaGreat.arbc.DevU.lk0 {V : DevS} (u : DevU V) (n : Nat) : DevU (V.lk0 n) := ⟨u.up, u.lf, by show V.data.length = 64 * (lockF V.lock 0 n).length; rw [lockF_len]; exact u.dl, by show V.wear.length = (lockF V.lock 0 n).length; rw [lockF_len]; exact u.wl, by show (lockF V.lock 0 n).length ≤ 512; rw [lockF_len]; exact u.nl⟩
theorem arlock_ok (A : ArB) (V : DevS) (h : Heap) (hcl : h.Closed) (K : ArK h A V) :
  ACalls Tryz.prog 23 [.pointer (some ⟨A.d, 0, none⟩), .int .i64 0, .int .i64 (slot A.D A.P A.S)] h fun r h' => r = .int .i64 0 ∧ ArK h' A (V.lk0 ((A.D + A.P) * A.S)) ∧ ArX A h h' := by
 have hsl := slot0_of K.rt
 have hall : allS (A.D : Int) A.P A.S ≤ V.lock.length := K.sz
 have hn : (A.D + A.P) * A.S ≤ V.lock.length := by
  have : allS (A.D : Int) A.P A.S = 3 * slot (A.D : Int) A.P A.S + 18 := by unfold allS; rw [if_pos K.rt]
  omega
 rw [hsl]
 refine (lock_ok A.d A.x A.y A.z V 0 _ (Nat.zero_le _) hn (by have := K.du.nl; omega) h K.dv).mono' ?_
 rintro _ h' hc' _ ⟨rfl, m, e, rfl, dk⟩
 obtain ⟨m', e', cy, _, _⟩ := K.dv.cy
 have gx : ArX A h (h.set A.y (.cells ((lockF V.lock 0 ((A.D + A.P) * A.S)).map Value.bool) m e)) := Xd.set (Xd.refl hcl) (by simp) (cellsOf_lt hcl cy) (fun x hx => by
  obtain ⟨b, _, rfl⟩ := List.mem_map.1 hx
  exact .bool)
 exact ⟨rfl, K.keepX gx dk (K.du.lk0 _) (lockF_len _ _ _), gx⟩
end Go.Proofs.YtdnmkenamgfjoaaGreat.arbg

