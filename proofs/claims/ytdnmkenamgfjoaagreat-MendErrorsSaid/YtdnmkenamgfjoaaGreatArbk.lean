/-
 Contracts.
-/
import Derived.Test.YtdnmkenamgfjoaaGreatArbj
import Derived.IntWalk
import Derived.KernelRfl
set_option linter.unusedSimpArgs false
set_option linter.unusedVariables false
set_option linter.unusedSectionVars false
namespace Go.Proofs.YtdnmkenamgfjoaaGreat.arbk
open Go Go.Ab Go.Proofs Go.RowKit Go.Proofs.YtdnmkenamgfjoaaGreat.str Go.Proofs.YtdnmkenamgfjoaaGreat.vers Go.Proofs.YtdnmkenamgfjoaaGreat.lin1 Go.Proofs.YtdnmkenamgfjoaaGreat.sha Go.Proofs.YtdnmkenamgfjoaaGreat.arba Go.Proofs.YtdnmkenamgfjoaaGreat.arbb Go.Proofs.YtdnmkenamgfjoaaGreat.arbc Go.Proofs.YtdnmkenamgfjoaaGreat.arbd Go.Proofs.YtdnmkenamgfjoaaGreat.arbe Go.Proofs.YtdnmkenamgfjoaaGreat.arbf Go.Proofs.YtdnmkenamgfjoaaGreat.arbg Go.Proofs.YtdnmkenamgfjoaaGreat.arbi Go.Proofs.YtdnmkenamgfjoaaGreat.arbj
variable [Inhabited TabBox]
variable [Nonempty GF]
variable [Nonempty GE]
set_option maxRecDepth 100000
theorem colX_get (X : List (List UInt8)) (q i : Nat) (hi : i < X.length) : (colF X q)[i]! = X[i]![q]! := by
 unfold colF
 rw [getElem!_pos _ i (by rw [List.length_map]; exact hi), List.getElem_map, getElem!_pos X i hi]
theorem foldR_to {n : Nat} {B X : List (List UInt8)} (hn : n = B.length) (hX : X.length = B.length) (hB6 : ∀ x ∈ B, x.length = 60) {W : Nat → Option (List UInt8)} : ∀ j, j ≤ 60 → (∀ q, q < j → W q = some (colF X q)) →
  ∃ Y, foldR n B W j = some Y ∧ Y.length = B.length ∧ (∀ y ∈ Y, y.length = 60) ∧ ∀ i, i < B.length → ∀ q, q < 60 → Y[i]![q]! = if q < j then X[i]![q]! else B[i]![q]!
 | 0, _, _ => ⟨B, rfl, rfl, hB6, fun i _ q _ => by rw [if_neg (by omega)]⟩
 | j + 1, hj, h => by
  obtain ⟨Y, h1, h2, h3, h4⟩ := foldR_to hn hX hB6 j (by omega) fun q hq => h q (by omega)
  refine ⟨setK Y j (colF X j) n, ?_, by rw [setK_len, h2], setK_60 h3 _ _ n (by omega), fun i hi q hq => ?_⟩
  ·unfold foldR
   rw [h1, h j (by omega)]
  ·rw [setK_get n (by omega) i, if_pos (by omega), colX_get X j i (by omega)]
   have hYi : i < Y.length := by omega
   have hy60 : (Y[i]!).length = 60 := by rw [getElem!_pos Y i hYi]; exact h3 _ (List.getElem_mem hYi)
   have h5 := h4 i hi q hq
   rw [getElem!_pos _ q (by rw [List.length_set]; omega), List.getElem_set]
   by_cases e : j = q
   ·subst e
    rw [if_pos rfl, if_pos (by omega)]
   ·rw [if_neg e, ← getElem!_pos _ q (by omega), h5]
    by_cases e2 : q < j
    ·rw [if_pos e2, if_pos (by omega)]
    ·rw [if_neg e2, if_neg (by omega)]
theorem foldR_eq {n : Nat} {B X : List (List UInt8)} (hn : n = B.length) (hX : X.length = B.length) (hB6 : ∀ x ∈ B, x.length = 60) (hX6 : ∀ x ∈ X, x.length = 60) {W : Nat → Option (List UInt8)} (h : ∀ q, q < 60 → W q = some (colF X q)) : foldR n B W 60 = some X := by
 obtain ⟨Y, h1, h2, h3, h4⟩ := foldR_to hn hX hB6 60 (Nat.le_refl _) h
 rw [h1]
 congr 1
 refine List.ext_getElem (by omega) fun i g1 g2 => ?_
 have e1 := h3 _ (List.getElem_mem g1)
 have e2 := hX6 _ (List.getElem_mem g2)
 refine List.ext_getElem (by omega) fun q q1 q2 => ?_
 have := h4 i (by omega) q (by omega)
 rw [if_pos (by omega), getElem!_pos Y i g1, getElem!_pos X i g2, getElem!_pos _ q q1, getElem!_pos _ q q2] at this
 exact this
def _root_.Go.Proofs.YtdnmkenamgfjoaaGreat.arbb.DevS.rot (D : DevS) (a : Nat) (b : UInt8) : DevS := { D with data := D.data.set a (D.data[a]! ^^^ b) }
theorem strF_64 (A : ArB) (V : DevS) (a k : Nat) (ha : a ≤ 2) (hk : k < A.S) (h : Heap) (K : ArK h A V) : ∀ x ∈ strF A V a k, x.length = 64 := fun x hx => by
 obtain ⟨i, hi, rfl⟩ := List.mem_map.1 hx
 refine secF_len K.du ?_
 have := (secN_lt K.rt ha hk (List.mem_range.1 hi)).1
 have := K.sz
 omega
end Go.Proofs.YtdnmkenamgfjoaaGreat.arbk

