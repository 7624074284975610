/-
  Ab: append.
-/
import Derived.Test.YtofoihlcjmghfaaGreatDoorAbSound7
set_option linter.unusedSimpArgs false
set_option linter.unusedVariables false
namespace Go.Ab
set_option linter.unusedSectionVars false
variable [Inhabited TabBox]
open Go.RowKit

structure AppInfo (P : Program) (e : TypeId) (esz bytes : Nat) (z : List Value) (i : TypeInfo) (zv : Value) : Prop where
  info : P.info? e = some i
  zero : i.zero = some zv
  cells : zv.cells = z.toArray
  flat : z.all flat1 = true
  size : i.size = esz
  zlen : z.length = esz
  bytes : i.bytes = bytes

structure AppMode (P : Program) (ty : Array TypeId) (x : Value) (esz n : Nat) (new : Array Value) (w : World) : Prop where
  ty : ∃ xT d, ty[1]? = some xT ∧ P.underlying xT = some d ∧ (∀ k, d ≠ .int k)
  len : ∀ w1, (Builtin.lenOf x).run P w1 = .ok n w1
  first : ∀ w1 : World, w1.heap = w.heap → (Builtin.firstCells esz n x).run P w1 = .ok new w1

section
variable {P : Program}

theorem app_inplace {ty : Array TypeId} {t sT e : TypeId} {args : Array Value} {base : Option Addr} {sLen sCap n esz bytes : Nat} {x zv : Value} {i : TypeInfo} {z : List Value} {new : Array Value} {w w' : World}
    (hty : ty[0]? = some sT) (hu : P.underlying sT = some (.slice e)) (h0 : args[0]? = some (.slice base sLen sCap)) (h1 : args[1]? = some x) (I : AppInfo P e esz bytes z i zv) (M : AppMode P ty x esz n new w)
    (hle : sLen + n ≤ sCap) (hst : match base with | some a => (storeCells (a.add (sLen * esz)) new.toList).run P w = .ok () w' | none => w' = w) :
    (Builtin.append_ ty t args).run P w = .ok (.slice base (sLen + n) sCap) w' := by
  have hs : (sizeOf e).run P w = .ok esz w := by simp [sizeOf, typeInfo, I.info, I.size]
  obtain ⟨⟨xT, d, ht, hd, hni⟩, hl, hf⟩ := M
  have hud := run_und hd w
  cases d <;> first | exact absurd rfl (hni _) | skip
  all_goals
    simp only [Builtin.append_, hty, h0, h1, Sem.run_bind, run_und hu, Result.andThen_ok, hs, ht, hud, Sem.run_pure, Bool.false_eq_true, if_false, hl, if_pos hle, Bool.not_false, if_true, hf w rfl]
    cases base with
    | none => dsimp only at hst; subst hst; rfl
    | some a => dsimp only at hst; simp only [Sem.run_bind, hst, Result.andThen_ok, Sem.run_pure]

theorem app_grow {ty : Array TypeId} {t sT e : TypeId} {args : Array Value} {base : Option Addr} {sLen sCap n esz bytes : Nat} {x zv : Value} {i : TypeInfo} {z : List Value} {new old : Array Value} {w : World}
    (hty : ty[0]? = some sT) (hu : P.underlying sT = some (.slice e)) (h0 : args[0]? = some (.slice base sLen sCap)) (h1 : args[1]? = some x) (I : AppInfo P e esz bytes z i zv) (M : AppMode P ty x esz n new w)
    (hgt : sCap < sLen + n) (hsmall : (sLen + n) * (bytes + 1) ≤ 1099511627776) (hold : ∀ w1 : World, w1.heap = w.heap → (Builtin.firstCells esz sLen (.slice base sLen sCap)).run P w1 = .ok old w1) :
    (Builtin.append_ ty t args).run P w = .ok (.slice (some ⟨w.heap.size, 0, none⟩) (sLen + n) (grownCap w (sLen + n) sCap e))
        (w.drew.alloc (.cells (old ++ new ++ Builtin.zeroCells zv.cells (grownCap w (sLen + n) sCap e - (sLen + n))) e)) := by
  have hs : (sizeOf e).run P w = .ok esz w := by simp [sizeOf, typeInfo, I.info, I.size]
  have hz : (zeroValue e).run P w.drew = .ok zv w.drew := by simp [zeroValue, typeInfo, I.info, I.zero]
  have hi : (typeInfo e).run P w = .ok i w := by simp [typeInfo, I.info]
  have hid : (typeInfo e).run P w.drew = .ok i w.drew := by simp [typeInfo, I.info]
  obtain ⟨⟨xT, d, ht, hd, hni⟩, hl, hf⟩ := M
  have hud := run_und hd w
  have hn : ¬ (sLen + n ≤ sCap) := by omega
  have hmul : (sLen + n) * bytes ≤ (sLen + n) * (bytes + 1) := Nat.mul_le_mul_left _ (by omega)
  have h1le : sLen + n ≤ (sLen + n) * (bytes + 1) := Nat.le_mul_of_pos_right _ (by omega)
  have h63 : ¬ (((sLen + n : Nat) : Int) > IntKind.i64.max ∧ (false = true ∨ i.bytes = 0)) := by rw [IntKind.max_i64]; omega
  have h48 : ¬ (Builtin.nextslicecap (sLen + n) sCap * i.bytes > 2 ^ 48) := by
    have := growslice_fits (bytes := bytes) hgt (by omega)
    rw [I.bytes]; omega
  have ff := hf w.drew rfl
  have fo := hold w.drew rfl
  cases d <;> first | exact absurd rfl (hni _) | skip
  all_goals
    simp only [Builtin.append_, hty, h0, h1, Sem.run_bind, run_und hu, Result.andThen_ok, hs, ht, hud, Sem.run_pure, Bool.false_eq_true, if_false, hl, if_neg hn, Bool.not_false, if_true, Sem.run_ite, hi]
    simp only [Bool.false_eq_true] at h63
    rw [if_neg h63, if_neg h48]
    simp only [run_choose, Question.forced, Bool.false_eq_true, if_false, Result.andThen_ok, Sem.run_bind, World.drew_eq, hid, run_askRoom, fo, ff, hz, newRow, run_newObj, Sem.run_pure, World.alloc_eq, World.size_drew]
    rfl
end
end Go.Ab

