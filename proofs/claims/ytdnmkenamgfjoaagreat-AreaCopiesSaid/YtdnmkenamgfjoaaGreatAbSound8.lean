/-
 Ab: append.
-/
import Derived.Test.YtdnmkenamgfjoaaGreatAbSound7
set_option linter.unusedSimpArgs false
set_option linter.unusedVariables false
namespace Go.Ab
set_option linter.unusedSectionVars false
variable [Inhabited TabBox]
open Go.RowKit
structure AppInfo (P : Program) (e : TypeId) (esz bytes : Nat) (z : List Value) (i : TypeInfo) (zv : Value) : Prop where
 info : P.info? e = some i
 zero : i.zero = some zv
 cells : zv.cells = z.toArray
 flat : z.all flat1 = true
 size : i.size = esz
 zlen : z.length = esz
 bytes : i.bytes = bytes
inductive AppMode (P : Program) (ty : Array TypeId) (x : Value) (esz n : Nat) (new : Array Value) (w : World) : Prop where
 | of (ty : ∃ xT d,ty[1]? = some xT ∧ P.underlying xT = some d ∧ (∀ k,d ≠ .int k)) (len : ∀ w1,(Builtin.lenOf x).run P w1 = .ok n w1)
   (first : ∀ w1 : World,w1.heap = w.heap → (Builtin.firstCells esz n x).run P w1 = .ok new w1)
 | mk0 (xT sT e : TypeId) (k k' : IntKind) (l : Int) (i : TypeInfo) (zv : Value) (h1 : ty[1]? = some xT) (h2 : P.underlying xT = some (.int k)) (h3 : x = .int k' l) (h4 : IntKind.i64.wrap l = (n : Int))
   (h5 : ty[0]? = some sT) (h6 : P.underlying sT = some (.slice e)) (h7 : P.info? e = some i) (h8 : i.zero = some zv) (h9 : n * i.bytes ≤ 2 ^ 48) (h10 : new = if n * esz = 0 then #[] else Builtin.zeroCells zv.cells n)
section
variable {P : Program}
theorem app_inplace {ty : Array TypeId} {t sT e : TypeId} {args : Array Value} {base : Option Addr} {sLen sCap n esz bytes : Nat} {x zv : Value} {i : TypeInfo} {z : List Value} {new : Array Value} {w w' : World}
  (hty : ty[0]? = some sT) (hu : P.underlying sT = some (.slice e)) (h0 : args[0]? = some (.slice base sLen sCap)) (h1 : args[1]? = some x) (I : AppInfo P e esz bytes z i zv) (M : AppMode P ty x esz n new w)
  (hle : sLen + n ≤ sCap) (hst : match base with | some a => (storeCells (a.add (sLen * esz)) new.toList).run P w = .ok () w' | none => w' = w) :
  (Builtin.append_ ty t args).run P w = .ok (.slice base (sLen + n) sCap) w' := by
 have hs : (sizeOf e).run P w = .ok esz w := by simp [sizeOf,typeInfo,I.info,I.size]
 rcases M with ⟨⟨xT, d, ht, hd, hni⟩, hl, hf⟩ | ⟨xT, sT', e', k, k', l, i', zv', ht, hd, hx, hw, hty', hu', hi', hz', hbb, hnw⟩
 ·have hud := run_und hd w
  cases d <;> first | exact absurd rfl (hni _) | skip
  all_goals
   simp only [Builtin.append_,hty,h0,h1,Sem.run_bind,run_und hu,Result.andThen_ok,hs,ht,hud,Sem.run_pure,Bool.false_eq_true,if_false,hl,if_pos hle,Bool.not_false,if_true,hf w rfl]
   cases base with
   | none => dsimp only at hst; subst hst; rfl
   | some a => dsimp only at hst; simp only [Sem.run_bind,hst,Result.andThen_ok,Sem.run_pure]
 ·have hud := run_und hd w
  rw [hty] at hty'; cases hty'
  rw [hu] at hu'; cases hu'
  rw [I.info] at hi'; cases hi'
  rw [I.zero] at hz'; cases hz'
  have hti : (typeInfo e).run P w = .ok i w := by simp [typeInfo,I.info]
  have hzr : (zeroValue e).run P w = .ok zv w := by simp [zeroValue,typeInfo,I.info,I.zero]
  have n0 : ¬ ((n : Int) < 0) := by omega
  have n1 : ¬ ((n : Int) * (i.bytes : Int) > 2 ^ 48) := by
   have : ((n * i.bytes : Nat) : Int) ≤ ((2 ^ 48 : Nat) : Int) := Int.ofNat_le.2 hbb
   rw [Int.natCast_mul] at this; simpa using this
  subst hx
  simp only [Builtin.append_,hty,h0,h1,Sem.run_bind,run_und hu,Result.andThen_ok,hs,ht,hud,Sem.run_pure,if_true,asInt,asIntOf,hw,if_neg n0,hti,if_neg n1,Int.toNat_natCast,if_pos hle,Bool.not_true,Bool.false_eq_true,if_false]
  have hap : ∀ {α : Type} (K : Array Value → World → Result α),((if n * esz = 0 then pure #[] else do pure (Builtin.zeroCells (← zeroValue e).cells n) : Sem (Array Value)).run P w).andThen K = K new w := fun K => by
   rw [hnw]
   by_cases q : n * esz = 0
   ·rw [if_pos q,if_pos q]; rfl
   ·rw [if_neg q,if_neg q]; simp only [Sem.run_bind,hzr,Result.andThen_ok,Sem.run_pure]
  rw [hap]
  cases base with
  | none => dsimp only at hst; subst hst; rfl
  | some a => dsimp only at hst; simp only [Sem.run_bind,hst,Result.andThen_ok,Sem.run_pure]
theorem app_grow {ty : Array TypeId} {t sT e : TypeId} {args : Array Value} {base : Option Addr} {sLen sCap n esz bytes : Nat} {x zv : Value} {i : TypeInfo} {z : List Value} {new old : Array Value} {w : World}
  (hty : ty[0]? = some sT) (hu : P.underlying sT = some (.slice e)) (h0 : args[0]? = some (.slice base sLen sCap)) (h1 : args[1]? = some x) (I : AppInfo P e esz bytes z i zv) (M : AppMode P ty x esz n new w)
  (hgt : sCap < sLen + n) (hsmall : (sLen + n) * (bytes + 1) ≤ 1099511627776) (hold : ∀ w1 : World,w1.heap = w.heap → (Builtin.firstCells esz sLen (.slice base sLen sCap)).run P w1 = .ok old w1) :
  (Builtin.append_ ty t args).run P w = .ok (.slice (some ⟨w.heap.size,0,none⟩) (sLen + n) (grownCap w (sLen + n) sCap e))
    (w.drew.alloc (.cells (old ++ new ++ Builtin.zeroCells zv.cells (grownCap w (sLen + n) sCap e - (sLen + n))) e)) := by
 have hs : (sizeOf e).run P w = .ok esz w := by simp [sizeOf,typeInfo,I.info,I.size]
 have hz : (zeroValue e).run P w.drew = .ok zv w.drew := by simp [zeroValue,typeInfo,I.info,I.zero]
 have hi : (typeInfo e).run P w = .ok i w := by simp [typeInfo,I.info]
 have hid : (typeInfo e).run P w.drew = .ok i w.drew := by simp [typeInfo,I.info]
 have hn : ¬ (sLen + n ≤ sCap) := by omega
 have hmul : (sLen + n) * bytes ≤ (sLen + n) * (bytes + 1) := Nat.mul_le_mul_left _ (by omega)
 have h1le : sLen + n ≤ (sLen + n) * (bytes + 1) := Nat.le_mul_of_pos_right _ (by omega)
 have h48 : ¬ (Builtin.nextslicecap (sLen + n) sCap * i.bytes > 2 ^ 48) := by
  have := growslice_fits (bytes := bytes) hgt (by omega)
  rw [I.bytes]; omega
 have fo := hold w.drew rfl
 rcases M with ⟨⟨xT, d, ht, hd, hni⟩, hl, hf⟩ | ⟨xT, sT', e', k, k', l, i', zv', ht, hd, hx, hw, hty', hu', hi', hz', hbb, hnw⟩
 ·have hud := run_und hd w
  have h63 : ¬ (((sLen + n : Nat) : Int) > IntKind.i64.max ∧ (false = true ∨ i.bytes = 0)) := by rw [IntKind.max_i64]; omega
  have ff := hf w.drew rfl
  cases d <;> first | exact absurd rfl (hni _) | skip
  all_goals
   simp only [Builtin.append_,hty,h0,h1,Sem.run_bind,run_und hu,Result.andThen_ok,hs,ht,hud,Sem.run_pure,Bool.false_eq_true,if_false,hl,if_neg hn,Bool.not_false,if_true,Sem.run_ite,hi]
   simp only [Bool.false_eq_true] at h63
   rw [if_neg h63,if_neg h48]
   simp only [run_choose,Question.forced,Bool.false_eq_true,if_false,Result.andThen_ok,Sem.run_bind,World.drew_eq,hid,run_askRoom,fo,ff,hz,newRow,run_newObj,Sem.run_pure,World.alloc_eq,World.size_drew]
   rfl
 ·have hud := run_und hd w
  rw [hty] at hty'; cases hty'
  rw [hu] at hu'; cases hu'
  rw [I.info] at hi'; cases hi'
  rw [I.zero] at hz'; cases hz'
  have h63 : ¬ (((sLen + n : Nat) : Int) > IntKind.i64.max ∧ (True ∨ i.bytes = 0)) := by rw [IntKind.max_i64]; omega
  have n0 : ¬ ((n : Int) < 0) := by omega
  have n1 : ¬ ((n : Int) * (i.bytes : Int) > 2 ^ 48) := by
   have : ((n * i.bytes : Nat) : Int) ≤ ((2 ^ 48 : Nat) : Int) := Int.ofNat_le.2 hbb
   rw [Int.natCast_mul] at this; simpa using this
  subst hx
  simp only [Builtin.append_,hty,h0,h1,Sem.run_bind,run_und hu,Result.andThen_ok,hs,ht,hud,Sem.run_pure,if_true,asInt,asIntOf,hw,if_neg n0,hi,if_neg n1,Int.toNat_natCast,if_neg hn,Bool.not_true,Bool.false_eq_true,if_false,Sem.run_ite]
  rw [if_neg h63,if_neg h48]
  by_cases q : n * esz = 0
  ·rw [if_pos q] at hnw
   subst hnw
   simp only [run_choose,Question.forced,Bool.false_eq_true,if_false,Result.andThen_ok,Sem.run_bind,World.drew_eq,hid,run_askRoom,fo,if_pos q,hz,newRow,run_newObj,Sem.run_pure,World.alloc_eq,World.size_drew]
   rfl
  ·rw [if_neg q] at hnw
   subst hnw
   simp only [run_choose,Question.forced,Bool.false_eq_true,if_false,Result.andThen_ok,Sem.run_bind,World.drew_eq,hid,run_askRoom,fo,if_neg q,hz,newRow,run_newObj,Sem.run_pure,World.alloc_eq,World.size_drew]
   rfl
end
end Go.Ab
