/-
 Ab: the operations that touch no memory,or read it alone.
-/
import Derived.Test.YtdnmkenamgfjoaaGreatAbCompile
import Derived.Test.YtdnmkenamgfjoaaGreatAbState
import Derived.Laws.Entries
set_option linter.unusedSimpArgs false
set_option linter.unusedVariables false
namespace Go.Ab
set_option linter.unusedSectionVars false
variable [Inhabited TabBox]
open Go.RowKit
theorem VRel.flat1 {μ : Mu} {v : Value} (h : flat1 v = true) : VRel μ v v := by
 unfold Ab.flat1 at h
 split at h
 ·exact .bool
 ·exact .int
 ·exact .string
 ·exact .pnil
 ·exact .snil
 ·exact .mnil
 ·exact .nilFunc
 ·exact .nilIface
 ·cases h
theorem flat1_one {v : Value} (h : flat1 v = true) : v.oneCell' = true := by
 unfold Ab.flat1 at h
 split at h <;> first | rfl | cases h
theorem VRel.flat {μ : Mu} {v : Value} (h : flat v = true) : VRel μ v v := by
 unfold Ab.flat at h
 split at h
 ·rename_i cs
  have hall : ∀ i,i < cs.size → Ab.flat1 (cs.getD i unk) = true := by
   intro i hi
   have := List.all_eq_true.1 h (cs.getD i unk) (by simp [Array.getD,hi])
   exact this
  exact .agg rfl (fun i hi => .flat1 (hall i hi)) (fun i hi => flat1_one (hall i hi))
 ·exact .flat1 h
theorem opd_rel {N : Nat} {μ : Mu} {f : AF} {a : Act} (r : FRel N μ f a.tmps) {x : Operand} (ok : okOpd N x = true) : VRel μ (aev f x) (a.eval x) := by
 cases x with
 | tmp t => exact r.2 t (by simpa [okOpd] using ok)
 | const v => exact .flat (show Ab.flat v = true from ok)
 | global g => exact .glob
 | func g => exact .func rfl (fun i hi => absurd hi (by simp)) rfl (fun i hi => absurd hi (by simp))
def Does (P : Program) (o : Oper) (a : Act) (w : World) (v' : Value) (w' : World) : Prop :=
 (execOp a.eval o).run P w = .ok (.value v') w' ∨ ((execOp a.eval o).run P w = .ok .skip w' ∧ v' = undef)
def OpOk (P : Program) (N : Nat) (o : Oper) (k : AK) : Prop :=
 ∀ n0 B μ0 w0 f h a w μ,St B n0 N μ0 w0 f h a w μ → ∀ K : Value → Heap → Prop,aopK P k f h K → ∀ (next : Act → World → Prop) Q,
  (∀ v v' h' w' μ', K v h' → VRel μ' v v' → St B n0 N μ0 w0 f h' a w' μ' → next (a.put o.dst v') w') → o.wp P a w next Q
def OpRuns (P : Program) (N : Nat) (o : Oper) (k : AK) : Prop :=
 ∀ n0 B μ0 w0 f h a w μ, St B n0 N μ0 w0 f h a w μ → ∀ v h', aop k f h = some (v, h') →
  ∃ v' w' μ', Does P o a w v' w' ∧ VRel μ' v v' ∧ St B n0 N μ0 w0 f h' a w' μ'
theorem OpOk.ofRuns {P : Program} {N : Nat} {o : Oper} {k : AK} (hk : ∀ f h K, aopK P k f h K → ∃ v h', aop k f h = some (v, h') ∧ K v h') (r : OpRuns P N o k) : OpOk P N o k := by
 intro n0 B μ0 w0 f h a w μ s K hK next Q hn
 obtain ⟨v, h', e, kv⟩ := hk f h K hK
 obtain ⟨v', w', μ', d, rv, s'⟩ := r n0 B μ0 w0 f h a w μ s v h' e
 have hnext := hn v v' h' w' μ' kv rv s'
 unfold Oper.wp
 rcases d with d | ⟨d,rfl⟩
 ·rw [d]; exact hnext
 ·rw [d]; exact hnext
theorem OpRuns.pure {P : Program} {N : Nat} {o : Oper} {k : AK}
  (r : ∀ B μ f h (a : Act) w, HRel B μ h w → FRel N μ f a.tmps → ∀ v h', aop k f h = some (v, h') → h' = h ∧ ∃ v', (execOp a.eval o).run P w = .ok (.value v') w ∧ VRel μ v v') : OpRuns P N o k := by
 intro n0 B μ0 w0 f h a w μ s v h' e
 obtain ⟨rfl, v', d, rv⟩ := r B μ f h a w s.rel s.fr v h' e
 exact ⟨v', w, μ, .inl d, rv, s⟩
theorem run_und {P : Program} {t : TypeId} {d : TypeDesc} (h : P.underlying t = some d) (w : World) : (underlying t).run P w = .ok d w := run_underlying h w
theorem run_sizeOf' {P : Program} {t : TypeId} {s : Nat} (h : szOf P t = some s) (w : World) : (sizeOf t).run P w = .ok s w := by
 unfold szOf at h
 obtain ⟨i,hi,rfl⟩ := Option.map_eq_some_iff.1 h
 simp [sizeOf,typeInfo,hi]
section
variable {μ : Mu}
theorem VRel.int_inv {k : IntKind} {n : Int} {v' : Value} (r : VRel μ (.int k n) v') : v' = .int k n := by cases r; rfl
theorem VRel.bool_inv {b : Bool} {v' : Value} (r : VRel μ (.bool b) v') : v' = .bool b := by cases r; rfl
theorem VRel.string_inv {s : ByteArray} {v' : Value} (r : VRel μ (.string s) v') : v' = .string s := by cases r; rfl
theorem VRel.ptr_inv {a : Addr} {v' : Value} (r : VRel μ (.pointer (some a)) v') : ∃ mi,μ a.block = some mi ∧ a.spot = none ∧ v' = .pointer (some ⟨mi.cb,mi.dl + a.off,none⟩) := by
 cases r with | ptr e => exact ⟨_,e,rfl,rfl⟩
theorem VRel.pnil_inv {v' : Value} (r : VRel μ (.pointer none) v') : v' = .pointer none := by cases r; rfl
theorem VRel.snil_inv {l c : Nat} {v' : Value} (r : VRel μ (.slice none l c) v') : v' = .slice none l c := by cases r; rfl
theorem VRel.map_inv {b : Nat} {v' : Value} (r : VRel μ (.map (some b)) v') : ∃ mi,μ b = some mi ∧ v' = .map (some mi.cb) := by cases r with | map e => exact ⟨_,e,rfl⟩
theorem VRel.mnil_inv {v' : Value} (r : VRel μ (.map none) v') : v' = .map none := by cases r; rfl
theorem VRel.agg_inv {cs : Array Value} {v' : Value} (r : VRel μ (.agg cs) v') : ∃ cs', v' = .agg cs' ∧ cs.size = cs'.size ∧ (∀ i, i < cs.size → VRel μ (cs.getD i unk) (cs'.getD i unk)) ∧ (∀ i, i < cs'.size → (cs'.getD i unk).oneCell' = true) := by
 cases r with | agg a b c => exact ⟨_,rfl,a,b,c⟩
theorem VRel.tuple_inv {cs : Array Value} {v' : Value} (r : VRel μ (.tuple cs) v') : ∃ cs', v' = .tuple cs' ∧ cs.size = cs'.size ∧ (∀ i, i < cs.size → VRel μ (cs.getD i unk) (cs'.getD i unk)) := by
 cases r with | tuple a b => exact ⟨_,rfl,a,b⟩
theorem VRel.func_inv {fn : Fn} {x y : Array Value} {v' : Value} (r : VRel μ (.func fn x y) v') : ∃ x' y', v' = .func fn x' y' ∧ ARel μ x x' ∧ ARel μ y y' := by
 cases r with | func a b c d => exact ⟨_,_,rfl,⟨a,b⟩,⟨c,d⟩⟩
theorem VRel.iface_inv {t : TypeId} {v v' : Value} (r : VRel μ (.iface t v) v') : ∃ u,v' = .iface t u ∧ VRel μ v u := by cases r with | iface h => exact ⟨_,rfl,h⟩
theorem VRel.slice_inv {a : Addr} {l c : Nat} {v' : Value} (r : VRel μ (.slice (some a) l c) v') :
  ∃ a' c', v' = .slice (some a') l c' ∧ ((∃ mi, μ a.block = some mi ∧ a.spot = none ∧ a' = ⟨mi.cb, mi.dl + a.off, none⟩ ∧
   (c' = c ∨ (mi.loose = true ∧ a.off + c * mi.esz = mi.asz ∧ c ≤ c' ∧ mi.dl + a.off + c' * mi.esz ≤ mi.csz))) ∨ (l = 0 ∧ c = 0 ∧ c' = 0 ∧ ∃ mi,μ a.block = some mi)) := by
 cases r with
 | slice e h => exact ⟨_,_,rfl,.inl ⟨_,e,rfl,rfl,h⟩⟩
 | sempty e => exact ⟨_,_,rfl,.inr ⟨rfl,rfl,rfl,_,e⟩⟩
end
section
variable {P : Program} {N : Nat} {o : Oper}
theorem mv_runs {x : Operand} (ho : o.op = .move x ∨ o.op = .assign x) (ok : okOpd N x = true) : OpRuns P N o (.mv x) :=
 .pure fun B μ f h a w hr fr v h' e => by
  simp only [aop,Option.some.injEq,Prod.mk.injEq] at e
  obtain ⟨rfl,rfl⟩ := e
  refine ⟨rfl,a.eval x,?_,opd_rel fr ok⟩
  rcases ho with ho | ho <;> simp [execOp,ho]
theorem pick_runs {c x y : Operand} (ho : o.op = .pick c x y) (okc : okOpd N c = true) (okx : okOpd N x = true) (oky : okOpd N y = true) : OpRuns P N o (.pick c x y) :=
 .pure fun B μ f h a w hr fr v h' e => by
  simp only [aop] at e
  have rc := opd_rel fr okc
  split at e
  ·rename_i t ht
   rw [ht] at rc
   cases e
   refine ⟨rfl,if t then a.eval x else a.eval y,?_,?_⟩
   ·simp [execOp,ho,rc.bool_inv,asBool]
   ·cases t
    ·exact opd_rel fr oky
    ·exact opd_rel fr okx
  ·cases e
theorem intBits_run {op : BinOp} (hop : op = .and ∨ op = .or ∨ op = .xor ∨ op = .andNot) (k : IntKind) (x y : Int) : Op.intBits op k x y = pure (.int k (abits op k x y)) := by
 rcases hop with rfl | rfl | rfl | rfl <;> rfl
theorem toList_eq (s : ByteArray) : s.toList = s.data.toList := ByteArray.toList_eq s
theorem ba_beq (a b : ByteArray) : (a.toList == b.toList) = decide (a = b) := by
 rw [Bool.eq_iff_iff]
 simp only [beq_iff_eq,decide_eq_true_eq]
 constructor
 ·intro h
  cases a; cases b
  simp only [toList_eq] at h
  simpa using h
 ·intro h; rw [h]
theorem bin_runs {op : BinOp} {t t' : TypeId} {x y : Operand} (ho : o.op = .binOp op t x y t') (okx : okOpd N x = true) (oky : okOpd N y = true) : OpRuns P N o (.bin op x y) :=
 .pure fun B μ f h a w hr fr v h' e => by
  simp only [aop,Option.map_eq_some_iff,Prod.mk.injEq] at e
  obtain ⟨u,hu,rfl,rfl⟩ := e
  have rx := opd_rel fr okx
  have ry := opd_rel fr oky
  refine ⟨rfl,u,?_,?_⟩
  ·simp only [execOp,ho]
   generalize aev f x = vx at hu rx
   generalize aev f y = vy at hu ry
   unfold abin at hu
   split at hu
   all_goals first
    | (cases hu; done)
    | (rw [VRel.int_inv rx, VRel.int_inv ry]; simp only [eqGuard_at_int]
       first
        | (split at hu
           ·rename_i hc; cases hu
            first
             | (subst hc; simp [binOp,Op.intArith,Op.intCmp,intBits_run]; done)
             | (subst hc; simp [binOp,Op.intCmp]; exact Bool.eq_iff_iff.2 (by simp); done)
             | (subst hc; simp [binOp,Op.intCmp,bne,beq_eq_decide]; done)
             | (obtain ⟨rfl,hb⟩ := hc; simp [binOp,Op.intDiv,hb]; done)
             | (have hc' : ¬ (_ : Int) < 0 := Int.not_lt.2 hc; simp [binOp,Op.shift,hc']; done)
           ·cases hu))
    | (rw [VRel.string_inv rx, VRel.string_inv ry]; simp only [eqGuard_at_string]
       first
        | (cases hu; simp [binOp,Op.stringOp,ba_beq,strLess]; done)
        | (split at hu
           ·rename_i hc; cases hu
            simp only [binOp,Op.stringOp,IntKind.max_i64]
            rw [if_neg (by omega)]
            simp only [pure_bind,Sem.run_bind,Sem.run_pure,Result.andThen_ok]
           ·cases hu))
  ·have : Ab.flat1 u = true := by
    unfold abin at hu
    split at hu <;> first | (cases hu; rfl) | (split at hu <;> first | (cases hu; rfl) | cases hu) | cases hu
   exact .flat1 this
end
end Go.Ab
