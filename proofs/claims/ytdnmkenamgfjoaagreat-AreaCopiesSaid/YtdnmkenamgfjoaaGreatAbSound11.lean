/-
 Ab: calls; regions; the turned code says what the model's does.
-/
import Derived.Test.YtdnmkenamgfjoaaGreatAbSoundG
set_option linter.unusedSimpArgs false
set_option linter.unusedVariables false
namespace Go.Ab
set_option linter.unusedSectionVars false
variable [Inhabited TabBox]
open Go.RowKit
section
variable {P : Program} {N : Nat} {o : Oper}
theorem run_callFunc {g : FuncId} (h : callOk P g = true) (args : Array Value) (w : World) : (callFunc g args).run P w = .ok (.enter g args) w := by
 unfold callOk at h
 cases hf : P.funcs[g]? with
 | none => rw [hf] at h; cases h
 | some fn =>
   rw [hf] at h
   dsimp only at h
   have h1 : ¬ fn.name = "runtime.NumGoroutine" := by
    have := (Bool.and_eq_true_iff.1 h).1
    simpa using this
   have h2 : ¬ fn.body = none := by
    have := (Bool.and_eq_true_iff.1 h).2
    intro hb; rw [hb] at this; cases this
   simp [callFunc,hf,h1,h2]
theorem FRel.grow {μ μ' : Mu} {f : AF} {t : Array Value} {n : Nat} (r : FRel N μ f t) (h : ∀ b,b < n → μ' b = μ b) (hd : ∀ b mi,μ b = some mi → b < n) : FRel N μ' f t :=
 ⟨r.1,fun i hi => (r.2 i hi).mono' fun b mi e => (h b (hd b mi e)).trans e⟩
theorem call_wp {B n0 : Nat} {μ0 : Mu} {w0 : World} {f : AF} {h : Heap} {a : Act} {w : World} {μ : Mu} (s : St B n0 N μ0 w0 f h a w μ) {g : FuncId} {args : List Value} {args' : Array Value} {K : Value → Heap → Prop}
  (hc : ACalls P g args h K) (ra : LRel μ args args') (hrun : (execOp a.eval o).run P w = .ok (.enter g args') w) {next : Act → World → Prop} {Q : Exit → Act → World → Prop}
  (hn : ∀ v v' h' w' μ', K v h' → VRel μ' v v' → St B n0 N μ0 w0 f h' a w' μ' → next (a.put o.dst v') w') : o.wp P a w next Q := by
 unfold Oper.wp
 rw [hrun]
 refine (hc B μ w args' s.rel ra).mono fun e w' ⟨v, v', h', μ', he, rv, hr, bel, ext, le, k⟩ => ?_
 subst he
 have hd : ∀ b mi,μ b = some mi → b < h.n := fun b mi e => (s.rel.dom b mi e).1
 exact hn v v' h' w' μ' k rv ⟨hr,s.fr.grow ext hd,s.nod,s.bel.trans bel,fun b hb => (ext b (Nat.lt_of_lt_of_le hb s.le)).trans (s.ext b hb),Nat.le_trans s.le le⟩
theorem call_ok {c : Call} {g : FuncId} (ho : o.op = .call c) (hcal : c.callee = .value (.func g)) (hok : callOk P g = true) (ok : c.args.toList.all (okOpd N) = true) : OpOk P N o (.call g c.args.toList) := by
 intro n0 B μ0 w0 f h a w μ s K hK next Q hn
 have ra := mapRel s.fr ok
 refine call_wp s hK ra ?_ hn
 simp only [execOp,ho,resolve,hcal,Act.eval,Deferred.ofValue,pure_bind,invoke]
 have : (callFunc g (#[] ++ Array.map a.eval c.args ++ #[])).run P w = .ok (.enter g (c.args.toList.map a.eval).toArray) w := by
  rw [run_callFunc hok]
  congr 2
  apply Array.ext'
  simp
 exact this
theorem callv_ok {c : Call} {x : Operand} (ho : o.op = .call c) (hcal : c.callee = .value x) (okx : okOpd N x = true) (ok : c.args.toList.all (okOpd N) = true) : OpOk P N o (.callv x c.args.toList) := by
 intro n0 B μ0 w0 f h a w μ s K hK next Q hn
 have rx := opd_rel s.fr okx
 have ra := mapRel s.fr ok
 simp only [aopK] at hK
 split at hK
 ·rename_i g first cap hx
  rw [hx] at rx
  obtain ⟨first', cap', hv, rf, rc⟩ := rx.func_inv
  obtain ⟨hg,hK⟩ := hK
  ·refine call_wp (args' := first' ++ (c.args.toList.map a.eval).toArray ++ cap') s hK ?_ ?_ hn
   ·refine ⟨by simp [rf.1,rc.1],fun i hi => ?_⟩
    have e1 : (first' ++ (c.args.toList.map a.eval).toArray ++ cap').getD i unk = (first'.toList ++ c.args.toList.map a.eval ++ cap'.toList).getD i unk := by rw [← toList_getD]; simp
    rw [e1,getD_append3,getD_append3]
    have l1 : first'.toList.length = first.toList.length := by simpa using rf.1.symm
    have l2 : (c.args.toList.map a.eval).length = (c.args.toList.map (aev f)).length := by simp
    rw [l1,l2]
    simp only [List.length_append] at hi
    split
    ·rw [toList_getD first,toList_getD first']; exact rf.2 i (by simpa using ‹_›)
    ·split
     ·have := ra.2 (i - first.toList.length) (by omega)
      rwa [toArray_getD] at this
     ·rw [toList_getD cap,toList_getD cap']
      have q1 : first.toList.length = first.size := by simp
      have q3 : cap.toList.length = cap.size := by simp
      exact rc.2 _ (by omega)
   ·simp only [execOp,ho,resolve,hcal,hv,Deferred.ofValue,pure_bind,invoke]
    have : (callFunc g (first' ++ Array.map a.eval c.args ++ cap')).run P w = .ok (.enter g (first' ++ (c.args.toList.map a.eval).toArray ++ cap')) w := by
     rw [run_callFunc hg]
     congr 2
     apply Array.ext'
     simp
    exact this
 ·exact hK.elim
theorem put_fr {μ : Mu} {f : AF} {a : Act} (fr : FRel N μ f a.tmps) {d : Option Nat} (hd : ∀ i,d = some i → i < N) {v v' : Value} (r : VRel μ v v') : FRel N μ (fput f d v) (a.put d v').tmps := by
 cases d with
 | none => exact fr
 | some d =>
   refine ⟨by simpa [Act.put] using fr.1,fun i hi => ?_⟩
   have hdN := hd d rfl
   have hsz := fr.1
   simp only [fput,Act.put]
   by_cases h : i = d
   ·subst h
    rw [if_pos rfl]
    simpa [Array.getD,show i < a.tmps.size by omega] using r
   ·rw [if_neg h]
    have := fr.2 i hi
    have e : (a.tmps.setIfInBounds d v').getD i undef = a.tmps.getD i undef := by
     simp only [Array.getD,Array.size_setIfInBounds]
     split
     ·simp only [Array.getInternal_eq_getElem]
      rw [Array.getElem_setIfInBounds_ne _ (by omega)]
     ·rfl
    rw [e]; exact this
theorem St.put {B n0 : Nat} {μ0 : Mu} {w0 : World} {f : AF} {h : Heap} {a : Act} {w : World} {μ : Mu} (s : St B n0 N μ0 w0 f h a w μ) {d : Option Nat} (hd : ∀ i,d = some i → i < N) {v v' : Value} (r : VRel μ v v') :
  St B n0 N μ0 w0 (fput f d v) h (a.put d v') w μ :=
 ⟨s.rel,put_fr s.fr hd r,by cases d <;> exact s.nod,s.bel,s.ext,s.le⟩
theorem St.set {B n0 : Nat} {μ0 : Mu} {w0 : World} {f : AF} {h : Heap} {a : Act} {w : World} {μ : Mu} (s : St B n0 N μ0 w0 f h a w μ) {t : Nat} {b : Bool} (hb : f t = .bool b) :
  St B n0 N μ0 w0 (fset f t (.bool b)) h a w μ := by
 have : fset f t (.bool b) = f := by
  funext i
  unfold fset
  split
  ·rename_i h; rw [h,hb]
  ·rfl
 rw [this]; exact s
theorem bool_ne {b c : Bool} (h : ¬ b = c) : b = !c := by revert h; revert b c; decide
structure OperOk (P : Program) (N : Nat) (ops : Array Oper) (o : Oper) (ao : AOper) : Prop where
 op : OpOk P N o ao.k
 dst : ao.dst = o.dst
 lt : ∀ i,o.dst = some i → i < N
 guard : match o.guard,ao.g with
  | none,none => True
  | some (j,want),some (t,want') => (ops[j]?).bind (·.dst) = some t ∧ want = want' ∧ t < N
  | _,_ => False
inductive OpersOk (P : Program) (N : Nat) (ops : Array Oper) : List Oper → List AOper → Prop
 | nil : OpersOk P N ops [] []
 | cons {o ao os aos} : OperOk P N ops o ao → OpersOk P N ops os aos → OpersOk P N ops (o :: os) (ao :: aos)
theorem region_ok {B n0 : Nat} {μ0 : Mu} {w0 : World} {ops : Array Oper} {Q : Exit → Act → World → Prop} {K : AF → Heap → Prop} {l : List Oper} {al : List AOper} (ok : OpersOk P N ops l al) :
  ∀ {f : AF} {h : Heap} {a : Act} {w : World} {μ : Mu},St B n0 N μ0 w0 f h a w μ → awpL P al f h K → (∀ f h a w μ,St B n0 N μ0 w0 f h a w μ → K f h → Q .normal a w) → wpList P ops Q l a w := by
 induction ok with
 | nil => intro f h a w μ s hk hq; exact hq _ _ _ _ _ s hk
 | @cons o ao os aos hoo _ ih =>
   intro f h a w μ s hk hq
   obtain ⟨hop,hdst,hlt,hg⟩ := hoo
   obtain ⟨d,g,k⟩ := ao
   dsimp only at hop hdst hg
   subst hdst
   have undef_ok : VRel μ (.tuple #[]) undef := .tuple rfl (fun i hi => absurd hi (by simp))
   cases hog : o.guard with
   | none =>
     rw [hog] at hg
     cases g with
     | some _ => exact hg.elim
     | none =>
       refine wpList_plain hog fun K' hK' => ?_
       simp only [awpL] at hk
       exact hop n0 B μ0 w0 f h a w μ s _ hk K' _ fun v v' h' w' μ' kv rv s' => hK' _ _ (ih (s'.put hlt rv) kv hq)
   | some jw =>
     obtain ⟨j,want⟩ := jw
     rw [hog] at hg
     cases g with
     | none => exact hg.elim
     | some tw =>
       obtain ⟨t,want'⟩ := tw
       obtain ⟨hj,rfl,htN⟩ := hg
       have hy : yielded ops a.tmps j = match a.tmps[t]? with | some (.bool b) => some b | _ => none := by
        unfold yielded
        rw [hj]; rfl
       have hts : a.tmps[t]? = some (a.tmps.getD t undef) := getD_eq_of_lt (by rw [s.fr.1]; exact htN) _
       rw [hts] at hy
       have rt := s.fr.2 t htN
       refine wpList_step fun K' hK' => ?_
       simp only [awpL] at hk
       split at hk
       ·rename_i b hb
        have hsb := hb
        rw [hb] at rt
        rw [rt.bool_inv] at hy
        simp only at hy
        by_cases hbw : b = want
        ·subst hbw
         have hw : Region.wanted o (yielded ops a.tmps) = true := by
          simp only [Region.wanted,hog,hy]; simp
         rw [if_pos hw]
         have hk1 := hk.1 rfl
         exact hop n0 B μ0 w0 _ h a w μ (s.set hsb) _ hk1 K' _ fun v v' h' w' μ' kv rv s' => hK' _ _ (ih (s'.put hlt rv) kv hq)
        ·have hbn : b = !want := bool_ne hbw
         subst hbn
         have hw : ¬ (Region.wanted o (yielded ops a.tmps) = true) := by
          simp only [Region.wanted,hog,hy]; cases want <;> decide
         rw [if_neg hw]
         have hk2 := hk.2 rfl
         exact hK' _ _ (ih ((s.set hsb).put hlt undef_ok) hk2 hq)
       ·rename_i tv hb
        rw [hb] at rt
        obtain ⟨cs', hv, _⟩ := rt.tuple_inv
        rw [hv] at hy
        simp only at hy
        have hw : ¬ (Region.wanted o (yielded ops a.tmps) = true) := by
         simp only [Region.wanted,hog,hy]; simp
        rw [if_neg hw]
        exact hK' _ _ (ih (s.put hlt undef_ok) hk hq)
       ·exact hk.elim
end
end Go.Ab
