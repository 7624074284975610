/-
 Ab: memory that is made and written.
-/
import Derived.Test.YtdnmkenamgfjoaaGreatAbSound5
import Derived.Laws.Append
import Derived.Laws.AppendOwn
set_option linter.unusedSimpArgs false
set_option linter.unusedVariables false
namespace Go.Ab
set_option linter.unusedSectionVars false
variable [Inhabited TabBox]
open Go.RowKit
theorem toArray_getD (L : List Value) (j : Nat) (d : Value) : L.toArray.getD j d = L.getD j d := by
 by_cases h : j < L.length
 ·simp [Array.getD,List.getD,h]
 ·simp [Array.getD,List.getD,h,List.getElem?_eq_none (Nat.le_of_not_lt h)]
theorem toList_getD (A : Array Value) (j : Nat) (d : Value) : A.toList.getD j d = A.getD j d := by
 rw [← toArray_getD]
theorem getD_append3 (A B C : List Value) (j : Nat) : (A ++ B ++ C).getD j unk = if j < A.length then A.getD j unk else if j < A.length + B.length then B.getD (j - A.length) unk else C.getD (j - A.length - B.length) unk := by
 simp only [List.getD]
 by_cases h1 : j < A.length
 ·rw [if_pos h1,List.append_assoc,List.getElem?_append_left h1]
 ·rw [if_neg h1]
  by_cases h2 : j < A.length + B.length
  ·rw [if_pos h2,List.getElem?_append_left (by simpa using h2),List.getElem?_append_right (by omega)]
  ·rw [if_neg h2,List.getElem?_append_right (by simp; omega)]
   simp [Nat.sub_add_eq]
theorem getD_take (n j : Nat) (L : List Value) (h : j < n) : (L.take n).getD j unk = L.getD j unk := by simp [List.getD,List.getElem?_take,h]
theorem getD_drop (n j : Nat) (L : List Value) : (L.drop n).getD j unk = L.getD (n + j) unk := by simp [List.getD,List.getElem?_drop]
theorem one_of_mem {L : List Value} (h : ∀ v ∈ L,v.oneCell' = true) (j : Nat) (hj : j < L.length) : (L.getD j unk).oneCell' = true := by
 have := h _ (List.getElem_mem hj)
 simpa [List.getD,hj] using this
theorem mem_of_one {A : Array Value} (h : ∀ i,i < A.size → (A.getD i unk).oneCell' = true) : ∀ v ∈ A.toList,v.oneCell' = true := by
 intro v hv
 obtain ⟨i,hi,rfl⟩ := List.mem_iff_getElem.1 hv
 have := h i (by simpa using hi)
 simp at hi
 simpa [Array.getD,hi] using this
def CsRel (μ : Mu) (c : List Value) (cc : Array Value) : Prop := c.length = cc.size ∧ (∀ i,i < c.length → VRel μ (c.getD i unk) (cc.getD i unk)) ∧ ∀ i,i < cc.size → (cc.getD i unk).oneCell' = true
theorem CsRel.mono' {μ μ' : Mu} (h : ∀ b mi,μ b = some mi → μ' b = some mi) {c : List Value} {cc : Array Value} (r : CsRel μ c cc) : CsRel μ' c cc := ⟨r.1,fun i hi => (r.2.1 i hi).mono' h,r.2.2⟩
theorem mcells_rel {μ : Mu} {v v' : Value} {c : List Value} (h : mcells v = some c) (r : VRel μ v v') : CsRel μ c v'.cells := by
 unfold mcells at h
 split at h
 ·cases h
  obtain ⟨cs', rfl, hl, hr, h1⟩ := r.agg_inv
  show CsRel μ _ cs'
  refine ⟨by simpa using hl,fun i hi => ?_,h1⟩
  have := hr i (by simpa using hi)
  simp at hi
  simpa [List.getD,Array.getD,hi] using this
 ·cases h
 ·cases h
 ·rename_i h1 h2 h3
  cases h
  have hc : v'.cells = #[v'] := by
   cases r with
   | cell1 ho => cases v' <;> first | rfl | cases ho
   | _ => first | rfl | exact (h1 _ rfl).elim | exact (h2 _ rfl).elim
  have h1' : v'.oneCell' = true := by cases r <;> first | rfl | assumption | exact (h1 _ rfl).elim | exact (h2 _ rfl).elim | exact (h3 _ rfl).elim
  rw [hc]
  refine ⟨rfl,fun i hi => ?_,fun i hi => ?_⟩
  ·have : i = 0 := by simpa using hi
   subst this
   simpa using r
  ·have : i = 0 := by simpa using hi
   subst this
   simpa using h1'
theorem CsRel.crel {μ : Mu} {c : List Value} {cc : Array Value} (r : CsRel μ c cc) (cb esz : Nat) (m : BMode := .ex) (hm : m.isLoose = false := by rfl) : CRel μ ⟨cb,0,c.length,cc.size,esz,false⟩ c m esz cc (0,0) :=
 ⟨by simp [r.1],fun i hi => by simpa using r.2.1 i hi,fun i hi => by rw [Nat.zero_add]; exact r.2.2 i (by rw [← r.1]; exact hi),rfl,rfl,fun _ i _ => by omega,by simp [hm],rfl⟩
theorem St.newRow {B n0 N : Nat} {μ0 : Mu} {w0 : World} {f : AF} {h : Heap} {a : Act} {w : World} {μ : Mu} (s : St B n0 N μ0 w0 f h a w μ) {c : List Value} {cc : Array Value} (r : CsRel μ c cc) (e : TypeId) (esz : Nat) :
  ∃ μ', (∀ b mi, μ b = some mi → μ' b = some mi) ∧ μ' h.n = some ⟨w.heap.size, 0, c.length, cc.size, esz, false⟩ ∧ St B n0 N μ0 w0 f (h.push (.cells c .ex esz)) a (w.alloc (.cells cc e)) μ' := by
 refine ⟨μ.ext h.n ⟨w.heap.size,0,c.length,cc.size,esz,false⟩,s.ext_mono _,Mu.ext_same _ _ _,?_⟩
 refine s.push (obj := .cells cc e) rfl ⟨rfl,rfl,rfl⟩ rfl ?_
 exact ⟨cc,e,_,rfl,(r.mono' (s.ext_mono _)).crel _ _,trivial⟩
theorem St.newRowT {B n0 N : Nat} {μ0 : Mu} {w0 : World} {f : AF} {h : Heap} {a : Act} {w : World} {μ : Mu} (s : St B n0 N μ0 w0 f h a w μ) {c : List Value} {cc : Array Value} (r : CsRel μ c cc) (e : TypeId) (esz : Nat) :
  ∃ μ', (∀ b mi, μ b = some mi → μ' b = some mi) ∧ μ' h.n = some ⟨w.heap.size, 0, c.length, cc.size, esz, false⟩ ∧ St B n0 N μ0 w0 f (h.push (.cells c (.exT e) esz)) a (w.alloc (.cells cc e)) μ' := by
 refine ⟨μ.ext h.n ⟨w.heap.size,0,c.length,cc.size,esz,false⟩,s.ext_mono _,Mu.ext_same _ _ _,?_⟩
 refine s.push (obj := .cells cc e) rfl ⟨rfl,rfl,rfl⟩ rfl ?_
 exact ⟨cc,e,_,rfl,(r.mono' (s.ext_mono _)).crel _ _ (.exT e),rfl,rfl,by show cc.size = c.length; exact r.1.symm⟩
theorem csrel_flat {μ : Mu} {z : List Value} (h : z.all flat1 = true) : CsRel μ z z.toArray :=
 ⟨by simp,fun i hi => by
  have := List.all_eq_true.1 h z[i] (by simp)
  simpa [List.getD,Array.getD,hi] using VRel.flat1 this,fun i hi => by
  simp at hi
  have := List.all_eq_true.1 h z[i] (by simp)
  simpa [Array.getD,hi] using flat1_one this⟩
theorem zOf_spec {P : Program} {t : TypeId} {z : List Value} (h : zOf P t = some z) : ∃ i v,P.info? t = some i ∧ i.zero = some v ∧ v.cells = z.toArray ∧ z.all flat1 = true ∧ i.size = z.length := by
 unfold zOf at h
 cases hi : P.info? t with
 | none => rw [hi] at h; cases h
 | some i =>
   rw [hi] at h
   cases hz : i.zero with
   | none => simp [hz] at h
   | some v =>
     simp only [Option.bind_some,hz] at h
     split at h
     ·rename_i hc
      cases h
      refine ⟨i,v,rfl,hz,?_,hc.1,?_⟩
      ·cases v <;> simp [acells,Value.cells]
      ·have := hc.2
       simp only [szOf,hi,Option.map_some,Option.some.injEq] at this
       exact this.symm
     ·cases h
section
variable {P : Program} {N : Nat} {o : Oper}
theorem alloc_runs {t : TypeId} {z : List Value} (ho : o.op = .alloc t) (hz : zOf P t = some z) : OpRuns P N o (.alloc z) := by
 intro n0 B μ0 w0 f h a w μ s v h' e
 simp only [aop] at e
 cases e
 obtain ⟨i,zv,hi,hzv,hc,hall,hs⟩ := zOf_spec hz
 obtain ⟨μ', _, hm, s'⟩ := s.newRow (csrel_flat hall) t 1
 refine ⟨.pointer (some ⟨w.heap.size, 0, none⟩), _, μ', .inl ?_, ?_, s'⟩
 ·simp [execOp,ho,Instr.alloc,zeroValue,typeInfo,hi,hzv,newVar,newRow,hc]
 ·have := VRel.ptr (o := 0) hm
  simpa using this
theorem box_runs {t : TypeId} {x : Operand} (ho : o.op = .box t x) (okx : okOpd N x = true) : OpRuns P N o (.box x) := by
 intro n0 B μ0 w0 f h a w μ s v h' e
 simp only [aop,Option.map_eq_some_iff,Prod.mk.injEq] at e
 obtain ⟨c,hc,rfl,rfl⟩ := e
 have r := mcells_rel hc (opd_rel s.fr okx)
 obtain ⟨μ', _, hm, s'⟩ := s.newRow r t 1
 refine ⟨.pointer (some ⟨w.heap.size, 0, none⟩), _, μ', .inl ?_, ?_, s'⟩
 ·simp [execOp,ho,Instr.box,newVar,newRow]
 ·have := VRel.ptr (o := 0) hm
  simpa using this
theorem mkMap_runs {t : TypeId} (ho : o.op = .makeMap t none) : OpRuns P N o .mkMap := by
 intro n0 B μ0 w0 f h a w μ s v h' e
 simp only [aop] at e
 cases e
 have hm := Mu.ext_same μ h.n ⟨w.heap.size,0,0,0,0,false⟩
 refine ⟨.map (some w.heap.size),w.alloc (.map #[] 0),_,.inl ?_,?_,s.push (obj := .map #[] 0) (mi := ⟨w.heap.size,0,0,0,0,false⟩) rfl ⟨rfl,rfl,rfl⟩ rfl ?_⟩
 ·simp [execOp,ho,Instr.makeMap]
 ·exact .map hm
 ·exact ⟨#[],rfl,rfl,fun i hi => absurd hi (by simp)⟩
theorem setFold (cs : List Value) : ∀ (k off : Nat) (acc : Array Value),off + k + cs.length ≤ acc.size →
  ((cs.zipIdx k).foldl (fun (a : Array Value) (x : Value × Nat) => a.setIfInBounds (off + x.2) x.1) acc).toList = acc.toList.take (off + k) ++ cs ++ acc.toList.drop (off + k + cs.length) := by
 induction cs with
 | nil => intro k off acc h; simp
 | cons v r ih =>
   intro k off acc h
   simp only [List.length_cons] at h
   rw [List.zipIdx_cons,List.foldl_cons,ih (k + 1) off _ (by simp; omega)]
   simp only [Array.toList_setIfInBounds,List.length_cons]
   have hlt : off + k < acc.toList.length := by simp; omega
   have e1 : (acc.toList.set (off + k) v).take (off + (k + 1)) = acc.toList.take (off + k) ++ [v] := by
    rw [show off + (k + 1) = (off + k) + 1 by omega,List.take_succ_eq_append_getElem (by simpa using hlt)]
    rw [List.take_set,List.set_eq_of_length_le (by simp; omega)]
    simp
   have e2 : (acc.toList.set (off + k) v).drop (off + (k + 1) + r.length) = acc.toList.drop (off + k + (r.length + 1)) := by
    rw [List.drop_set]
    rw [if_pos (by omega),show off + (k + 1) + r.length = off + k + (r.length + 1) by omega]
   rw [e1,e2]
   simp
theorem fill_rel {μ : Mu} (place : Nat → Option (Nat × Nat)) {f : AF} {a : Act} (fr : FRel N μ f a.tmps) : ∀ (ps : List (Nat × Operand)) (l : List (Nat × Nat × Operand)) (z c : List Value) (zz : Array Value),
  partsOf place ps = some l → (∀ x ∈ l,okOpd N x.2.2 = true) → CsRel μ z zz → afill z (l.map fun (o,s,x) => (o,s,aev f x)) = some c →
  ∃ cc,Instr.fill place zz (ps.map fun (i,x) => (i,a.eval x)) = some cc ∧ CsRel μ c cc
 | [],l,z,c,zz,hp,_,r,h => by
   cases hp; cases h; exact ⟨zz,rfl,r⟩
 | (i,x) :: ps,l,z,c,zz,hp,ok,r,h => by
   simp only [partsOf] at hp
   split at hp
   ·rename_i off sz l' hpl hl'
    cases hp
    simp only [List.map_cons,afill] at h
    split at h
    ·rename_i vs hvs
     split at h
     ·rename_i hc
      have rx := mcells_rel hvs (opd_rel fr (ok (off,sz,x) (by simp)))
      have hsz : (a.eval x).cells.size = sz := by rw [← rx.1]; exact hc.1
      have hle : off + (a.eval x).cells.size ≤ zz.size := by rw [hsz,← r.1]; exact hc.2
      simp only [List.map_cons,Instr.fill,hpl]
      rw [if_neg (by simp [hsz]; omega)]
      have hfold := setFold (a.eval x).cells.toList 0 off zz (by simpa using hle)
      have hz : ((a.eval x).cells.zipIdx.foldl (fun cs (p : Value × Nat) => cs.setIfInBounds (off + p.2) p.1) zz) = (zz.toList.take off ++ (a.eval x).cells.toList ++ zz.toList.drop (off + (a.eval x).cells.size)).toArray := by
       apply Array.ext'
       rw [← Array.foldl_toList,Array.toList_zipIdx,hfold]
       simp
      rw [hz]
      refine fill_rel place fr ps l' _ c _ hl' (fun y hy => ok y (by simp [hy])) ?_ h
      have hlz := r.1
      refine ⟨?_,fun j hj => ?_,fun j hj => ?_⟩
      ·simp; omega
      ·have l1 : (z.take off).length = off := by simp; omega
       have l2 : (zz.toList.take off).length = off := by simp; omega
       have l3 : vs.length = (a.eval x).cells.toList.length := by simpa using rx.1
       have hj' : j < off + vs.length + (z.length - (off + sz)) := by simp only [List.length_append,l1,List.length_drop] at hj; omega
       rw [toArray_getD,getD_append3,getD_append3,l1,l2,← l3]
       split
       ·rename_i hj1
        rw [getD_take _ _ _ hj1,getD_take _ _ _ hj1,toList_getD zz]
        exact r.2.1 j (by omega)
       ·split
        ·rw [toList_getD (a.eval x).cells]
         exact rx.2.1 _ (by omega)
        ·rename_i hj1 hj2
         rw [getD_drop,getD_drop,toList_getD zz,show off + sz + (j - off - vs.length) = j by omega,show off + (a.eval x).cells.size + (j - off - vs.length) = j by omega]
         exact r.2.1 j (by omega)
      ·rw [toArray_getD]
       refine one_of_mem (fun v hv => ?_) j (by simpa using hj)
       simp only [List.append_assoc,List.mem_append] at hv
       rcases hv with hv | hv | hv
       ·exact mem_of_one r.2.2 v (List.mem_of_mem_take hv)
       ·exact mem_of_one rx.2.2 v hv
       ·exact mem_of_one r.2.2 v (List.mem_of_mem_drop hv)
     ·cases h
    ·cases h
   ·cases hp
theorem CsRel.agg {μ : Mu} {c : List Value} {cc : Array Value} (r : CsRel μ c cc) : VRel μ (.agg c.toArray) (.agg cc) :=
 .agg (by simpa using r.1) (fun i hi => by
  have := r.2.1 i (by simpa using hi)
  simp at hi
  simpa [List.getD,Array.getD,hi] using this) r.2.2
theorem build_runs {t : TypeId} {ps : Array (Nat × Operand)} {z : List Value} {l : List (Nat × Nat × Operand)} (ho : o.op = .build t ps) (hz : zOf P t = some z)
  (hl : (∃ fs,P.underlying t = some (.struct fs) ∧ (∀ fl ∈ fs.toList,(szOf P fl.type).isSome = true) ∧ partsOf (fun i => (fs[i]?).bind fun fl => (szOf P fl.type).map fun s => (fl.offset,s)) ps.toList = some l) ∨
   (∃ n e s,P.underlying t = some (.array n e) ∧ szOf P e = some s ∧ partsOf (fun i => some (i * s,s)) ps.toList = some l)) (ok : ∀ x ∈ l,okOpd N x.2.2 = true) : OpRuns P N o (.build z l) :=
 .pure fun B μ f h a w hr fr v h' e => by
  simp only [aop,Option.map_eq_some_iff,Prod.mk.injEq] at e
  obtain ⟨c,hc,rfl,rfl⟩ := e
  obtain ⟨i,zv,hi,hzv,hcz,hall,hs⟩ := zOf_spec hz
  have hzero : (zeroValue t).run P w = .ok zv w := by simp [zeroValue,typeInfo,hi,hzv]
  rcases hl with ⟨fs, hu, hsz, hp⟩ | ⟨n, e, s, hu, hs', hp⟩
  ·obtain ⟨cc,hf,r⟩ := fill_rel _ fr ps.toList l z c z.toArray hp ok (csrel_flat hall) hc
   refine ⟨rfl,.agg cc,?_,r.agg⟩
   have hmap : (fs.mapM fun fl => do pure (fl.offset,← sizeOf fl.type) : Sem (Array (Nat × Nat))).run P w = .ok (fs.map fun fl => (fl.offset,(szOf P fl.type).getD 0)) w := by
    rw [Array.mapM_eq_mapM_toList]
    have : ∀ (l : List Field),(∀ fl ∈ l,(szOf P fl.type).isSome = true) → (l.mapM fun fl => do pure (fl.offset,← sizeOf fl.type) : Sem (List (Nat × Nat))).run P w = .ok (l.map fun fl => (fl.offset,(szOf P fl.type).getD 0)) w := by
     intro l
     induction l with
     | nil => intro _; rfl
     | cons fl r ih =>
       intro hh
       obtain ⟨s,hs⟩ := Option.isSome_iff_exists.1 (hh fl (by simp))
       rw [List.mapM_cons]
       simp only [Sem.run_bind,run_sizeOf' hs,Result.andThen_ok,Sem.run_pure,ih (fun x hx => hh x (by simp [hx])),List.map_cons,hs,Option.getD_some]
    simp only [Sem.run_map,this fs.toList hsz,Result.andThen_ok]
    congr 1
    apply Array.ext'
    simp
   have hplace : (fun i : Nat => (fs.map fun fl => (fl.offset,(szOf P fl.type).getD 0))[i]?) = (fun i => (fs[i]?).bind fun fl => (szOf P fl.type).map fun s => (fl.offset,s)) := by
    funext i
    rw [Array.getElem?_map]
    cases hf : fs[i]? with
    | none => rfl
    | some fl =>
      have hmem : fl ∈ fs.toList := by
       have := Array.mem_of_getElem? hf
       simpa using this
      obtain ⟨s,hs⟩ := Option.isSome_iff_exists.1 (hsz fl hmem)
      simp [hs]
   simp only [execOp,ho,Instr.build,Sem.run_bind,hzero,Result.andThen_ok,run_und hu,hmap,hplace,hcz,Array.toList_map,hf,Sem.run_pure]
  ·obtain ⟨cc,hf,r⟩ := fill_rel _ fr ps.toList l z c z.toArray hp ok (csrel_flat hall) hc
   refine ⟨rfl,.agg cc,?_,r.agg⟩
   simp only [execOp, ho, Instr.build, Sem.run_bind, hzero, Result.andThen_ok, run_und hu, run_sizeOf' hs', hcz, Array.toList_map, hf, Sem.run_pure]
end
end Go.Ab
