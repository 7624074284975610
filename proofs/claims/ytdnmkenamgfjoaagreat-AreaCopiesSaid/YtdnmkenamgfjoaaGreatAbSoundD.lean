/-
 Ab: regions whose order is drawn: every order,op by op,over abstract states.
-/
import Derived.Test.YtdnmkenamgfjoaaGreatAbSound11
import Derived.Orders
set_option linter.unusedSimpArgs false
set_option linter.unusedVariables false
namespace Go.Ab
set_option linter.unusedSectionVars false
variable [Inhabited TabBox]
open Go.RowKit
variable {P : Program} {N : Nat}
def awpAny (P : Program) (ops : Array Oper) (aos : Array AOper) (K : AF → Heap → Prop) : Nat → Array Bool → AF → Heap → Prop
 | 0,L,f,h => Region.ready .any ops L = [] ∧ K f h
 | n + 1,L,f,h => (Region.ready .any ops L = [] → K f h) ∧ ∀ i ∈ Region.ready .any ops L,∀ ao,aos[i]? = some ao → awpL P [ao] f h (awpAny P ops aos K n (L.setIfInBounds i true))
theorem oper_ok {B n0 : Nat} {μ0 : Mu} {w0 : World} {ops : Array Oper} {Q : Exit → Act → World → Prop} {o : Oper} {ao : AOper} (ok : OperOk P N ops o ao) {i : Nat} (hi : ops[i]? = some o)
  {f : AF} {h : Heap} {a : Act} {w : World} {μ : Mu} {K : AF → Heap → Prop} {K' : Act → World → Prop} (s : St B n0 N μ0 w0 f h a w μ) (hk : awpL P [ao] f h K)
  (hq : ∀ f h a w μ,St B n0 N μ0 w0 f h a w μ → K f h → K' a w) : wpOp P ops Q i K' a w := by
 obtain ⟨hop,hdst,hlt,hg⟩ := ok
 obtain ⟨d,g,k⟩ := ao
 dsimp only at hop hdst hg
 subst hdst
 have undef_ok : VRel μ (.tuple #[]) undef := .tuple rfl (fun i hi => absurd hi (by simp))
 unfold wpOp
 rw [hi]
 dsimp only
 cases hog : o.guard with
 | none =>
   rw [hog] at hg
   cases g with
   | some _ => exact hg.elim
   | none =>
     have hw : Region.wanted o (yielded ops a.tmps) = true := by simp only [Region.wanted,hog]
     rw [if_pos hw]
     simp only [awpL] at hk
     exact .inl (hop n0 B μ0 w0 f h a w μ s _ hk K' _ fun v v' h' w' μ' kv rv s' => hq _ _ _ _ _ (s'.put hlt rv) kv)
 | some jw =>
   obtain ⟨j,want⟩ := jw
   rw [hog] at hg
   cases g with
   | none => exact hg.elim
   | some tw =>
     obtain ⟨t,want'⟩ := tw
     obtain ⟨hj,rfl,htN⟩ := hg
     have hy : yielded ops a.tmps j = match a.tmps[t]? with | some (.bool b) => some b | _ => none := by
      unfold yielded
      rw [hj]; rfl
     have hts : a.tmps[t]? = some (a.tmps.getD t undef) := getD_eq_of_lt (by rw [s.fr.1]; exact htN) _
     rw [hts] at hy
     have rt := s.fr.2 t htN
     simp only [awpL] at hk
     split at hk
     ·rename_i b hb
      have hsb := hb
      rw [hb] at rt
      rw [rt.bool_inv] at hy
      simp only at hy
      by_cases hbw : b = want
      ·subst hbw
       have hw : Region.wanted o (yielded ops a.tmps) = true := by
        simp only [Region.wanted,hog,hy]; simp
       rw [if_pos hw]
       have hk1 := hk.1 rfl
       exact .inl (hop n0 B μ0 w0 _ h a w μ (s.set hsb) _ hk1 K' _ fun v v' h' w' μ' kv rv s' => hq _ _ _ _ _ (s'.put hlt rv) kv)
      ·have hbn : b = !want := bool_ne hbw
       subst hbn
       have hw : ¬ (Region.wanted o (yielded ops a.tmps) = true) := by
        simp only [Region.wanted,hog,hy]; cases want <;> decide
       rw [if_neg hw]
       have hk2 := hk.2 rfl
       exact hq _ _ _ _ _ ((s.set hsb).put hlt undef_ok) hk2
     ·rename_i tv hb
      rw [hb] at rt
      obtain ⟨cs', hv, _⟩ := rt.tuple_inv
      rw [hv] at hy
      simp only at hy
      have hw : ¬ (Region.wanted o (yielded ops a.tmps) = true) := by
       simp only [Region.wanted,hog,hy]; simp
      rw [if_neg hw]
      exact hq _ _ _ _ _ (s.put hlt undef_ok) hk
     ·exact hk.elim
theorem any_ok {B n0 : Nat} {μ0 : Mu} {w0 : World} {ops : Array Oper} {aos : Array AOper} {Q : Exit → Act → World → Prop} {K : AF → Heap → Prop}
  (ok : ∀ (i : Nat) o,ops[i]? = some o → ∃ ao,aos[i]? = some ao ∧ OperOk P N ops o ao) (hq : ∀ f h a w μ,St B n0 N μ0 w0 f h a w μ → K f h → Q .normal a w) :
  ∀ (n : Nat) {L : Array Bool} {f : AF} {h : Heap} {a : Act} {w : World} {μ : Mu},St B n0 N μ0 w0 f h a w μ → awpAny P ops aos K n L f h → wpAny P .any ops Q n L a w
 | 0,L,f,h,a,w,μ,s,hh => ⟨hh.1,hq _ _ _ _ _ s hh.2⟩
 | n + 1,L,f,h,a,w,μ,s,hh => ⟨fun e => hq _ _ _ _ _ s (hh.1 e),fun i hi => by
   cases ho : ops[i]? with
   | none => unfold wpOp; rw [ho]; exfalso; simp [Region.ready,ho] at hi
   | some o =>
     obtain ⟨ao,ha,oo⟩ := ok i o ho
     exact oper_ok oo ho s (hh.2 i hi ao ha) fun f h a w μ s k => any_ok ok hq n s k⟩
theorem region_any_ok {B n0 : Nat} {μ0 : Mu} {w0 : World} {ops : Array Oper} {aos : Array AOper} {Q : Exit → Act → World → Prop} {K : AF → Heap → Prop} {id : Nat}
  (hm : P.follows .mixedOrders = true) (ok : ∀ (i : Nat) o,ops[i]? = some o → ∃ ao,aos[i]? = some ao ∧ OperOk P N ops o ao)
  {f : AF} {h : Heap} {a : Act} {w : World} {μ : Mu} (s : St B n0 N μ0 w0 f h a w μ) (hh : awpAny P ops aos K ops.size (Array.replicate ops.size false) f h)
  (hq : ∀ f h a w μ,St B n0 N μ0 w0 f h a w μ → K f h → Q .normal a w) : (Code.region id ops true).wp P Q a w :=
 wp_region_any hm (any_ok ok hq _ (w := { w with drawn := w.drawn + 1 }) (by exact ⟨⟨s.rel.base,s.rel.dom,s.rel.obj,s.rel.own,s.rel.glob⟩,s.fr,s.nod,⟨s.bel.os,s.bel.tape,s.bel.output,s.bel.size,s.bel.block⟩,s.ext,s.le⟩) hh)
theorem aev_congr {f g : AF} {x : Operand} (h : ∀ t,x = .tmp t → f t = g t) : aev f x = aev g x := by
 cases x <;> first | rfl | exact h _ rfl
theorem opt_congr {f g : AF} {o : Option Operand} (h : ∀ x,o = some x → aev f x = aev g x) : o.map (aev f) = o.map (aev g) := by
 cases o with
 | none => rfl
 | some x => simp only [Option.map_some,h x rfl]
theorem aop_congr {k : AK} {f g : AF} {h : Heap} (he : ∀ x ∈ k.opds,aev f x = aev g x) : aop k f h = aop k g h := by
 cases k
 case build z ps => 
  have : (ps.map fun (o,s,x) => (o,s,aev f x)) = ps.map fun (o,s,x) => (o,s,aev g x) := List.map_congr_left fun p hp => by
   obtain ⟨a,b,c⟩ := p
   simp only [he c (by simp only [AK.opds]; exact List.mem_map.2 ⟨_,hp,rfl⟩)]
  simp only [aop,this]
 case buildS n z ps => 
  have : (ps.map fun (o,s,x) => (o,s,aev f x)) = ps.map fun (o,s,x) => (o,s,aev g x) := List.map_congr_left fun p hp => by
   obtain ⟨a,b,c⟩ := p
   simp only [he c (by simp only [AK.opds]; exact List.mem_map.2 ⟨_,hp,rfl⟩)]
  simp only [aop,this]
 case mkF fn a b =>
  have e1 : a.map (aev f) = a.map (aev g) := List.map_congr_left fun x hx => he x (by simp [AK.opds,hx])
  have e2 : b.map (aev f) = b.map (aev g) := List.map_congr_left fun x hx => he x (by simp [AK.opds,hx])
  simp only [aop,e1,e2]
 case slS x lo hi =>
  have e0 := he x (by simp [AK.opds])
  have e1 : lo.map (aev f) = lo.map (aev g) := opt_congr fun x hx => he x (by simp [AK.opds,hx])
  have e2 : hi.map (aev f) = hi.map (aev g) := opt_congr fun x hx => he x (by simp [AK.opds,hx])
  simp only [aop,e0,e1,e2]
 case slV n x lo hi mx =>
  have e0 := he x (by simp [AK.opds])
  have e1 : lo.map (aev f) = lo.map (aev g) := opt_congr fun x hx => he x (by simp [AK.opds,hx])
  have e2 : hi.map (aev f) = hi.map (aev g) := opt_congr fun x hx => he x (by simp [AK.opds,hx])
  have e3 : mx.map (aev f) = mx.map (aev g) := opt_congr fun x hx => he x (by simp [AK.opds,hx])
  simp only [aop,e0,e1,e2,e3]
 case slA n m x lo hi mx =>
  have e0 := he x (by simp [AK.opds])
  have e1 : lo.map (aev f) = lo.map (aev g) := opt_congr fun x hx => he x (by simp [AK.opds,hx])
  have e2 : hi.map (aev f) = hi.map (aev g) := opt_congr fun x hx => he x (by simp [AK.opds,hx])
  have e3 : mx.map (aev f) = mx.map (aev g) := opt_congr fun x hx => he x (by simp [AK.opds,hx])
  simp only [aop,e0,e1,e2,e3]
 case mx xs =>
  cases xs with
  | nil => rfl
  | cons y ys =>
    have e0 := he y (by simp [AK.opds])
    have e1 : ys.map (aev f) = ys.map (aev g) := List.map_congr_left fun x hx => he x (by simp [AK.opds,hx])
    simp only [aop,List.map_cons,e0,e1]
 case mn xs =>
  cases xs with
  | nil => rfl
  | cons y ys =>
    have e0 := he y (by simp [AK.opds])
    have e1 : ys.map (aev f) = ys.map (aev g) := List.map_congr_left fun x hx => he x (by simp [AK.opds,hx])
    simp only [aop,List.map_cons,e0,e1]
 case lenS b x => cases b <;> simp only [aop,he x (by simp [AK.opds])]
 all_goals simp [AK.opds] at he
 all_goals first | rfl | simp [aop,he] 
theorem aopK_congr {P : Program} {k : AK} {f g : AF} {h : Heap} {K : Value → Heap → Prop} (he : ∀ x ∈ k.opds,aev f x = aev g x) : aopK P k f h K ↔ aopK P k g h K := by
 have hc := aop_congr (h := h) he
 cases k
 case call c args =>
  have e1 : args.map (aev f) = args.map (aev g) := List.map_congr_left fun x hx => he x (by simp [AK.opds,hx])
  simp only [aopK,e1]
 case callv x args =>
  have e0 := he x (by simp [AK.opds])
  have e1 : args.map (aev f) = args.map (aev g) := List.map_congr_left fun x hx => he x (by simp [AK.opds,hx])
  simp only [aopK,e0,e1]
 case nextM it =>
  have e0 := he it (by simp [AK.opds])
  simp only [aopK,e0]
 all_goals simp only [aopK,hc]
end Go.Ab
