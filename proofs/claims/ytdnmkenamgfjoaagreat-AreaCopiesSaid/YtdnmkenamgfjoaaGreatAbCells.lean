/-
 Ab: functions whose results lie in cells.
-/
import Derived.Test.YtdnmkenamgfjoaaGreatAbSound12
set_option linter.unusedSimpArgs false
set_option linter.unusedVariables false
namespace Go.Ab
set_option linter.unusedSectionVars false
variable [Inhabited TabBox]
open Go.RowKit
inductive RV where
 | t (n : Nat)
 | c (a : Nat) (s : Option Nat)
def resVars (P : Program) (N : Nat) : List ResultVar → Option (List RV)
 | [] => some []
 | .tmp t :: r => if t < N then (resVars P N r).map (.t t :: ·) else none
 | .cell a ty :: r => match aggOf P ty with
   | some s => if a < N then (resVars P N r).map (.c a s :: ·) else none
   | none => none
def compR (P : Program) (fn : Func) : Option (AC × List RV) :=
 match fn.body,resVars P fn.ntmps fn.results.toList with
 | some c,some rs => (compC P fn.ntmps c).map fun ac => (ac,rs)
 | _,_ => none
def tupV : List Value → Value
 | [v] => v
 | vs => .tuple vs.toArray
def resA : List RV → AF → Heap → List Value → (Value → Heap → Prop) → Prop
 | [],f,h,acc,R => R (tupV acc.reverse) h
 | .t t :: r,f,h,acc,R => resA r f h (f t :: acc) R
 | .c a s :: r,f,h,acc,R => match aop (.load s (.tmp a)) f h with
   | some (v,_) => resA r f h (v :: acc) R
   | none => False
section
variable {P : Program} {N B : Nat} {μ : Mu} {f : AF} {h : Heap} {w : World} {tmps : Array Value}
theorem load_run {t : TypeId} {s : Option Nat} {a : Nat} (hs : aggOf P t = some s) (fr : FRel N μ f tmps) (ha : a < N) (hr : HRel B μ h w) {v : Value} {h' : Heap} (e : aop (.load s (.tmp a)) f h = some (v,h')) :
  ∃ v', (asAddr (tmps.getD a undef) >>= loadVar t).run P w = .ok v' w ∧ VRel μ v v' := by
 have rx := fr.2 a ha
 simp only [aop,aev] at e
 split at e
 ·rename_i ad hx
  rw [hx] at rx
  split at e
  ·rename_i c m es hc
   obtain ⟨mi,hmi,hsp,hv⟩ := rx.ptr_inv
   rw [if_pos hsp] at e
   obtain ⟨mi', cc, ty, fz, hm', hb, hw, r⟩ := hr.cells hc
   rw [hmi] at hm'; cases hm'
   obtain ⟨hag,hsz⟩ := run_isAgg' hs w
   have r1 := r.1
   simp only [Option.map_eq_some_iff,Prod.mk.injEq] at e
   obtain ⟨u,hu,rfl,rfl⟩ := e
   obtain ⟨v', hp, rv, hle⟩ := apart_rel r1 r.2.1 r.2.2.1 hu
   refine ⟨v', ?_, rv⟩
   simp only [hv,asAddr,pure_bind,loadVar,Sem.run_bind,hag,Result.andThen_ok]
   cases s with
   | none =>
     simp only [cpart] at hp
     have hcell : w.cell? ⟨mi.cb,mi.dl + ad.off,none⟩ = some v' := by simpa [World.cell?,hw] using hp
     simp only [Option.isSome_none,Bool.false_eq_true,if_false,run_load,hcell]
   | some n =>
     simp only [cpart] at hp
     subst hp
     have := hle n rfl
     simp only [Option.isSome_some,if_true,Sem.run_bind,run_sizeOf' (hsz n rfl),Result.andThen_ok]
     rw [run_loadCells' hw (by omega)]
     rfl
  ·cases e
 ·rename_i k g o hx
  rw [hx] at rx
  split at e
  ·rename_i c hc
   obtain ⟨_,cc,ty,fz,hw,hle0,hcl⟩ := hr.glob g c hc
   have hv : tmps.getD a undef = .pointer (some ⟨g,o,none⟩) := by
    generalize tmps.getD a undef = X at rx
    cases rx; rfl
   obtain ⟨hag,hsz⟩ := run_isAgg' hs w
   simp only [Option.map_eq_some_iff,Prod.mk.injEq] at e
   obtain ⟨u,hu,rfl,rfl⟩ := e
   obtain ⟨v', hp, rv, hle⟩ := apart_rel (μ := μ) (c := c) (cc := cc) (d := 0) (by omega) (fun i hi => by rw [Nat.zero_add]; exact (hcl i hi).1 μ) (fun i hi => by rw [Nat.zero_add]; exact (hcl i hi).2) hu
   refine ⟨v', ?_, rv⟩
   simp only [hv,asAddr,pure_bind,loadVar,Sem.run_bind,hag,Result.andThen_ok]
   rw [Nat.zero_add] at hp
   cases s with
   | none =>
     simp only [cpart] at hp
     have hcell : w.cell? ⟨g,o,none⟩ = some v' := by simpa [World.cell?,hw] using hp
     simp only [Option.isSome_none,Bool.false_eq_true,if_false,run_load,hcell]
   | some n =>
     simp only [cpart] at hp
     subst hp
     have := hle n rfl
     simp only [Option.isSome_some,if_true,Sem.run_bind,run_sizeOf' (hsz n rfl),Result.andThen_ok]
     rw [run_loadCells' hw (by omega)]
     rfl
  ·cases e
 ·cases e
inductive VsRel (μ : Mu) : List Value → List Value → Prop where
 | nil : VsRel μ [] []
 | cons {v v' vs vs'} : VRel μ v v' → VsRel μ vs vs' → VsRel μ (v :: vs) (v' :: vs')
theorem VsRel.append {μ : Mu} {a a' b b' : List Value} (h1 : VsRel μ a a') (h2 : VsRel μ b b') : VsRel μ (a ++ b) (a' ++ b') := by
 induction h1 with
 | nil => exact h2
 | cons h _ ih => exact .cons h ih
theorem VsRel.reverse {μ : Mu} {a a' : List Value} (h : VsRel μ a a') : VsRel μ a.reverse a'.reverse := by
 induction h with
 | nil => exact .nil
 | cons h _ ih => simp only [List.reverse_cons]; exact ih.append (.cons h .nil)
theorem VsRel.get {μ : Mu} {a a' : List Value} (h : VsRel μ a a') : a.length = a'.length ∧ ∀ i,i < a.length → VRel μ (a.getD i unk) (a'.getD i unk) := by
 induction h with
 | nil => exact ⟨rfl,fun i hi => by simp at hi⟩
 | cons h _ ih =>
   refine ⟨by simp [ih.1],fun i hi => ?_⟩
   cases i with
   | zero => simpa using h
   | succ i => simpa using ih.2 i (by simpa using hi)
theorem VsRel.tup {μ : Mu} {a a' : List Value} (h : VsRel μ a a') : VRel μ (tupV a) (tupV a') := by
 have g := h.get
 have ht : VRel μ (.tuple a.toArray) (.tuple a'.toArray) := .tuple (by simpa using g.1) fun i hi => by
  have := g.2 i (by simpa using hi)
  rw [toArray_getD,toArray_getD]
  exact this
 match a, a', h with
 | [],[],_ => exact ht
 | [x],[y],.cons hh .nil => exact hh
 | _ :: _ :: _,_ :: _ :: _,_ => exact ht
theorem resA_run (fr : FRel N μ f tmps) (hr : HRel B μ h w) {R : Value → Heap → Prop} (g : ResultVar → Sem Value) (hg1 : ∀ t,g (.tmp t) = pure (tmps.getD t undef)) (hg2 : ∀ a t,g (.cell a t) = (asAddr (tmps.getD a undef) >>= loadVar t)) :
  ∀ {l : List ResultVar} {rs : List RV} {acc acc' : List Value},resVars P N l = some rs → resA rs f h acc R → VsRel μ acc acc' →
   ∃ vs vs', (l.mapM g).run P w = .ok vs' w ∧ VsRel μ (acc.reverse ++ vs) (acc'.reverse ++ vs') ∧ R (tupV (acc.reverse ++ vs)) h
 | [], rs, acc, acc', e, hh, ha => by
   cases e
   exact ⟨[],[],rfl,by simpa using ha.reverse,by rw [List.append_nil]; exact hh⟩
 | .tmp t :: l, rs, acc, acc', e, hh, ha => by
   simp only [resVars] at e
   split at e
   ·rename_i ht
    obtain ⟨rs', e', rfl⟩ := Option.map_eq_some_iff.1 e
    obtain ⟨vs, vs', h1, h2, h3⟩ := resA_run fr hr g hg1 hg2 e' hh (.cons (fr.2 t ht) ha)
    refine ⟨f t :: vs, tmps.getD t undef :: vs', ?_, by simpa using h2, by simpa using h3⟩
    rw [List.mapM_cons,hg1]
    simp only [Sem.run_bind,Sem.run_pure,Result.andThen_ok,h1]
   ·cases e
 | .cell a ty :: l, rs, acc, acc', e, hh, ha => by
   simp only [resVars] at e
   split at e
   ·rename_i s hs
    split at e
    ·rename_i hlt
     obtain ⟨rs', e', rfl⟩ := Option.map_eq_some_iff.1 e
     simp only [resA] at hh
     split at hh
     ·rename_i v h' hv
      obtain ⟨v', hrun, rv⟩ := load_run hs fr hlt hr hv
      obtain ⟨vs, vs', h1, h2, h3⟩ := resA_run fr hr g hg1 hg2 e' hh (.cons rv ha)
      refine ⟨v :: vs, v' :: vs', ?_, by simpa using h2, by simpa using h3⟩
      rw [List.mapM_cons,hg2]
      simp only [Sem.run_bind,Sem.run_pure] at hrun ⊢
      rw [hrun]
      simp only [Result.andThen_ok,h1]
     ·exact hh.elim
    ·cases e
   ·cases e
theorem resultsR_run {fn : Func} {rs : List RV} (fr : FRel N μ f tmps) (hr : HRel B μ h w) {R : Value → Heap → Prop} (e : resVars P N fn.results.toList = some rs) (hh : resA rs f h [] R) :
  ∃ v v', (results fn tmps).run P w = .ok v' w ∧ VRel μ v v' ∧ R v h := by
 unfold results
 rw [Array.mapM_eq_mapM_toList]
 simp only [Sem.run_bind,Sem.run_map]
 obtain ⟨vs, vs', h1, h2, h3⟩ := resA_run fr hr (fun
  | .tmp t => pure (tmps.getD t undef)
  | .cell a t => do loadVar t (← asAddr (tmps.getD a undef))) (fun _ => rfl) (fun _ _ => rfl) e hh .nil
 erw [h1]
 simp only [Result.andThen_ok,Sem.run_pure]
 simp only [List.reverse_nil,List.nil_append] at h2 h3
 refine ⟨_, tupV vs', ?_, h2.tup, h3⟩
 congr 1
 match vs' with
 | [] => simp [tupV]
 | [x] => simp [tupV]
 | x :: y :: r => simp [tupV]
def apostR (rs : List RV) (R : Value → Heap → Prop) : AQ
 | .normal,f,h => resA rs f h [] R
 | .ret,f,h => resA rs f h [] R
 | _,_,_ => False
theorem acalls_ofR (hm : P.follows .mixedOrders = true) {g : FuncId} {fn : Func} {ac : AC} {rs : List RV} (hf : P.funcs[g]? = some fn) (hc : compR P fn = some (ac,rs)) {args : List Value} {h : Heap} {R : Value → Heap → Prop} {N : Nat} (hN : fn.ntmps = N) (hn : args.length ≤ N)
  (hw : h.Closed → (∀ v ∈ args,VBelow h.n v) → awp P h.n ac (apostR rs R) (ainit args) h) : ACalls P g args h R := by
 subst hN
 refine ACalls.closed fun hcl => ACalls.below fun hbl => ?_
 have hw := hw hcl hbl
 unfold compR at hc
 split at hc
 ·rename_i c rs' hbody hres
  obtain ⟨ac', hac, e⟩ := Option.map_eq_some_iff.1 hc
  cases e
  intro B μ w args' rel la
  refine calls_of_wp hf hbody ?_
  have st : St B h.n fn.ntmps μ w (ainit args) h { tmps := args' ++ Array.replicate (fn.ntmps - args'.size) undef,defers := [] } w μ :=
   ⟨rel,ainit_rel la hn,rfl,Below.refl _ _,fun _ _ => rfl,Nat.le_refl _⟩
  refine wp_mono (compC_ok hm hac hw B μ w _ w μ st) fun e a' w' ⟨f', h', μ', s, q⟩ => ?_
  have fin : resA rs f' h' [] R → a'.defers = [] ∧ ∃ v, (results fn a'.tmps).run P w' = .ok v w' ∧ ∃ v0 v' h' μ', Ending.returned v = .returned v' ∧ VRel μ' v0 v' ∧ HRel B μ' h' w' ∧ Below B w w' ∧ (∀ b, b < h.n → μ' b = μ b) ∧ h.n ≤ h'.n ∧ R v0 h' := fun r => by
   obtain ⟨v0, v', hrun, rv, hR⟩ := resultsR_run s.fr s.rel hres r
   exact ⟨s.nod, v', hrun, v0, v', h', μ', rfl, rv, s.rel, s.bel, s.ext, s.le, hR⟩
  cases e with
  | normal => exact fin q
  | ret => exact fin q
  | _ => exact q.elim
 ·cases hc
end
end Go.Ab
