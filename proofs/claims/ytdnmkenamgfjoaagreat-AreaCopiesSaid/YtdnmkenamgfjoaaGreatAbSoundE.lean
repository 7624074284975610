/-
 Ab: regions whose order is drawn: one order serves for all.
-/
import Derived.Test.YtdnmkenamgfjoaaGreatAbSoundD
import Derived.Test.YtdnmkenamgfjoaaGreatAbPlan
set_option linter.unusedSimpArgs false
set_option linter.unusedVariables false
namespace Go.Ab
set_option linter.unusedSectionVars false
variable [Inhabited TabBox]
open Go.RowKit
variable {P : Program} {N : Nat}
theorem map_pair_inv {α : Type} {o : Option α} {v : Value} {g : α → Value} {h h' : Heap} (e : o.map (fun x => (g x,h)) = some (v,h')) : h' = h ∧ ∃ x,o = some x ∧ g x = v := by
 cases o with
 | none => cases e
 | some x => simp only [Option.map_some,Option.some.injEq,Prod.mk.injEq] at e; exact ⟨e.2.symm,x,rfl,e.1⟩
theorem AK.pure_heap {k : AK} (hp : k.pure = true) {f : AF} {h h' : Heap} {v : Value} (e : aop k f h = some (v,h')) : h' = h := by
 cases k <;> try exact absurd hp Bool.false_ne_true
 case lenS b x =>
  cases b <;> (simp only [aop] at e; split at e <;> (cases e <;> rfl))
 all_goals unfold aop at e
 all_goals dsimp only at e
 all_goals repeat' split at e
 all_goals first
  | (cases e <;> rfl)
  | exact (map_pair_inv e).1
  | skip
theorem AK.indep_heap {k : AK} (hp : k.indep = true) {f : AF} {h h' h2 : Heap} {v : Value} (e : aop k f h = some (v,h')) : aop k f h2 = some (v,h2) := by
 cases k <;> try exact absurd hp Bool.false_ne_true
 case lenS b x =>
  cases b <;> (simp only [aop] at e ⊢; split at e <;> (cases e <;> (simp_all; done)))
 all_goals unfold aop at e ⊢
 all_goals dsimp only at e ⊢
 all_goals repeat' split at e
 all_goals first
  | (cases e <;> (simp_all; done))
  | (obtain ⟨_,x,e1,e2⟩ := map_pair_inv e; simp_all; done)
  | skip
theorem aopK_pure {k : AK} (hp : k.pure = true) {f : AF} {h : Heap} {K : Value → Heap → Prop} : aopK P k f h K = (match aop k f h with | some (v,h') => K v h' | none => False) := by
 cases k <;> first | rfl | exact absurd hp Bool.false_ne_true
theorem agree_opds {x : AOper} {f g : AF} (h : ∀ t ∈ x.reads,f t = g t) : ∀ y ∈ x.k.opds,aev f y = aev g y := fun y hy => aev_congr fun t e => h t (by
 simp only [AOper.reads,List.mem_append,List.mem_flatMap]
 exact .inr ⟨y,hy,by rw [e]; simp [opdT]⟩)
def pend (x : AOper) (g : AF) (h : Heap) : Prop := match x.g with
 | none => ∃ v,aop x.k g h = some (v,h) ∧ ∀ d,x.dst = some d → g d = v
 | some (t,want) => (g t = .bool want ∧ ∃ v,aop x.k g h = some (v,h) ∧ ∀ d,x.dst = some d → g d = v) ∨
   ((g t = .bool !want ∨ ∃ vs,g t = .tuple vs) ∧ ∀ d,x.dst = some d → g d = .tuple #[])
theorem pend_move {x : AOper} {g g' : AF} {h h' : Heap} (p : pend x g h) (hr : ∀ t ∈ x.reads,g' t = g t) (hd : ∀ t ∈ x.dsts,g' t = g t)
  (hv : ∀ v,aop x.k g h = some (v,h) → (match x.g with | some (t,want) => g t = .bool want | none => True) → aop x.k g' h' = some (v,h')) : pend x g' h' := by
 obtain ⟨d,gd,k⟩ := x
 have hdd : ∀ i,d = some i → g' i = g i := fun i hi => hd i (by simp [AOper.dsts,hi])
 unfold pend at p ⊢
 cases gd with
 | none =>
   obtain ⟨v,e,hd2⟩ := p
   exact ⟨v,hv v e trivial,fun i hi => (hdd i hi).trans (hd2 i hi)⟩
 | some tw =>
   obtain ⟨t,want⟩ := tw
   have ht : g' t = g t := hr t (by simp [AOper.reads])
   dsimp only at p ⊢
   rw [ht]
   rcases p with ⟨e0,v,e,hd2⟩ | ⟨e0,hd2⟩
   ·exact .inl ⟨e0,v,hv v e e0,fun i hi => (hdd i hi).trans (hd2 i hi)⟩
   ·exact .inr ⟨e0,fun i hi => (hdd i hi).trans (hd2 i hi)⟩
theorem fset_same {f : AF} {t : Nat} {v : Value} (h : f t = v) : fset f t v = f := by
 funext i
 unfold fset
 split
 ·rename_i e; rw [e,h]
 ·rfl
theorem pend_run {x : AOper} (hp : x.k.pure = true) {f g : AF} {h : Heap} {K : AF → Heap → Prop} (p : pend x g h) (hr : ∀ t ∈ x.reads,f t = g t)
  (hk : K (match x.dst with | some d => fset f d (g d) | none => f) h) : awpL P [x] f h K := by
 have ho := aop_congr (h := h) (agree_opds hr)
 obtain ⟨d,gd,k⟩ := x
 dsimp only at *
 have run : ∀ v,aop k g h = some (v,h) → (∀ i,d = some i → g i = v) → aopK P k f h fun v h' => K (fput f d v) h' := by
  intro v e hd
  have hfin : K (fput f d v) h := by
   cases d with
   | none => exact hk
   | some i => rw [← hd i rfl]; exact hk
  rw [aopK_pure hp,ho,e]
  exact hfin
 have skip : (∀ i,d = some i → g i = .tuple #[]) → K (fput f d (.tuple #[])) h := by
  intro hd
  cases d with
  | none => exact hk
  | some i => rw [← hd i rfl]; exact hk
 unfold pend at p
 cases gd with
 | none =>
   obtain ⟨v,e,hd⟩ := p
   simp only [awpL]
   exact run v e hd
 | some tw =>
   obtain ⟨t,want⟩ := tw
   have ht : f t = g t := hr t (by simp [AOper.reads])
   simp only [awpL]
   rw [ht]
   rcases p with ⟨e0,v,e,hd⟩ | ⟨e0 | ⟨vs,e0⟩,hd⟩
   ·rw [e0]
    dsimp only
    rw [fset_same (ht.trans e0)]
    exact ⟨fun _ => run v e hd,fun q => absurd q (by cases want <;> decide)⟩
   ·rw [e0]
    dsimp only
    rw [fset_same (ht.trans e0)]
    exact ⟨fun q => absurd q (by cases want <;> decide),fun _ => skip hd⟩
   ·rw [e0]
    exact skip hd
theorem fput_off {f : AF} {d : Option Nat} {v : Value} {t : Nat} (h : t ∉ d.toList) : fput f d v t = f t := by
 cases d with
 | none => rfl
 | some i =>
   have : t ≠ i := fun e => h (by simp [e])
   simp [fput,this]
theorem pure_step {x : AOper} (hp : x.k.pure = true) (hrd : ∀ t ∈ x.reads,t ∉ x.dsts) {r : List AOper} {f : AF} {h : Heap} {K : AF → Heap → Prop} (hh : awpL P (x :: r) f h K) :
  ∃ f1,awpL P r f1 h K ∧ (∀ t,t ∉ x.dsts → f1 t = f t) ∧ pend x f1 h := by
 obtain ⟨d,gd,k⟩ := x
 dsimp only at hp
 have off : ∀ v,∀ t,t ∉ d.toList → fput f d v t = f t := fun v t ht => fput_off ht
 have run : (match gd with | some (t,want) => f t = .bool want | none => True) → aopK P k f h (fun v h' => awpL P r (fput f d v) h' K) → ∃ f1,awpL P r f1 h K ∧ (∀ t,t ∉ d.toList → f1 t = f t) ∧ pend ⟨d,gd,k⟩ f1 h := by
  intro hg hk
  rw [aopK_pure hp] at hk
  split at hk
  ·rename_i v h' e
   obtain rfl := AK.pure_heap hp e
   refine ⟨_,hk,off v,?_⟩
   have e1 : aop k (fput f d v) h' = some (v,h') := by
    rw [← e]
    exact aop_congr (agree_opds (x := ⟨d,gd,k⟩) fun t ht => off v t (hrd t ht))
   have e2 : ∀ i,d = some i → fput f d v i = v := fun i hi => by subst hi; simp [fput]
   unfold pend
   cases gd with
   | none => exact ⟨v,e1,e2⟩
   | some tw =>
     obtain ⟨t,want⟩ := tw
     exact .inl ⟨(off v t (hrd t (by simp [AOper.reads]))).trans hg,v,e1,e2⟩
  ·exact hk.elim
 have skip : ∀ t want,gd = some (t,want) → (f t = .bool !want ∨ ∃ vs,f t = .tuple vs) → awpL P r (fput f d (.tuple #[])) h K → ∃ f1,awpL P r f1 h K ∧ (∀ t,t ∉ d.toList → f1 t = f t) ∧ pend ⟨d,gd,k⟩ f1 h := by
  intro t want hg hf hk
  refine ⟨_,hk,off _,?_⟩
  subst hg
  have ht := off (.tuple #[]) t (hrd t (by simp [AOper.reads]))
  unfold pend
  refine .inr ⟨by rw [ht]; exact hf,fun i hi => by subst hi; simp [fput]⟩
 cases gd with
 | none =>
   simp only [awpL] at hh
   exact run trivial hh
 | some tw =>
   obtain ⟨t,want⟩ := tw
   simp only [awpL] at hh
   split at hh
   ·rename_i b hb
    by_cases hbw : b = want
    ·subst hbw
     have := hh.1 rfl
     rw [fset_same hb] at this
     exact run hb this
    ·have hbn : b = !want := bool_ne hbw
     subst hbn
     have := hh.2 rfl
     rw [fset_same hb] at this
     exact skip t want rfl (.inl hb) this
   ·rename_i vs hb
    exact skip t want rfl (.inr ⟨vs,hb⟩) hh
   ·exact hh.elim
theorem okFlat_cons {x : AOper} {r : List AOper} (h : okFlat (x :: r) = true) : (∀ t ∈ x.reads,∀ y ∈ x :: r,t ∉ y.dsts) ∧ (∀ t ∈ x.dsts,∀ y ∈ r,t ∉ y.dsts) ∧ okFlat r = true := by
 simp only [okFlat, Bool.and_eq_true, List.all_eq_true, Bool.not_eq_true', List.contains_eq_mem, decide_eq_false_iff_not] at h
 exact ⟨h.1.1,h.1.2,h.2⟩
theorem pure_run : ∀ {e later : List AOper} {f : AF} {h : Heap} {K : AF → Heap → Prop},(∀ x ∈ e,x.k.pure = true) → okFlat (e ++ later) = true → awpL P e f h K →
  ∃ g,K g h ∧ (∀ t,(∀ y ∈ e,t ∉ y.dsts) → g t = f t) ∧ ∀ x ∈ e,pend x g h
 | [],_,f,h,K,_,_,hh => ⟨f,hh,fun _ _ => rfl,fun _ hx => absurd hx (by simp)⟩
 | x :: e,later,f,h,K,hp,hok,hh => by
   obtain ⟨h1,h2,h3⟩ := okFlat_cons (x := x) (r := e ++ later) hok
   obtain ⟨f1,hh1,off1,p1⟩ := pure_step (hp x (by simp)) (fun t ht => h1 t ht x (by simp)) hh
   obtain ⟨g,hk,off,ps⟩ := pure_run (fun y hy => hp y (by simp [hy])) h3 hh1
   have same : ∀ t ∈ x.reads,g t = f1 t := fun t ht => off t fun y hy => h1 t ht y (by simp [hy])
   refine ⟨g,hk,fun t ht => (off t fun y hy => ht y (by simp [hy])).trans (off1 t (ht x (by simp))),fun y hy => ?_⟩
   rcases List.mem_cons.1 hy with rfl | hy
   ·refine pend_move p1 same (fun t ht => off t fun z hz => h2 t ht z (by simp [hz])) fun v e _ => ?_
    rw [← e]
    exact aop_congr (agree_opds same)
   ·exact ps y hy
theorem clos_listed {pr : Nat → List Nat} {L : Nat → Prop} {j : Nat} (dc : ∀ i,L i → ∀ p ∈ pr i,L p) (hj : ∀ p ∈ pr j,L p) : ∀ (n : Nat) {S : List Nat},(∀ x ∈ S,x = j ∨ L x) → ∀ x ∈ clos pr n S,x = j ∨ L x
 | 0,S,h => h
 | i + 1,S,h => by
   unfold clos
   refine clos_listed dc hj i ?_
   split
   ·rename_i ha
    simp only [List.any_eq_true,List.contains_eq_mem,decide_eq_true_eq] at ha
    obtain ⟨k,hk,hi⟩ := ha
    intro x hx
    rcases List.mem_cons.1 hx with rfl | hx
    ·rcases h k hk with rfl | hl
     ·exact .inr (hj _ hi)
     ·exact .inr (dc _ hl _ hi)
    ·exact h x hx
   ·exact h
theorem okRest_some {pr : Nat → List Nat} {A : Nat → AOper} {sofar : List Nat} {w : Nat} {rc : List Nat} {rest : Plan} (h : okRest pr A sofar (some w) rc rest = true) :
  ∃ e' w' rc' r, rest = (e', w', rc') :: r ∧ (∀ x ∈ sofar, (A x).k.indep = true ∨ x ∈ rc ∨ x ∈ clos pr w [w]) ∧ (∀ x ∈ sofar, x ∈ clos pr w [w] ∨ ∀ t ∈ (A x).slots, t ∉ (A w).dsts) ∧
   (∀ x ∈ sofar, ∀ t ∈ (A x).slots, ∀ y ∈ e', t ∉ (A y).dsts) ∧ okFlat (e'.map A) = true ∧ (∀ i ∈ e' ++ w'.toList, ∃ p ∈ pr i, p = w ∨ p ∈ e') ∧
   (∀ i ∈ e', (A i).k.pure = true) ∧ okRest pr A (sofar ++ e') w' rc' r = true := by
 match rest,h with
 | (e', w', rc') :: r, h =>
   simp only [okRest, Bool.and_eq_true, List.all_eq_true, List.any_eq_true, Bool.or_eq_true, beq_iff_eq, List.contains_eq_mem, decide_eq_true_eq, Bool.not_eq_true', decide_eq_false_iff_not] at h
   obtain ⟨⟨⟨⟨⟨⟨h1,h5⟩,h6⟩,h7⟩,h2⟩,h3⟩,h4⟩ := h
   exact ⟨e', w', rc', r, rfl, fun x hx => by
    rcases h1 x hx with (h | h) | h
    ·exact .inl h
    ·exact .inr (.inl h)
    ·exact .inr (.inr h),h5,h6,h7,h2,h3,h4⟩
theorem okRest_none {pr : Nat → List Nat} {A : Nat → AOper} {sofar : List Nat} {rc : List Nat} {rest : Plan} (h : okRest pr A sofar none rc rest = true) : rest = [] ∧ rc = [] := by
 match rest,h with
 | [],h => exact ⟨rfl,by simpa [okRest] using h⟩
theorem okRest_waits {pr : Nat → List Nat} {A : Nat → AOper} : ∀ {rest : Plan} {sofar : List Nat} {w : Option Nat} {rc : List Nat},okRest pr A sofar w rc rest = true →
  ∀ i ∈ rest.flat,∃ p ∈ pr i,p ∈ w.toList ++ rest.flat
 | [],_,_,_,_,i,hi => absurd hi (by simp [Plan.flat])
 | (e', w', rc') :: r, sofar, none, rc, h, _, _ => absurd (okRest_none h).1 (by simp)
 | (e', w', rc') :: r, sofar, some w, rc, h, i, hi => by
   obtain ⟨e2,w2,rc2,r2,e,_,_,_,_,h2,_,h4⟩ := okRest_some h
   cases e
   simp only [Plan.flat,List.mem_append] at hi ⊢
   rcases hi with hi | hi
   ·obtain ⟨p,hp,hpp⟩ := h2 i (by simpa using hi)
    refine ⟨p,hp,?_⟩
    rcases hpp with rfl | hpp
    ·exact .inl (by simp)
    ·exact .inr (.inl (.inl hpp))
   ·obtain ⟨p,hp,hpp⟩ := okRest_waits h4 i hi
    refine ⟨p,hp,?_⟩
    rcases List.mem_append.1 hpp with hpp | hpp
    ·exact .inr (.inl (.inr hpp))
    ·exact .inr (.inr hpp)
end Go.Ab
