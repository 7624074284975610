/-
 Ab: regions whose order is drawn: the plan's order serves for all; plans.
-/
import Derived.Test.YtdnmkenamgfjoaaGreatAbSoundE
set_option linter.unusedSimpArgs false
set_option linter.unusedVariables false
namespace Go.Ab
set_option linter.unusedSectionVars false
variable [Inhabited TabBox]
open Go.RowKit
variable {P : Program} {N : Nat}
theorem nextK_imp {v : Value} {h : Heap} {K K' : Value → Heap → Prop} (hk : ∀ v h,K v h → K' v h) (hh : nextK v h K) : nextK v h K' := by
 unfold nextK at *
 split at hh
 ·split at hh
  ·exact hk _ _ hh
  ·split at hh
   ·exact ⟨hh.1,hh.2.1,fun q => hk _ _ (hh.2.2.1 q),fun e he q => hk _ _ (hh.2.2.2 e he q)⟩
   ·exact hh
  ·exact hh
 ·exact hh
theorem aopK_imp {P : Program} {k : AK} {f : AF} {h : Heap} {K K' : Value → Heap → Prop} (hk : ∀ v h,K v h → K' v h) (hh : aopK P k f h K) : aopK P k f h K' := by
 unfold aopK at *
 split at hh
 ·exact hh.mono hk
 ·split at hh
  ·exact ⟨hh.1,hh.2.mono hk⟩
  ·exact hh
 ·exact nextK_imp hk hh
 ·split at hh
  ·exact hk _ _ hh
  ·exact hh
theorem awpL_imp {P : Program} {K K' : AF → Heap → Prop} (hk : ∀ f h,K f h → K' f h) : ∀ {l : List AOper} {f : AF} {h : Heap},awpL P l f h K → awpL P l f h K'
 | [],_,_,hh => hk _ _ hh
 | ⟨d,none,k⟩ :: r,f,h,hh => by
   simp only [awpL] at hh ⊢
   exact aopK_imp (fun v h q => awpL_imp hk q) hh
 | ⟨d,some (t,want),k⟩ :: r,f,h,hh => by
   simp only [awpL] at hh ⊢
   split at hh
   ·exact ⟨fun hb => aopK_imp (fun v h q => awpL_imp hk q) (hh.1 hb),fun hb => awpL_imp hk (hh.2 hb)⟩
   ·exact awpL_imp hk hh
   ·exact hh
theorem pend_on {x : AOper} {g g' : AF} {h h' : Heap} (p : pend x g h) (hr : ∀ t ∈ x.reads,g' t = g t) (hd : ∀ t ∈ x.dsts,g' t = g t)
  (hv : (match x.g with | some (t,want) => g t = .bool want | none => True) → ∃ v,aop x.k g' h' = some (v,h') ∧ ∀ d,x.dst = some d → g' d = v) : pend x g' h' := by
 obtain ⟨d,gd,k⟩ := x
 have hdd : ∀ i,d = some i → g' i = g i := fun i hi => hd i (by simp [AOper.dsts,hi])
 unfold pend at p ⊢
 cases gd with
 | none => exact hv trivial
 | some tw =>
   obtain ⟨t,want⟩ := tw
   have ht : g' t = g t := hr t (by simp [AOper.reads])
   dsimp only at p hv ⊢
   rw [ht]
   rcases p with ⟨e0,v,e,hd2⟩ | ⟨e0,hd2⟩
   ·exact .inl ⟨e0,hv e0⟩
   ·exact .inr ⟨e0,fun i hi => (hdd i hi).trans (hd2 i hi)⟩
theorem pend_old {x : AOper} {g : AF} {h : Heap} (p : pend x g h) (hg : match x.g with | some (t,want) => g t = .bool want | none => True) : ∃ v,aop x.k g h = some (v,h) ∧ ∀ d,x.dst = some d → g d = v := by
 obtain ⟨d,gd,k⟩ := x
 unfold pend at p
 cases gd with
 | none => exact p
 | some tw =>
   obtain ⟨t,want⟩ := tw
   dsimp only at p hg
   rcases p with p | ⟨p | ⟨vs,p⟩,_⟩
   ·exact p.2
   ·rw [hg] at p; cases want <;> cases p
   ·rw [hg] at p; cases p
structure Mom (ops : Array Oper) (pr : Nat → List Nat) (A : Nat → AOper) (E : List Nat) (P : Program) (K : AF → Heap → Prop) (n : Nat) (L : Array Bool) (Pn : List Nat) (w : Option Nat) (rc : List Nat) (rest : Plan) (f g : AF) (h : Heap) : Prop where
 size : L.size = ops.size
 dc : ∀ i,L.getD i false = true → ∀ p ∈ pr i,L.getD p false = true
 un : ∀ i,i < ops.size → (L.getD i false = false ↔ i ∈ Pn ++ w.toList ++ rest.flat)
 lt : ∀ i ∈ Pn ++ w.toList ++ rest.flat,i < ops.size
 nodup : (Pn ++ w.toList ++ rest.flat).Nodup
 count : (Pn ++ w.toList ++ rest.flat).length = n
 pure : ∀ x ∈ Pn,(A x).k.pure = true
 pend : ∀ x ∈ Pn,pend (A x) g h
 agree : ∀ t,(∀ x ∈ Pn,t ∉ (A x).dsts) → f t = g t
 pnE : ∀ x ∈ Pn,x ∈ E
 run : awpL P (w.toList.map A) g h fun g h => arecheck (rc.map A) g h ∧ awpD P (rest.code A) g h K
section
variable {ops : Array Oper} {pr : Nat → List Nat} {A : Nat → AOper} {E : List Nat} {K : AF → Heap → Prop} {n : Nat} {L : Array Bool} {Pn : List Nat} {w : Option Nat} {rc : List Nat} {rest : Plan} {f g : AF} {h : Heap} {sofar : List Nat}
theorem Mom.all_done (hpr : ∀ L i,i ∈ Region.ready .any ops L ↔ i < ops.size ∧ L.getD i true = false ∧ ∀ p ∈ pr i,L.getD p false = true) (hback : ∀ i p,p ∈ pr i → p < i)
  (m : Mom ops pr A E P K n L Pn w rc rest f g h) (hr : Region.ready .any ops L = []) : Pn ++ w.toList ++ rest.flat = [] := by
 have all : ∀ i,i < ops.size → L.getD i false = true := by
  intro i
  induction i using Nat.strongRecOn with
  | _ i ih =>
    intro hi
    cases hl : L.getD i false with
    | true => rfl
    | false =>
      have hs : i < L.size := by rw [m.size]; exact hi
      have ht : L.getD i true = false := by
       simp only [Array.getD,hs,dif_pos] at hl ⊢
       exact hl
      have : i ∈ Region.ready .any ops L := (hpr L i).2 ⟨hi,ht,fun p hp => ih p (hback i p hp) (by have := hback i p hp; omega)⟩
      rw [hr] at this
      cases this
 cases hc : Pn ++ w.toList ++ rest.flat with
 | nil => rfl
 | cons x r =>
   have hx : x ∈ Pn ++ w.toList ++ rest.flat := by rw [hc]; simp
   have hlt := m.lt x hx
   have := (m.un x hlt).2 hx
   rw [all x hlt] at this
   cases this
theorem Mom.final (m : Mom ops pr A E P K n L Pn w rc rest f g h) (ok : okRest pr A sofar w rc rest = true) (he : Pn ++ w.toList ++ rest.flat = []) : K f h := by
 simp only [List.append_eq_nil_iff] at he
 obtain ⟨⟨rfl,hw⟩,_⟩ := he
 cases w with
 | some w => cases hw
 | none =>
   obtain ⟨rfl,rfl⟩ := okRest_none ok
   have hfg : f = g := funext fun t => m.agree t (by simp)
   have := m.run
   simp only [Option.toList_none,List.map_nil,awpL,Plan.code,awpD] at this
   rw [hfg]
   exact this.2
theorem listed_set {L : Array Bool} {i j : Nat} (hi : i < L.size) : (L.setIfInBounds i true).getD j false = true ↔ j = i ∨ L.getD j false = true := by
 by_cases hij : i = j
 ·subst hij
  simp [hi]
 ·rw [getD_set_ne false hij]
  exact ⟨.inr,fun hh => hh.resolve_left fun e => hij e.symm⟩
theorem Mom.pending {i : Nat} (hpr : ∀ L i,i ∈ Region.ready .any ops L ↔ i < ops.size ∧ L.getD i true = false ∧ ∀ p ∈ pr i,L.getD p false = true)
  (chk2 : ∀ i x,i < ops.size → x ∈ E → x ≠ i → (∃ t ∈ (A i).reads,t ∈ (A x).dsts) → x ∈ clos pr i [i]) (self : ∀ i ∈ E,∀ t ∈ (A i).reads,t ∉ (A i).dsts)
  (m : Mom ops pr A E P K (n + 1) L Pn w rc rest f g h) (hi : i ∈ Region.ready .any ops L) (hp : i ∈ Pn) {R : AF → Heap → Prop}
  (next : ∀ f', Mom ops pr A E P K n (L.setIfInBounds i true) (Pn.erase i) w rc rest f' g h → R f' h) : awpL P [A i] f h R := by
 obtain ⟨hlt,hun,hpreds⟩ := (hpr L i).1 hi
 have hs : i < L.size := by rw [m.size]; exact hlt
 have hnd := m.nodup
 have hndP : Pn.Nodup := (List.nodup_append.1 (List.nodup_append.1 hnd).1).1
 refine pend_run (m.pure i hp) (m.pend i hp) (fun t ht => m.agree t fun x hx => ?_) (next _ ?_)
 ·intro hd
  by_cases hxi : x = i
  ·subst hxi; exact self _ (m.pnE _ hp) t ht hd
  ·have hxl := m.lt x (by simp [hx])
   have hc := chk2 i x hlt (m.pnE x hx) hxi ⟨t,ht,hd⟩
   rcases clos_listed (L := fun j => L.getD j false = true) m.dc hpreds i (S := [i]) (fun y hy => .inl (by simpa using hy)) x hc with e | hl
   ·exact hxi e
   ·have := (m.un x hxl).2 (by simp [hx])
    rw [this] at hl
    cases hl
 ·have herase : ∀ x,x ∈ Pn.erase i ↔ x ∈ Pn ∧ x ≠ i := fun x => by rw [hndP.mem_erase_iff]; exact ⟨fun q => ⟨q.2,q.1⟩,fun q => ⟨q.2,q.1⟩⟩
  have hnot : i ∉ w.toList ++ rest.flat := by
   intro hh
   rw [List.append_assoc,List.nodup_append] at hnd
   exact hnd.2.2 i hp i hh rfl
  refine ⟨by simp [m.size],?_,?_,?_,?_,?_,fun x hx => m.pure x ((herase x).1 hx).1,fun x hx => m.pend x ((herase x).1 hx).1,?_,fun x hx => m.pnE x ((herase x).1 hx).1,m.run⟩
  ·intro j hj p hpj
   rw [listed_set hs] at hj ⊢
   rcases hj with rfl | hj
   ·exact .inr (hpreds p hpj)
   ·exact .inr (m.dc j hj p hpj)
  ·intro j hj
   have := m.un j hj
   rw [List.append_assoc,List.mem_append] at this ⊢
   rw [herase]
   have hl := listed_set (j := j) hs
   constructor
   ·intro hf
    have hnl : ¬ (j = i ∨ L.getD j false = true) := fun q => by rw [hl.2 q] at hf; cases hf
    have hj0 : L.getD j false = false := by cases hq : L.getD j false with | false => rfl | true => exact absurd (.inr hq) hnl
    rcases this.1 hj0 with q | q
    ·exact .inl ⟨q,fun e => hnl (.inl e)⟩
    ·exact .inr q
   ·intro hm
    have hj0 : L.getD j false = false := this.2 (by rcases hm with q | q; exact .inl q.1; exact .inr q)
    have hne : j ≠ i := by rcases hm with q | q; exact q.2; exact fun e => hnot (e ▸ q)
    cases hq : (L.setIfInBounds i true).getD j false with
    | false => rfl
    | true =>
      rcases hl.1 hq with q | q
      ·exact absurd q hne
      ·rw [hj0] at q; cases q
  ·intro j hj
   rw [List.append_assoc,List.mem_append,herase] at hj
   exact m.lt j (by rw [List.append_assoc,List.mem_append]; rcases hj with q | q; exact .inl q.1; exact .inr q)
  ·rw [List.append_assoc] at hnd ⊢
   exact hnd.sublist (List.Sublist.append (List.erase_sublist) (List.Sublist.refl _))
  ·have hc := m.count
   simp only [List.length_append] at hc ⊢
   rw [List.length_erase_of_mem hp]
   have : 0 < Pn.length := List.length_pos_of_mem hp
   omega
  ·intro t ht
   cases hd : (A i).dst with
   | none =>
     dsimp only
     refine m.agree t fun x hx => ?_
     by_cases hxi : x = i
     ·subst hxi; simp [AOper.dsts,hd]
     ·exact ht x ((herase x).2 ⟨hx,hxi⟩)
   | some d =>
     dsimp only
     by_cases htd : t = d
     ·subst htd; simp [fset]
     ·have : fset f d (g d) t = f t := by simp [fset,htd]
      rw [this]
      refine m.agree t fun x hx => ?_
      by_cases hxi : x = i
      ·subst hxi; simp [AOper.dsts,hd,htd]
      ·exact ht x ((herase x).2 ⟨hx,hxi⟩)
theorem agree_run {x : AOper} {KG : AF → Heap → Prop} (hr : ∀ t ∈ x.reads,f t = g t) (hh : awpL P [x] g h KG) :
  awpL P [x] f h fun f' h' => ∃ g', KG g' h' ∧ (∀ t, t ∉ x.dsts → f' t = f t ∧ g' t = g t) ∧ ∀ t ∈ x.dsts, f' t = g' t := by
 have hc := agree_opds hr
 obtain ⟨d,gd,k⟩ := x
 dsimp only at hc
 have two : ∀ v h', KG (fput g d v) h' → ∃ g', KG g' h' ∧ (∀ t, t ∉ d.toList → fput f d v t = f t ∧ g' t = g t) ∧ ∀ t ∈ d.toList, fput f d v t = g' t := fun v h' kg =>
  ⟨_,kg,fun t ht => ⟨fput_off ht,fput_off ht⟩,fun t ht => by
   cases d with
   | none => simp at ht
   | some i => have : t = i := by simpa using ht
               subst this; simp [fput]⟩
 cases gd with
 | none =>
   simp only [awpL] at hh ⊢
   exact aopK_imp two ((aopK_congr hc).2 hh)
 | some tw =>
   obtain ⟨t,want⟩ := tw
   have ht : f t = g t := hr t (by simp [AOper.reads])
   simp only [awpL] at hh ⊢
   rw [ht]
   split at hh
   ·rename_i b hb
    refine ⟨fun e => ?_,fun e => ?_⟩
    ·subst e
     have := hh.1 rfl
     rw [fset_same hb] at this
     rw [fset_same (ht.trans hb)]
     exact aopK_imp two ((aopK_congr hc).2 this)
    ·subst e
     have := hh.2 rfl
     rw [fset_same hb] at this
     rw [fset_same (ht.trans hb)]
     exact two _ _ this
   ·exact two _ _ hh
   ·exact hh.elim
theorem arecheck_pend {h' : Heap} {g' : AF} : ∀ {l : List AOper}, arecheck l g' h' → ∀ x ∈ l, (match x.g with | some (t, want) => g' t = .bool want | none => True) → ∃ v, aop x.k g' h' = some (v, h') ∧ ∀ d', x.dst = some d' → g' d' = v
 | [],_,x,hx => absurd hx (by simp)
 | ⟨d,gd,k⟩ :: r,hh,x,hx => by
   simp only [arecheck] at hh
   rcases List.mem_cons.1 hx with rfl | hx
   ·intro hg
    cases gd with
    | none => exact ⟨_,(hh.1 trivial).choose_spec⟩
    | some tw => exact ⟨_,(hh.1 hg).choose_spec⟩
   ·exact arecheck_pend hh.2 x hx
theorem Mom.turn {i : Nat} {e' : List Nat} {w' : Option Nat} {rc' : List Nat} {r : Plan} (hpr : ∀ L i,i ∈ Region.ready .any ops L ↔ i < ops.size ∧ L.getD i true = false ∧ ∀ p ∈ pr i,L.getD p false = true)
  (chk2 : ∀ i x,i < ops.size → x ∈ E → x ≠ i → (∃ t ∈ (A i).reads,t ∈ (A x).dsts) → x ∈ clos pr i [i]) (self : ∀ i ∈ E,∀ t ∈ (A i).reads,t ∉ (A i).dsts)
  (m : Mom ops pr A E P K (n + 1) L Pn (some i) rc ((e', w', rc') :: r) f g h) (hi : i ∈ Region.ready .any ops L)
  (c1 : ∀ x ∈ Pn,(A x).k.indep = true ∨ x ∈ rc ∨ x ∈ clos pr i [i]) (c5 : ∀ x ∈ Pn,x ∈ clos pr i [i] ∨ ∀ t ∈ (A x).slots,t ∉ (A i).dsts)
  (c6 : ∀ x ∈ Pn, ∀ t ∈ (A x).slots, ∀ y ∈ e', t ∉ (A y).dsts) (c7 : okFlat (e'.map A) = true) (cE : ∀ x ∈ e', x ∈ E) (c3 : ∀ j ∈ e', (A j).k.pure = true) {R : AF → Heap → Prop}
  (next : ∀ f' g' h', Mom ops pr A E P K n (L.setIfInBounds i true) (Pn ++ e') w' rc' r f' g' h' → R f' h') : awpL P [A i] f h R := by
 obtain ⟨hlt,hun,hpreds⟩ := (hpr L i).1 hi
 have hs : i < L.size := by rw [m.size]; exact hlt
 have waits : ∀ x ∈ Pn,x ∉ clos pr i [i] := fun x hx hc => by
  have hxl := m.lt x (by simp [hx])
  rcases clos_listed (L := fun j => L.getD j false = true) m.dc hpreds i (S := [i]) (fun y hy => .inl (by simpa using hy)) x hc with e | hl
  ·subst e
   have hnd := m.nodup
   rw [List.append_assoc,List.nodup_append] at hnd
   exact hnd.2.2 _ hx _ (by simp) rfl
  ·have := (m.un x hxl).2 (by simp [hx])
   rw [this] at hl
   cases hl
 have hnd := m.nodup
 rw [List.append_assoc,List.nodup_append] at hnd
 have hiP : i ∉ Pn := fun q => hnd.2.2 _ q _ (by simp) rfl
 have hr : ∀ t ∈ (A i).reads,f t = g t := fun t ht => m.agree t fun x hx hd => waits x hx (chk2 i x hlt (m.pnE x hx) (fun e => hiP (e ▸ hx)) ⟨t,ht,hd⟩)
 refine awpL_imp ?_ (agree_run hr m.run)
 rintro f1 h1 ⟨g1,⟨hrc,hrest⟩,off,same⟩
 obtain ⟨g2,hk,off2,pend2⟩ := pure_run (e := e'.map A) (later := []) (fun x hx => by
  obtain ⟨j,hj,rfl⟩ := List.mem_map.1 hx
  exact c3 j hj) (by simpa using c7) hrest
 have sepi : ∀ x ∈ Pn,(∀ t ∈ (A x).reads,t ∉ (A i).dsts) ∧ ∀ t ∈ (A x).dsts,t ∉ (A i).dsts := fun x hx => by
  rcases c5 x hx with q | q
  ·exact absurd q (waits x hx)
  ·exact ⟨fun t ht => q t (List.mem_append.2 (.inl ht)),fun t ht => q t (List.mem_append.2 (.inr ht))⟩
 have sepe : ∀ x ∈ Pn, ∀ y ∈ e', (∀ t ∈ (A x).reads, t ∉ (A y).dsts) ∧ ∀ t ∈ (A x).dsts, t ∉ (A y).dsts := fun x hx y hy =>
  ⟨fun t ht => c6 x hx t (List.mem_append.2 (.inl ht)) y hy,fun t ht => c6 x hx t (List.mem_append.2 (.inr ht)) y hy⟩
 have keepR : ∀ x ∈ Pn,∀ t ∈ (A x).reads,g1 t = g t ∧ g2 t = g1 t := fun x hx t ht => ⟨(off t ((sepi x hx).1 t ht)).2,off2 t fun y hy => by
  obtain ⟨j,hj,rfl⟩ := List.mem_map.1 hy
  exact (sepe x hx j hj).1 t ht⟩
 have keepD : ∀ x ∈ Pn,∀ t ∈ (A x).dsts,g1 t = g t ∧ g2 t = g1 t := fun x hx t ht => ⟨(off t ((sepi x hx).2 t ht)).2,off2 t fun y hy => by
  obtain ⟨j,hj,rfl⟩ := List.mem_map.1 hy
  exact (sepe x hx j hj).2 t ht⟩
 refine next f1 g2 h1 ⟨by simp [m.size],?_,?_,?_,?_,?_,?_,?_,?_,?_,hk⟩
 ·intro j hj p hpj
  rw [listed_set hs] at hj ⊢
  rcases hj with rfl | hj
  ·exact .inr (hpreds p hpj)
  ·exact .inr (m.dc j hj p hpj)
 ·intro j hj
  have hu := m.un j hj
  have hl := listed_set (j := j) hs
  simp only [List.mem_append,Plan.flat,Option.mem_toList,Option.some.injEq] at hu ⊢
  have hni : i ∉ Pn ++ e' ++ w'.toList ++ r.flat := by
   intro q
   have := m.nodup
   simp only [Plan.flat,Option.toList_some,List.append_assoc] at this q
   rw [List.nodup_append] at this
   rcases List.mem_append.1 q with q | q
   ·exact hiP q
   ·exact (List.nodup_cons.1 this.2.1).1 q
  simp only [List.mem_append,Option.mem_toList] at hni
  constructor
  ·intro hf
   have hnl : ¬ (j = i ∨ L.getD j false = true) := fun q => by rw [hl.2 q] at hf; cases hf
   have hj0 : L.getD j false = false := by cases hq : L.getD j false with | false => rfl | true => exact absurd (.inr hq) hnl
   have := hu.1 hj0
   rcases this with (q | q) | q
   ·exact .inl (.inl (.inl q))
   ·exact absurd (.inl q.symm) hnl
   ·rcases q with (q | q) | q
    ·exact .inl (.inl (.inr q))
    ·exact .inl (.inr q)
    ·exact .inr q
  ·intro hm
   have hj0 : L.getD j false = false := hu.2 (by
    rcases hm with ((q | q) | q) | q
    ·exact .inl (.inl q)
    ·exact .inr (.inl (.inl q))
    ·exact .inr (.inl (.inr q))
    ·exact .inr (.inr q))
   have hne : j ≠ i := fun e => hni (e ▸ hm)
   cases hq : (L.setIfInBounds i true).getD j false with
   | false => rfl
   | true =>
     rcases hl.1 hq with q | q
     ·exact absurd q hne
     ·rw [hj0] at q; cases q
 ·intro j hj
  refine m.lt j ?_
  simp only [List.mem_append,Plan.flat] at hj ⊢
  rcases hj with ((q | q) | q) | q
  ·exact .inl (.inl q)
  ·exact .inr (.inl (.inl q))
  ·exact .inr (.inl (.inr q))
  ·exact .inr (.inr q)
 ·have := m.nodup
  simp only [Plan.flat,Option.toList_some,List.append_assoc] at this ⊢
  exact this.sublist (List.Sublist.append (List.Sublist.refl _) (List.sublist_cons_self _ _))
 ·have := m.count
  simp only [Plan.flat,List.length_append,Option.toList_some,List.length_cons,List.length_nil] at this ⊢
  omega
 ·intro x hx
  rcases List.mem_append.1 hx with hx | hx
  ·exact m.pure x hx
  ·exact c3 x hx
 ·intro x hx
  rcases List.mem_append.1 hx with hx | hx
  ·have hrr : ∀ t ∈ (A x).reads,g2 t = g t := fun t ht => ((keepR x hx t ht).2).trans (keepR x hx t ht).1
   have hdd : ∀ t ∈ (A x).dsts,g2 t = g t := fun t ht => ((keepD x hx t ht).2).trans (keepD x hx t ht).1
   have pm := m.pend x hx
   refine pend_on pm hrr hdd fun hg => ?_
   have hold := pend_old pm hg
   rcases c1 x hx with hind | hrx | hcl
   ·obtain ⟨v,e,hd⟩ := hold
    refine ⟨v,?_,fun d q => (hdd d (by simp [AOper.dsts,q])).trans (hd d q)⟩
    rw [aop_congr (agree_opds hrr)]
    exact AK.indep_heap hind e
   ·have hg1 : (match (A x).g with | some (t,want) => g1 t = .bool want | none => True) := by
     split
     ·rename_i t want hgd
      rw [hgd] at hg
      rw [(keepR x hx t (by simp [AOper.reads,hgd])).1]
      exact hg
     ·trivial
    obtain ⟨v,e,hd⟩ := arecheck_pend hrc (A x) (List.mem_map.2 ⟨x,hrx,rfl⟩) hg1
    refine ⟨v,?_,fun d q => (keepD x hx d (by simp [AOper.dsts,q])).2.trans (hd d q)⟩
    rw [aop_congr (agree_opds fun t ht => (keepR x hx t ht).2)]
    exact e
   ·exact absurd hcl (waits x hx)
  ·exact pend2 (A x) (List.mem_map.2 ⟨x,hx,rfl⟩)
 ·intro t ht
  have h2 : g2 t = g1 t := off2 t fun y hy => by
   obtain ⟨j,hj,rfl⟩ := List.mem_map.1 hy
   exact ht j (by simp [hj])
  rw [h2]
  by_cases hti : t ∈ (A i).dsts
  ·exact same t hti
  ·rw [(off t hti).1,(off t hti).2]
   exact m.agree t fun x hx => ht x (by simp [hx])
 ·intro x hx
  rcases List.mem_append.1 hx with hx | hx
  ·exact m.pnE x hx
  ·exact cE x hx
theorem getD_tf {L : Array Bool} {i : Nat} (hi : i < L.size) (h : L.getD i true = false) : L.getD i false = false := by
 simp only [Array.getD,hi,dif_pos] at h ⊢
 exact h
theorem any_of_mom {aos : Array AOper} (hpr : ∀ L i,i ∈ Region.ready .any ops L ↔ i < ops.size ∧ L.getD i true = false ∧ ∀ p ∈ pr i,L.getD p false = true) (hback : ∀ i p,p ∈ pr i → p < i)
  (chk2 : ∀ i x,i < ops.size → x ∈ E → x ≠ i → (∃ t ∈ (A i).reads,t ∈ (A x).dsts) → x ∈ clos pr i [i]) (self : ∀ i ∈ E,∀ t ∈ (A i).reads,t ∉ (A i).dsts)
  (hA : ∀ (i : Nat) ao,aos[i]? = some ao → A i = ao) : ∀ (n : Nat) {L : Array Bool} {Pn : List Nat} {w : Option Nat} {rc : List Nat} {rest : Plan} {f g : AF} {h : Heap} {sofar : List Nat},
  Mom ops pr A E P K n L Pn w rc rest f g h → okRest pr A sofar w rc rest = true → (∀ x ∈ rest.es,x ∈ E) → (∀ x ∈ Pn,x ∈ sofar) → awpAny P ops aos K n L f h
 | 0,L,Pn,w,rc,rest,f,g,h,sofar,m,ok,hE,sub => by
   have he : Pn ++ w.toList ++ rest.flat = [] := List.eq_nil_of_length_eq_zero m.count
   refine ⟨List.eq_nil_iff_forall_not_mem.2 fun i hi => ?_,m.final ok he⟩
   obtain ⟨hlt,hun,_⟩ := (hpr L i).1 hi
   have := (m.un i hlt).1 (getD_tf (by rw [m.size]; exact hlt) hun)
   rw [he] at this
   cases this
 | n + 1,L,Pn,w,rc,rest,f,g,h,sofar,m,ok,hE,sub => by
   refine ⟨fun hr => m.final ok (m.all_done hpr hback hr),fun i hi ao ha => ?_⟩
   obtain ⟨hlt,hun,hpreds⟩ := (hpr L i).1 hi
   have hmem := (m.un i hlt).1 (getD_tf (by rw [m.size]; exact hlt) hun)
   rw [← hA i ao ha]
   rcases List.mem_append.1 hmem with hmem | hmem
   ·rcases List.mem_append.1 hmem with hp | hw
    ·exact m.pending hpr chk2 self hi hp fun f' m' => any_of_mom hpr hback chk2 self hA n m' ok hE fun x hx => sub x (List.mem_of_mem_erase hx)
    ·obtain rfl : w = some i := by simpa using hw
     obtain ⟨e', w', rc', r, rfl, h1, h5, h6, h7, h2, h3, h4⟩ := okRest_some ok
     exact m.turn hpr chk2 self hi (fun x hx => h1 x (sub x hx)) (fun x hx => h5 x (sub x hx)) (fun x hx => h6 x (sub x hx)) h7 (fun x hx => hE x (List.mem_append.2 (.inl hx))) h3 fun f' g' h' m' => any_of_mom hpr hback chk2 self hA n m' h4 (fun x hx => hE x (List.mem_append.2 (.inr hx))) fun x hx => by
      rcases List.mem_append.1 hx with hx | hx
      ·exact List.mem_append.2 (.inl (sub x hx))
      ·exact List.mem_append.2 (.inr hx)
   ·exfalso
    obtain ⟨p,hp,hpp⟩ := okRest_waits ok i hmem
    have hl := hpreds p hp
    have hm : p ∈ Pn ++ w.toList ++ rest.flat := by rw [List.append_assoc]; exact List.mem_append.2 (.inr hpp)
    rw [(m.un p (m.lt p hm)).2 hm] at hl
    cases hl
theorem nodup_of : ∀ {l : List Nat},nodupB l = true → l.Nodup
 | [],_ => List.nodup_nil
 | x :: r,h => by
   simp only [nodupB, Bool.and_eq_true, Bool.not_eq_true', List.contains_eq_mem, decide_eq_false_iff_not] at h
   exact List.nodup_cons.2 ⟨h.1,nodup_of h.2⟩
theorem ready_iff {ops : Array Oper} (L : Array Bool) (i : Nat) : i ∈ Region.ready .any ops L ↔ i < ops.size ∧ L.getD i true = false ∧ ∀ p ∈ prOf ops i,L.getD p false = true := by
 rw [mem_ready]
 unfold prOf
 cases ho : ops[i]? with
 | none =>
   have : ¬ i < ops.size := fun h => by simp [h] at ho
   simp [this]
 | some o =>
   have hlt : i < ops.size := (Array.getElem?_eq_some_iff.1 ho).1
   simp only [hlt, true_and, Option.some.injEq, exists_eq_left', List.mem_map, List.mem_filter, Array.mem_toList_iff]
   constructor
   ·rintro ⟨h0,h⟩
    refine ⟨h0,?_⟩
    rintro p ⟨e,⟨he,hb⟩,rfl⟩
    exact h e he hb
   ·rintro ⟨h0,h⟩
    exact ⟨h0,fun e he hb => h _ ⟨e,⟨he,hb⟩,rfl⟩⟩
theorem plan_any {aos : Array AOper} (hA : ∀ (i : Nat) ao,aos[i]? = some ao → A i = ao) : ∀ {pl : Plan},planOk (prOf ops) A ops.size pl = true → awpD P (pl.code A) f h K →
  awpAny P ops aos K ops.size (Array.replicate ops.size false) f h
 | [],ok,_ => by simp [planOk] at ok
 | (e0,w0,rc0) :: r,ok,hh => by
   simp only [planOk, Bool.and_eq_true, List.all_eq_true, List.mem_range, decide_eq_true_eq, List.mem_filter, List.any_eq_true, List.contains_eq_mem, bne_iff_ne, beq_iff_eq, Bool.not_eq_true', decide_eq_false_iff_not] at ok
   obtain ⟨⟨⟨⟨⟨⟨⟨⟨⟨k1,k2⟩,k3⟩,k4⟩,k5⟩,k6⟩,k7⟩,k8⟩,k9⟩,k10⟩ := ok
   simp only [Plan.code,List.map_cons,awpD] at hh
   obtain ⟨g,hk,off,ps⟩ := pure_run (e := e0.map A) (later := []) (fun x hx => by
    obtain ⟨j,hj,rfl⟩ := List.mem_map.1 hx
    exact k9 j hj) (by simpa using k8) hh
   have hL : ∀ i,(Array.replicate ops.size false).getD i false = false := fun i => by
    unfold Array.getD
    split <;> simp
   refine any_of_mom (pr := prOf ops) (E := e0 ++ Plan.es r) (Pn := e0) ready_iff ?_ (fun i x hi hx hne ht => k2 i hi x ⟨hx,hne,ht⟩) (fun i hi t ht => k3 i hi t ht) hA ops.size
    (g := g) (w := w0) (rc := rc0) (rest := r) (sofar := e0) ⟨by simp,fun i hi => ?_,fun i hi => ⟨fun _ => k7 i hi,fun _ => hL i⟩,k4,nodup_of k5,k6,k9,fun x hx => ps _ (List.mem_map.2 ⟨x,hx,rfl⟩),fun t ht => (off t fun y hy => ?_).symm,fun x hx => List.mem_append.2 (.inl hx),hk⟩ k10 (fun x hx => List.mem_append.2 (.inr hx)) (fun x hx => hx)
   ·intro i p hp
    by_cases hi : i < ops.size
    ·exact k1 i hi p hp
    ·unfold prOf at hp
     have : ops[i]? = none := Array.getElem?_eq_none (Nat.le_of_not_lt hi)
     rw [this] at hp
     cases hp
   ·rw [hL] at hi
    cases hi
   ·obtain ⟨j,hj,rfl⟩ := List.mem_map.1 hy
    exact ht j hj
theorem opers_get {ops : Array Oper} {os : List Oper} {al : List AOper} (h : OpersOk P N ops os al) : ∀ (i : Nat) o,os[i]? = some o → ∃ ao,al[i]? = some ao ∧ OperOk P N ops o ao := by
 induction h with
 | nil => intro i o h; simp at h
 | cons h _ ih =>
   intro i o ho
   cases i with
   | zero =>
     simp only [List.getElem?_cons_zero,Option.some.injEq] at ho
     subst ho
     exact ⟨_,by simp,h⟩
   | succ i =>
     simp only [List.getElem?_cons_succ] at ho ⊢
     exact ih i o ho
end
end Go.Ab
