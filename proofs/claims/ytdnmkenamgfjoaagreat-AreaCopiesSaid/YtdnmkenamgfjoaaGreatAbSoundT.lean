/-
 Ab: regions whose order is drawn,by a tree: where operations that turn the heap are not ordered.
-/
import Derived.Test.YtdnmkenamgfjoaaGreatAbSoundF
set_option linter.unusedSimpArgs false
set_option linter.unusedVariables false
namespace Go.Ab
set_option linter.unusedSectionVars false
variable [Inhabited TabBox]
open Go
structure MomG (ops : Array Oper) (pr : Nat → List Nat) (A : Nat → AOper) (E : List Nat) (n : Nat) (L : Array Bool) (Pn fl : List Nat) (f g : AF) (h : Heap) (RUN : Prop) : Prop where
 size : L.size = ops.size
 dc : ∀ i,L.getD i false = true → ∀ p ∈ pr i,L.getD p false = true
 un : ∀ i,i < ops.size → (L.getD i false = false ↔ i ∈ Pn ++ fl)
 lt : ∀ i ∈ Pn ++ fl,i < ops.size
 nodup : (Pn ++ fl).Nodup
 count : (Pn ++ fl).length = n
 pure : ∀ x ∈ Pn,(A x).k.pure = true
 pend : ∀ x ∈ Pn,Go.Ab.pend (A x) g h
 agree : ∀ t,(∀ x ∈ Pn,t ∉ (A x).dsts) → f t = g t
 pnE : ∀ x ∈ Pn,x ∈ E
 run : RUN
section
variable {P : Program} {ops : Array Oper} {pr : Nat → List Nat} {A : Nat → AOper} {E : List Nat} {n : Nat} {L : Array Bool} {Pn fl : List Nat} {f g : AF} {h : Heap} {RUN : Prop}
theorem MomG.all_done (hpr : ∀ L i,i ∈ Region.ready .any ops L ↔ i < ops.size ∧ L.getD i true = false ∧ ∀ p ∈ pr i,L.getD p false = true) (hback : ∀ i p,p ∈ pr i → p < i)
  (m : MomG ops pr A E n L Pn fl f g h RUN) (hr : Region.ready .any ops L = []) : Pn ++ fl = [] := by
 have all : ∀ i,i < ops.size → L.getD i false = true := by
  intro i
  induction i using Nat.strongRecOn with
  | _ i ih =>
    intro hi
    cases hl : L.getD i false with
    | true => rfl
    | false =>
      have hs : i < L.size := by rw [m.size]; exact hi
      have ht : L.getD i true = false := by
       simp only [Array.getD,hs,dif_pos] at hl ⊢
       exact hl
      have : i ∈ Region.ready .any ops L := (hpr L i).2 ⟨hi,ht,fun p hp => ih p (hback i p hp) (by have := hback i p hp; omega)⟩
      rw [hr] at this
      cases this
 cases hc : Pn ++ fl with
 | nil => rfl
 | cons x r =>
   have hx : x ∈ Pn ++ fl := by rw [hc]; simp
   have hlt := m.lt x hx
   have := (m.un x hlt).2 hx
   rw [all x hlt] at this
   cases this
theorem MomG.pending {i : Nat} (hpr : ∀ L i,i ∈ Region.ready .any ops L ↔ i < ops.size ∧ L.getD i true = false ∧ ∀ p ∈ pr i,L.getD p false = true)
  (chk2 : ∀ i x,i < ops.size → x ∈ E → x ≠ i → (∃ t ∈ (A i).reads,t ∈ (A x).dsts) → x ∈ clos pr i [i]) (self : ∀ i ∈ E,∀ t ∈ (A i).reads,t ∉ (A i).dsts)
  (m : MomG ops pr A E (n + 1) L Pn fl f g h RUN) (hi : i ∈ Region.ready .any ops L) (hp : i ∈ Pn) {R : AF → Heap → Prop}
  (next : ∀ f', MomG ops pr A E n (L.setIfInBounds i true) (Pn.erase i) fl f' g h RUN → R f' h) : awpL P [A i] f h R := by
 obtain ⟨hlt,hun,hpreds⟩ := (hpr L i).1 hi
 have hs : i < L.size := by rw [m.size]; exact hlt
 have hnd := m.nodup
 have hndP : Pn.Nodup := (List.nodup_append.1 hnd).1
 refine pend_run (m.pure i hp) (m.pend i hp) (fun t ht => m.agree t fun x hx => ?_) (next _ ?_)
 ·intro hd
  by_cases hxi : x = i
  ·subst hxi; exact self _ (m.pnE _ hp) t ht hd
  ·have hxl := m.lt x (by simp [hx])
   have hc := chk2 i x hlt (m.pnE x hx) hxi ⟨t,ht,hd⟩
   rcases clos_listed (L := fun j => L.getD j false = true) m.dc hpreds i (S := [i]) (fun y hy => .inl (by simpa using hy)) x hc with e | hl
   ·exact hxi e
   ·have := (m.un x hxl).2 (by simp [hx])
    rw [this] at hl
    cases hl
 ·have herase : ∀ x,x ∈ Pn.erase i ↔ x ∈ Pn ∧ x ≠ i := fun x => by rw [hndP.mem_erase_iff]; exact ⟨fun q => ⟨q.2,q.1⟩,fun q => ⟨q.2,q.1⟩⟩
  have hnot : i ∉ fl := by
   intro hh
   rw [List.nodup_append] at hnd
   exact hnd.2.2 i hp i hh rfl
  refine ⟨by simp [m.size],?_,?_,?_,?_,?_,fun x hx => m.pure x ((herase x).1 hx).1,fun x hx => m.pend x ((herase x).1 hx).1,?_,fun x hx => m.pnE x ((herase x).1 hx).1,m.run⟩
  ·intro j hj p hpj
   rw [listed_set hs] at hj ⊢
   rcases hj with rfl | hj
   ·exact .inr (hpreds p hpj)
   ·exact .inr (m.dc j hj p hpj)
  ·intro j hj
   have := m.un j hj
   rw [List.mem_append] at this ⊢
   rw [herase]
   have hl := listed_set (j := j) hs
   constructor
   ·intro hf
    have hnl : ¬ (j = i ∨ L.getD j false = true) := fun q => by rw [hl.2 q] at hf; cases hf
    have hj0 : L.getD j false = false := by cases hq : L.getD j false with | false => rfl | true => exact absurd (.inr hq) hnl
    rcases this.1 hj0 with q | q
    ·exact .inl ⟨q,fun e => hnl (.inl e)⟩
    ·exact .inr q
   ·intro hm
    have hj0 : L.getD j false = false := this.2 (by rcases hm with q | q; exact .inl q.1; exact .inr q)
    have hne : j ≠ i := by rcases hm with q | q; exact q.2; exact fun e => hnot (e ▸ q)
    cases hq : (L.setIfInBounds i true).getD j false with
    | false => rfl
    | true =>
      rcases hl.1 hq with q | q
      ·exact absurd q hne
      ·rw [hj0] at q; cases q
  ·intro j hj
   rw [List.mem_append,herase] at hj
   exact m.lt j (by rw [List.mem_append]; rcases hj with q | q; exact .inl q.1; exact .inr q)
  ·exact hnd.sublist (List.Sublist.append (List.erase_sublist) (List.Sublist.refl _))
  ·have hc := m.count
   simp only [List.length_append] at hc ⊢
   rw [List.length_erase_of_mem hp]
   have : 0 < Pn.length := List.length_pos_of_mem hp
   omega
  ·intro t ht
   cases hd : (A i).dst with
   | none =>
     dsimp only
     refine m.agree t fun x hx => ?_
     by_cases hxi : x = i
     ·subst hxi; simp [AOper.dsts,hd]
     ·exact ht x ((herase x).2 ⟨hx,hxi⟩)
   | some d =>
     dsimp only
     by_cases htd : t = d
     ·subst htd; simp [fset]
     ·have : fset f d (g d) t = f t := by simp [fset,htd]
      rw [this]
      refine m.agree t fun x hx => ?_
      by_cases hxi : x = i
      ·subst hxi; simp [AOper.dsts,hd,htd]
      ·exact ht x ((herase x).2 ⟨hx,hxi⟩)
theorem MomG.turn {i : Nat} {e' fl' rc : List Nat} {R2 : AF → Heap → Prop} (hpr : ∀ L i,i ∈ Region.ready .any ops L ↔ i < ops.size ∧ L.getD i true = false ∧ ∀ p ∈ pr i,L.getD p false = true)
  (chk2 : ∀ i x,i < ops.size → x ∈ E → x ≠ i → (∃ t ∈ (A i).reads,t ∈ (A x).dsts) → x ∈ clos pr i [i]) (self : ∀ i ∈ E,∀ t ∈ (A i).reads,t ∉ (A i).dsts)
  (m : MomG ops pr A E (n + 1) L Pn fl f g h RUN) (hi : i ∈ Region.ready .any ops L) (hrun : awpL P [A i] g h (fun g h => arecheck (rc.map A) g h ∧ awpL P (e'.map A) g h R2))
  (hfl : ∀ j,j ∈ fl ↔ j = i ∨ j ∈ e' ++ fl') (hnd' : (i :: (e' ++ fl')).Nodup) (hlen : (i :: (e' ++ fl')).length = fl.length)
  (c1 : ∀ x ∈ Pn,(A x).k.indep = true ∨ x ∈ rc ∨ x ∈ clos pr i [i]) (c5 : ∀ x ∈ Pn,x ∈ clos pr i [i] ∨ ∀ t ∈ (A x).slots,t ∉ (A i).dsts)
  (c6 : ∀ x ∈ Pn, ∀ t ∈ (A x).slots, ∀ y ∈ e', t ∉ (A y).dsts) (c7 : okFlat (e'.map A) = true) (cE : ∀ x ∈ e', x ∈ E) (c3 : ∀ j ∈ e', (A j).k.pure = true) {R : AF → Heap → Prop}
  (next : ∀ f' g' h', MomG ops pr A E n (L.setIfInBounds i true) (Pn ++ e') fl' f' g' h' (R2 g' h') → R f' h') : awpL P [A i] f h R := by
 obtain ⟨hlt,hun,hpreds⟩ := (hpr L i).1 hi
 have hs : i < L.size := by rw [m.size]; exact hlt
 have waits : ∀ x ∈ Pn,x ∉ clos pr i [i] := fun x hx hc => by
  have hxl := m.lt x (by simp [hx])
  rcases clos_listed (L := fun j => L.getD j false = true) m.dc hpreds i (S := [i]) (fun y hy => .inl (by simpa using hy)) x hc with e | hl
  ·subst e
   have hnd := m.nodup
   rw [List.nodup_append] at hnd
   exact hnd.2.2 _ hx _ ((hfl _).2 (.inl rfl)) rfl
  ·have := (m.un x hxl).2 (by simp [hx])
   rw [this] at hl
   cases hl
 have hnd := m.nodup
 rw [List.nodup_append] at hnd
 have hiP : i ∉ Pn := fun q => hnd.2.2 _ q _ ((hfl _).2 (.inl rfl)) rfl
 have hie : i ∉ e' ++ fl' := (List.nodup_cons.1 hnd').1
 have hr : ∀ t ∈ (A i).reads,f t = g t := fun t ht => m.agree t fun x hx hd => waits x hx (chk2 i x hlt (m.pnE x hx) (fun e => hiP (e ▸ hx)) ⟨t,ht,hd⟩)
 refine awpL_imp ?_ (agree_run hr hrun)
 rintro f1 h1 ⟨g1,⟨hrc,hrest⟩,off,same⟩
 obtain ⟨g2,hk,off2,pend2⟩ := pure_run (e := e'.map A) (later := []) (fun x hx => by
  obtain ⟨j,hj,rfl⟩ := List.mem_map.1 hx
  exact c3 j hj) (by simpa using c7) hrest
 have sepi : ∀ x ∈ Pn,(∀ t ∈ (A x).reads,t ∉ (A i).dsts) ∧ ∀ t ∈ (A x).dsts,t ∉ (A i).dsts := fun x hx => by
  rcases c5 x hx with q | q
  ·exact absurd q (waits x hx)
  ·exact ⟨fun t ht => q t (List.mem_append.2 (.inl ht)),fun t ht => q t (List.mem_append.2 (.inr ht))⟩
 have sepe : ∀ x ∈ Pn, ∀ y ∈ e', (∀ t ∈ (A x).reads, t ∉ (A y).dsts) ∧ ∀ t ∈ (A x).dsts, t ∉ (A y).dsts := fun x hx y hy =>
  ⟨fun t ht => c6 x hx t (List.mem_append.2 (.inl ht)) y hy,fun t ht => c6 x hx t (List.mem_append.2 (.inr ht)) y hy⟩
 have keepR : ∀ x ∈ Pn,∀ t ∈ (A x).reads,g1 t = g t ∧ g2 t = g1 t := fun x hx t ht => ⟨(off t ((sepi x hx).1 t ht)).2,off2 t fun y hy => by
  obtain ⟨j,hj,rfl⟩ := List.mem_map.1 hy
  exact (sepe x hx j hj).1 t ht⟩
 have keepD : ∀ x ∈ Pn,∀ t ∈ (A x).dsts,g1 t = g t ∧ g2 t = g1 t := fun x hx t ht => ⟨(off t ((sepi x hx).2 t ht)).2,off2 t fun y hy => by
  obtain ⟨j,hj,rfl⟩ := List.mem_map.1 hy
  exact (sepe x hx j hj).2 t ht⟩
 refine next f1 g2 h1 ⟨by simp [m.size],?_,?_,?_,?_,?_,?_,?_,?_,?_,hk⟩
 ·intro j hj p hpj
  rw [listed_set hs] at hj ⊢
  rcases hj with rfl | hj
  ·exact .inr (hpreds p hpj)
  ·exact .inr (m.dc j hj p hpj)
 ·intro j hj
  have hu := m.un j hj
  have hl := listed_set (j := j) hs
  have hu2 : j ∈ Pn ++ fl ↔ j ∈ Pn ∨ j = i ∨ j ∈ e' ++ fl' := by rw [List.mem_append,hfl]
  rw [hu2] at hu
  have hg : j ∈ Pn ++ e' ++ fl' ↔ j ∈ Pn ∨ j ∈ e' ++ fl' := by rw [List.append_assoc,List.mem_append]
  rw [hg]
  constructor
  ·intro hf
   have hnl : ¬ (j = i ∨ L.getD j false = true) := fun q => by rw [hl.2 q] at hf; cases hf
   have hj0 : L.getD j false = false := by cases hq : L.getD j false with | false => rfl | true => exact absurd (.inr hq) hnl
   rcases hu.1 hj0 with q | q | q
   ·exact .inl q
   ·exact absurd (.inl q) hnl
   ·exact .inr q
  ·intro hm
   have hj0 : L.getD j false = false := hu.2 (hm.imp id .inr)
   have hne : j ≠ i := fun e => by
    subst e
    rcases hm with q | q
    ·exact hiP q
    ·exact hie q
   cases hq : (L.setIfInBounds i true).getD j false with
   | false => rfl
   | true =>
     rcases hl.1 hq with q | q
     ·exact absurd q hne
     ·rw [hj0] at q; cases q
 ·intro j hj
  rw [List.append_assoc,List.mem_append] at hj
  exact m.lt j (List.mem_append.2 (hj.imp id fun q => (hfl j).2 (.inr q)))
 ·rw [List.append_assoc]
  refine List.nodup_append.2 ⟨hnd.1,(List.nodup_cons.1 hnd').2,fun x hx y hy => hnd.2.2 x hx y ((hfl y).2 (.inr hy))⟩
 ·have := m.count
  simp only [List.length_append,List.length_cons] at this hlen ⊢
  omega
 ·intro x hx
  rcases List.mem_append.1 hx with hx | hx
  ·exact m.pure x hx
  ·exact c3 x hx
 ·intro x hx
  rcases List.mem_append.1 hx with hx | hx
  ·have hrr : ∀ t ∈ (A x).reads,g2 t = g t := fun t ht => ((keepR x hx t ht).2).trans (keepR x hx t ht).1
   have hdd : ∀ t ∈ (A x).dsts,g2 t = g t := fun t ht => ((keepD x hx t ht).2).trans (keepD x hx t ht).1
   have pm := m.pend x hx
   refine pend_on pm hrr hdd fun hg => ?_
   have hold := pend_old pm hg
   rcases c1 x hx with hind | hrx | hcl
   ·obtain ⟨v,e,hd⟩ := hold
    refine ⟨v,?_,fun d q => (hdd d (by simp [AOper.dsts,q])).trans (hd d q)⟩
    rw [aop_congr (agree_opds hrr)]
    exact AK.indep_heap hind e
   ·have hg1 : (match (A x).g with | some (t,want) => g1 t = .bool want | none => True) := by
     split
     ·rename_i t want hgd
      rw [hgd] at hg
      rw [(keepR x hx t (by simp [AOper.reads,hgd])).1]
      exact hg
     ·trivial
    obtain ⟨v,e,hd⟩ := arecheck_pend hrc (A x) (List.mem_map.2 ⟨x,hrx,rfl⟩) hg1
    refine ⟨v,?_,fun d q => (keepD x hx d (by simp [AOper.dsts,q])).2.trans (hd d q)⟩
    rw [aop_congr (agree_opds fun t ht => (keepR x hx t ht).2)]
    exact e
   ·exact absurd hcl (waits x hx)
  ·exact pend2 (A x) (List.mem_map.2 ⟨x,hx,rfl⟩)
 ·intro t ht
  have h2 : g2 t = g1 t := off2 t fun y hy => by
   obtain ⟨j,hj,rfl⟩ := List.mem_map.1 hy
   exact ht j (by simp [hj])
  rw [h2]
  by_cases hti : t ∈ (A i).dsts
  ·exact same t hti
  ·rw [(off t hti).1,(off t hti).2]
   exact m.agree t fun x hx => ht x (by simp [hx])
 ·intro x hx
  rcases List.mem_append.1 hx with hx | hx
  ·exact m.pnE x hx
  ·exact cE x hx
theorem awpT_br {K : AF → Heap → Prop} (b : Bool) {w : AOper} {rc e : List AOper} {t alt : DT} {f : AF} {h : Heap} : awpT P b (.br w rc e t alt) f h K =
  (awpL P [w] f h (fun g h => arecheck rc g h ∧ awpL P e g h (fun g h => awpT P true t g h K)) ∧ awpT P false alt f h K) := by cases b <;> rfl
theorem okT_br {b : Bool} {sofar fl : List Nat} {w : Nat} {rc e : List Nat} {t alt : PT} (hh : okT pr A b sofar fl (.br w rc e t alt) = true) :
  (∀ x ∈ sofar,(A x).k.indep = true ∨ x ∈ rc ∨ x ∈ clos pr w [w]) ∧ (∀ x ∈ sofar,x ∈ clos pr w [w] ∨ ∀ t ∈ (A x).slots,t ∉ (A w).dsts) ∧
   (∀ x ∈ sofar,∀ t ∈ (A x).slots,∀ y ∈ e,t ∉ (A y).dsts) ∧ okFlat (e.map A) = true ∧ (∀ i ∈ e,(A i).k.pure = true) ∧
   (∀ j,j ∈ fl ↔ j = w ∨ j ∈ e ++ t.flat) ∧ (w :: (e ++ t.flat)).Nodup ∧ (w :: (e ++ t.flat)).length = fl.length ∧
   (b = true → ∀ j ∈ fl,j ∈ (PT.br w rc e t alt).ws ∨ ∃ p ∈ pr j,p ∈ fl) ∧ okT pr A true (sofar ++ e) t.flat t = true ∧ okT pr A false sofar fl alt = true := by
 have e0 : okT pr A b sofar fl (.br w rc e t alt) = ((sofar.all fun x => (A x).k.indep || rc.contains x || (clos pr w [w]).contains x) &&
   (sofar.all fun x => (clos pr w [w]).contains x || (A x).slots.all fun t => !(A w).dsts.contains t) &&
   (sofar.all fun x => (A x).slots.all fun t => e.all fun y => !(A y).dsts.contains t) && okFlat (e.map A) && (e.all fun i => (A i).k.pure) &&
   (fl.all fun j => j == w || (e ++ t.flat).contains j) && ((w :: (e ++ t.flat)).all fun j => fl.contains j) && nodupB (w :: (e ++ t.flat)) && (w :: (e ++ t.flat)).length == fl.length &&
   (!b || (fl.all fun j => (PT.br w rc e t alt).ws.contains j || (pr j).any fun p => fl.contains p)) &&
   okT pr A true (sofar ++ e) t.flat t && okT pr A false sofar fl alt) := by cases b <;> rfl
 rw [e0] at hh
 simp only [Bool.and_eq_true, List.all_eq_true, List.any_eq_true, Bool.or_eq_true, beq_iff_eq, List.contains_eq_mem, decide_eq_true_eq, Bool.not_eq_true', decide_eq_false_iff_not] at hh
 obtain ⟨⟨⟨⟨⟨⟨⟨⟨⟨⟨⟨h1,h2⟩,h3⟩,h4⟩,h5⟩,h6⟩,h7⟩,h8⟩,h9⟩,h10⟩,h11⟩,h12⟩ := hh
 refine ⟨fun x hx => ?_,h2,h3,h4,h5,fun j => ⟨h6 j,fun q => h7 j ?_⟩,nodup_of h8,h9,fun hb j hj => ?_,h11,h12⟩
 ·rcases h1 x hx with (q | q) | q
  ·exact .inl q
  ·exact .inr (.inl q)
  ·exact .inr (.inr q)
 ·rcases q with rfl | q
  ·exact List.mem_cons_self
  ·exact List.mem_cons_of_mem _ q
 ·subst hb
  rcases h10 with q | q
  ·cases q
  ·exact q j hj
theorem branch_at {K : AF → Heap → Prop} {i : Nat} {sofar : List Nat} : ∀ {t : PT} {b : Bool},okT pr A b sofar fl t = true → awpT P b (t.code A) g h K → i ∈ t.ws → ∃ (rc e : List Nat) (t' : PT),
  awpL P [A i] g h (fun g h => arecheck (rc.map A) g h ∧ awpL P (e.map A) g h (fun g h => awpT P true (t'.code A) g h K)) ∧
  (∀ x ∈ sofar,(A x).k.indep = true ∨ x ∈ rc ∨ x ∈ clos pr i [i]) ∧ (∀ x ∈ sofar,x ∈ clos pr i [i] ∨ ∀ t ∈ (A x).slots,t ∉ (A i).dsts) ∧
  (∀ x ∈ sofar,∀ t ∈ (A x).slots,∀ y ∈ e,t ∉ (A y).dsts) ∧ okFlat (e.map A) = true ∧ (∀ i ∈ e,(A i).k.pure = true) ∧
  (∀ j,j ∈ fl ↔ j = i ∨ j ∈ e ++ t'.flat) ∧ (i :: (e ++ t'.flat)).Nodup ∧ (i :: (e ++ t'.flat)).length = fl.length ∧ okT pr A true (sofar ++ e) t'.flat t' = true ∧ (∀ x ∈ t'.es,x ∈ t.es) ∧ ∀ x ∈ e,x ∈ t.es
 | .nil,b,_,_,hi => by cases hi
 | .br w rc e t alt,b,ok,run,hi => by
   obtain ⟨h1,h2,h3,h4,h5,h6,h7,h8,_,h9,h10⟩ := okT_br ok
   have run' : awpT P b (.br (A w) (rc.map A) (e.map A) (t.code A) (alt.code A)) g h K := run
   rw [awpT_br] at run'
   by_cases hw : i = w
   ·subst hw
    exact ⟨rc,e,t,run'.1,h1,h2,h3,h4,h5,h6,h7,h8,h9,fun x hx => List.mem_append.2 (.inl (List.mem_append.2 (.inr hx))),fun x hx => List.mem_append.2 (.inl (List.mem_append.2 (.inl hx)))⟩
   ·have hi' : i ∈ alt.ws := by
     rcases List.mem_cons.1 hi with q | q
     ·exact absurd q hw
     ·exact q
    obtain ⟨rc', e', t', q1, q2, q3, q4, q5, q6, q7, q8, q9, q10, q11, q12⟩ := branch_at h10 run'.2 hi'
    exact ⟨rc', e', t', q1, q2, q3, q4, q5, q6, q7, q8, q9, q10, fun x hx => List.mem_append.2 (.inr (q11 x hx)), fun x hx => List.mem_append.2 (.inr (q12 x hx))⟩
theorem MomG.final {K : AF → Heap → Prop} {t : PT} {sofar : List Nat} (m : MomG ops pr A E n L Pn fl f g h (awpT P true (t.code A) g h K)) (ok : okT pr A true sofar fl t = true) (he : Pn ++ fl = []) : K f h := by
 rw [List.append_eq_nil_iff] at he
 obtain ⟨rfl,rfl⟩ := he
 cases t with
 | nil =>
   have hfg : f = g := funext fun t => m.agree t (by simp)
   rw [hfg]
   exact m.run
 | br w rc e t alt =>
   have := ((okT_br ok).2.2.2.2.2.1 w).2 (.inl rfl)
   cases this
theorem any_of_momT {aos : Array AOper} {K : AF → Heap → Prop} (hpr : ∀ L i,i ∈ Region.ready .any ops L ↔ i < ops.size ∧ L.getD i true = false ∧ ∀ p ∈ pr i,L.getD p false = true) (hback : ∀ i p,p ∈ pr i → p < i)
  (chk2 : ∀ i x,i < ops.size → x ∈ E → x ≠ i → (∃ t ∈ (A i).reads,t ∈ (A x).dsts) → x ∈ clos pr i [i]) (self : ∀ i ∈ E,∀ t ∈ (A i).reads,t ∉ (A i).dsts)
  (hA : ∀ (i : Nat) ao,aos[i]? = some ao → A i = ao) : ∀ (n : Nat) {L : Array Bool} {Pn fl : List Nat} {t : PT} {f g : AF} {h : Heap} {sofar : List Nat},
  MomG ops pr A E n L Pn fl f g h (awpT P true (t.code A) g h K) → okT pr A true sofar fl t = true → (∀ x ∈ t.es,x ∈ E) → (∀ x ∈ Pn,x ∈ sofar) → awpAny P ops aos K n L f h
 | 0,L,Pn,fl,t,f,g,h,sofar,m,ok,hE,sub => by
   have he : Pn ++ fl = [] := List.eq_nil_of_length_eq_zero m.count
   refine ⟨List.eq_nil_iff_forall_not_mem.2 fun i hi => ?_,m.final ok he⟩
   obtain ⟨hlt,hun,_⟩ := (hpr L i).1 hi
   have := (m.un i hlt).1 (getD_tf (by rw [m.size]; exact hlt) hun)
   rw [he] at this
   cases this
 | n + 1,L,Pn,fl,t,f,g,h,sofar,m,ok,hE,sub => by
   refine ⟨fun hr => m.final ok (m.all_done hpr hback hr),fun i hi ao ha => ?_⟩
   obtain ⟨hlt,hun,hpreds⟩ := (hpr L i).1 hi
   have hmem := (m.un i hlt).1 (getD_tf (by rw [m.size]; exact hlt) hun)
   rw [← hA i ao ha]
   rcases List.mem_append.1 hmem with hp | hw
   ·exact m.pending hpr chk2 self hi hp fun f' m' => any_of_momT hpr hback chk2 self hA n m' ok hE fun x hx => sub x (List.mem_of_mem_erase hx)
   ·have hws : i ∈ t.ws := by
     cases t with
     | nil =>
       have : fl = [] := by simpa [okT] using ok
       rw [this] at hw
       cases hw
     | br w rc e t alt =>
       obtain ⟨_,_,_,_,_,_,_,_,hwt,_,_⟩ := okT_br ok
       rcases hwt rfl i hw with q | ⟨p,hp,hpf⟩
       ·exact q
       ·exfalso
        have hl := hpreds p hp
        have hm : p ∈ Pn ++ fl := List.mem_append.2 (.inr hpf)
        rw [(m.un p (m.lt p hm)).2 hm] at hl
        cases hl
    obtain ⟨rc, e, t', q1, q2, q3, q4, q5, q6, q7, q8, q9, q10, q11, q12⟩ := branch_at ok m.run hws
    exact m.turn hpr chk2 self hi q1 q7 q8 q9 (fun x hx => q2 x (sub x hx)) (fun x hx => q3 x (sub x hx)) (fun x hx => q4 x (sub x hx)) q5 (fun x hx => hE x (q12 x hx)) q6 fun f' g' h' m' => any_of_momT hpr hback chk2 self hA n m' q10 (fun x hx => hE x (q11 x hx)) fun x hx => by
      rcases List.mem_append.1 hx with hx | hx
      ·exact List.mem_append.2 (.inl (sub x hx))
      ·exact List.mem_append.2 (.inr hx)
theorem tree_any {aos : Array AOper} {K : AF → Heap → Prop} (hA : ∀ (i : Nat) ao,aos[i]? = some ao → A i = ao) {e0 : List Nat} {t : PT} (ok : treeOk (prOf ops) A ops.size e0 t = true)
  (hh : awpL P (e0.map A) f h fun f h => awpT P true (t.code A) f h K) : awpAny P ops aos K ops.size (Array.replicate ops.size false) f h := by
 simp only [treeOk, Bool.and_eq_true, List.all_eq_true, List.mem_range, decide_eq_true_eq, List.mem_filter, List.any_eq_true, List.contains_eq_mem, bne_iff_ne, beq_iff_eq, Bool.not_eq_true', decide_eq_false_iff_not] at ok
 obtain ⟨⟨⟨⟨⟨⟨⟨⟨⟨k1,k2⟩,k3⟩,k4⟩,k5⟩,k6⟩,k7⟩,k8⟩,k9⟩,k10⟩ := ok
 obtain ⟨g,hk,off,ps⟩ := pure_run (e := e0.map A) (later := []) (fun x hx => by
  obtain ⟨j,hj,rfl⟩ := List.mem_map.1 hx
  exact k9 j hj) (by simpa using k8) hh
 have hL : ∀ i,(Array.replicate ops.size false).getD i false = false := fun i => by
  unfold Array.getD
  split <;> simp
 refine any_of_momT (pr := prOf ops) (E := e0 ++ t.es) (Pn := e0) (fl := t.flat) (t := t) ready_iff ?_ (fun i x hi hx hne ht => k2 i hi x ⟨hx,hne,ht⟩) (fun i hi t ht => k3 i hi t ht) hA ops.size
  (g := g) (sofar := e0) ⟨by simp,fun i hi => ?_,fun i hi => ⟨fun _ => k7 i hi,fun _ => hL i⟩,k4,nodup_of k5,k6,k9,fun x hx => ps _ (List.mem_map.2 ⟨x,hx,rfl⟩),fun t ht => (off t fun y hy => ?_).symm,fun x hx => List.mem_append.2 (.inl hx),hk⟩ k10 (fun x hx => List.mem_append.2 (.inr hx)) (fun x hx => hx)
 ·intro i p hp
  by_cases hi : i < ops.size
  ·exact k1 i hi p hp
  ·unfold prOf at hp
   have : ops[i]? = none := Array.getElem?_eq_none (Nat.le_of_not_lt hi)
   rw [this] at hp
   cases hp
 ·rw [hL] at hi
  cases hi
 ·obtain ⟨j,hj,rfl⟩ := List.mem_map.1 hy
  exact ht j hj
variable {N : Nat}
theorem draw_ok {B n0 : Nat} {μ0 : Mu} {w0 : World} {ops : Array Oper} {al : List AOper} {ac : AC} {Q : Exit → Act → World → Prop} {id : Nat}
  (hm : P.follows .mixedOrders = true) (ok : OpersOk P N ops ops.toList al) (hc : compDraw ops al = some ac)
  {f : AF} {h : Heap} {a : Act} {w : World} {μ : Mu} (s : St B n0 N μ0 w0 f h a w μ) {QQ : AQ} (hh : awp P n0 ac QQ f h)
  (hq : ∀ f h a w μ,St B n0 N μ0 w0 f h a w μ → QQ .normal f h → Q .normal a w) : (Code.region id ops true).wp P Q a w := by
 unfold compDraw at hc
 dsimp only at hc
 split at hc
 ·split at hc
  ·rename_i hpl
   cases hc
   refine region_any_ok (aos := al.toArray) hm (fun i o ho => ?_) s (plan_any (fun i ao ha => ?_) hpl hh) hq
   ·obtain ⟨ao,h1,h2⟩ := opers_get ok i o (by simpa using ho)
    exact ⟨ao,by simpa using h1,h2⟩
   ·have : al[i]? = some ao := by simpa using ha
    simp [List.getD,this]
  ·cases hc
 ·split at hc
  ·rename_i hpl
   cases hc
   refine region_any_ok (aos := al.toArray) hm (fun i o ho => ?_) s (tree_any (fun i ao ha => ?_) hpl hh) hq
   ·obtain ⟨ao,h1,h2⟩ := opers_get ok i o (by simpa using ho)
    exact ⟨ao,by simpa using h1,h2⟩
   ·have : al[i]? = some ao := by simpa using ha
    simp [List.getD,this]
  ·cases hc
end
end Go.Ab
