/-
 Ab: steps of states: a new block,a block turned,a block moved on.
-/
import Derived.Test.YtdnmkenamgfjoaaGreatAbOps
import Derived.Laws.IdiomCopy
namespace Go.Ab
set_option linter.unusedSectionVars false
variable [Inhabited TabBox]
open Go.RowKit
def Mu.ext (μ : Mu) (n : Nat) (mi : MI) : Mu := fun b => if b = n then some mi else μ b
theorem Mu.ext_same (μ : Mu) (n : Nat) (mi : MI) : μ.ext n mi n = some mi := if_pos rfl
theorem Mu.ext_other (μ : Mu) {n b : Nat} (mi : MI) (h : b ≠ n) : μ.ext n mi b = μ b := if_neg h
structure SameBut (w w' : World) : Prop where
 os : w'.os = w.os
 tape : w'.tape = w.tape
 output : w'.output = w.output
theorem SameBut.refl (w : World) : SameBut w w := ⟨rfl,rfl,rfl⟩
section
variable {B n0 N : Nat} {μ0 : Mu} {w0 : World} {f : AF} {h : Heap} {a : Act} {w : World} {μ : Mu}
theorem St.ext_mono (s : St B n0 N μ0 w0 f h a w μ) (mi : MI) : ∀ b m,μ b = some m → μ.ext h.n mi b = some m := by
 intro b m e
 have := (s.rel.dom b m e).1
 rw [Mu.ext_other _ _ (by omega)]; exact e
theorem HRel.ext_mono {B : Nat} {μ : Mu} {h : Heap} {w : World} (s : HRel B μ h w) (mi : MI) : ∀ b m,μ b = some m → μ.ext h.n mi b = some m := by
 intro b m e
 have := (s.dom b m e).1
 rw [Mu.ext_other _ _ (by omega)]; exact e
theorem HRel.push (s : HRel B μ h w) {w' : World} {o : AObj} {obj : Obj} {mi : MI} (hw : w'.heap = w.heap.push obj) (hc : mi.cb = w.heap.size)
  (ho : ORel (μ.ext h.n mi) mi o (some obj)) : HRel B (μ.ext h.n mi) (h.push o) w' where
 base := by rw [hw,Array.size_push]; have := s.base; omega
 dom := fun b m e => by
  rw [hw,Array.size_push]
  show b < h.n + 1 ∧ _
  by_cases hb : b = h.n
  ·subst hb; rw [Mu.ext_same] at e; cases e; omega
  ·rw [Mu.ext_other _ _ hb] at e; have := s.dom b m e; omega
 obj := fun b o' e => by
  by_cases hb : b = h.n
  ·subst hb
   simp only [Heap.push,if_true] at e
   cases e
   exact ⟨mi,Mu.ext_same _ _ _,by rw [hw,hc,Array.getElem?_push_size]; exact ho⟩
  ·simp only [Heap.push,if_neg hb] at e
   obtain ⟨m,hm,r⟩ := s.obj b o' e
   have hlt := (s.dom b m hm).2
   refine ⟨m,(Mu.ext_other _ _ hb).trans hm,?_⟩
   rw [hw,Array.getElem?_push,if_neg (by omega)]
   exact r.mono (n := h.n) (fun b hb => Mu.ext_other _ _ (by omega)) (s.closed b o' e).2
 own := fun b o' m e hm hrw => by
  by_cases hb : b = h.n
  ·subst hb
   rw [Mu.ext_same] at hm; cases hm
   refine ⟨by rw [hc]; exact s.base,fun b2 o2 m2 e2 hm2 hcb => ?_⟩
   by_cases hb2 : b2 = h.n
   ·exact hb2
   ·rw [Mu.ext_other _ _ hb2] at hm2
    have := (s.dom b2 m2 hm2).2; omega
  ·simp only [Heap.push,if_neg hb] at e
   rw [Mu.ext_other _ _ hb] at hm
   obtain ⟨h1,h2⟩ := s.own b o' m e hm hrw
   refine ⟨h1,fun b2 o2 m2 e2 hm2 hcb => ?_⟩
   by_cases hb2 : b2 = h.n
   ·subst hb2
    rw [Mu.ext_same] at hm2; cases hm2
    have := (s.dom b m hm).2; omega
   ·simp only [Heap.push,if_neg hb2] at e2
    rw [Mu.ext_other _ _ hb2] at hm2
    exact h2 b2 o2 m2 e2 hm2 hcb
 glob := s.glob.keep fun k hk => by
  have := s.base
  rw [hw,Array.getElem?_push,if_neg (by omega)]
theorem St.push (s : St B n0 N μ0 w0 f h a w μ) {w' : World} {o : AObj} {obj : Obj} {mi : MI} (hw : w'.heap = w.heap.push obj) (hs : SameBut w w') (hc : mi.cb = w.heap.size)
  (ho : ORel (μ.ext h.n mi) mi o (some obj)) : St B n0 N μ0 w0 f (h.push o) a w' (μ.ext h.n mi) where
 rel := s.rel.push hw hc ho
 fr := ⟨s.fr.1,fun i hi => (s.fr.2 i hi).mono' (s.ext_mono mi)⟩
 nod := s.nod
 bel := s.bel.trans ⟨hs.os,hs.tape,hs.output,by rw [hw,Array.size_push]; omega,fun k hk => by
  have := s.rel.base
  rw [hw,Array.getElem?_push,if_neg (by omega)]⟩
 ext := fun b hb => by have := s.le; rw [Mu.ext_other _ _ (by omega)]; exact s.ext b hb
 le := by have := s.le; show n0 ≤ h.n + 1; omega
theorem St.same (s : St B n0 N μ0 w0 f h a w μ) {w' : World} (hw : w'.heap = w.heap) (hs : SameBut w w') : St B n0 N μ0 w0 f h a w' μ where
 rel := ⟨by rw [hw]; exact s.rel.base,by rw [hw]; exact s.rel.dom,by rw [hw]; exact s.rel.obj,s.rel.own,s.rel.glob.keep fun k _ => by rw [hw]⟩
 fr := s.fr
 nod := s.nod
 bel := s.bel.trans ⟨hs.os,hs.tape,hs.output,by rw [hw]; exact Nat.le_refl _,fun k _ => by rw [hw]⟩
 ext := s.ext
 le := s.le
theorem HRel.setBlk (s : HRel B μ h w) {w' : World} {b : Nat} {o o' : AObj} {mi : MI} {obj : Obj} (hb : h.m b = some o) (hm : μ b = some mi) (hrw : o.rw = true)
  (hw : ∀ k,w'.heap[k]? = if k = mi.cb then some obj else w.heap[k]?) (hsz : w'.heap.size = w.heap.size)
  (ho : ORel μ mi o' (some obj)) : HRel B μ (h.set b o') w' where
 base := by rw [hsz]; exact s.base
 dom := fun b m e => by rw [hsz]; exact s.dom b m e
 obj := fun b2 o2 e => by
  by_cases hbb : b2 = b
  ·subst hbb
   simp only [Heap.set,if_true] at e
   cases e
   exact ⟨mi,hm,by rw [hw,if_pos rfl]; exact ho⟩
  ·simp only [Heap.set,if_neg hbb] at e
   obtain ⟨m,hm2,r⟩ := s.obj b2 o2 e
   refine ⟨m,hm2,?_⟩
   rw [hw,if_neg fun hc => hbb ((s.own b o mi hb hm hrw).2 b2 o2 m e hm2 hc)]
   exact r
 own := fun b2 o2 m e hm2 hr => by
  have key : ∀ b3 o3,(h.set b o').m b3 = some o3 → ∃ o4,h.m b3 = some o4 := by
   intro b3 o3 e3
   by_cases hbb : b3 = b
   ·subst hbb; exact ⟨o,hb⟩
   ·simp only [Heap.set,if_neg hbb] at e3; exact ⟨o3,e3⟩
  by_cases hbb : b2 = b
  ·subst hbb
   rw [hm] at hm2; cases hm2
   obtain ⟨h1,h2⟩ := s.own b2 o mi hb hm hrw
   refine ⟨h1,fun b3 o3 m3 e3 hm3 hc => ?_⟩
   obtain ⟨o4,e4⟩ := key b3 o3 e3
   exact h2 b3 o4 m3 e4 hm3 hc
  ·simp only [Heap.set,if_neg hbb] at e
   obtain ⟨h1,h2⟩ := s.own b2 o2 m e hm2 hr
   refine ⟨h1,fun b3 o3 m3 e3 hm3 hc => ?_⟩
   obtain ⟨o4,e4⟩ := key b3 o3 e3
   exact h2 b3 o4 m3 e4 hm3 hc
 glob := s.glob.keep fun k hk => by
  have := (s.own b o mi hb hm hrw).1
  rw [hw,if_neg (by omega)]
theorem St.setBlk (s : St B n0 N μ0 w0 f h a w μ) {w' : World} {b : Nat} {o o' : AObj} {mi : MI} {obj : Obj} (hb : h.m b = some o) (hm : μ b = some mi) (hrw : o.rw = true)
  (hw : ∀ k,w'.heap[k]? = if k = mi.cb then some obj else w.heap[k]?) (hsz : w'.heap.size = w.heap.size) (hs : SameBut w w')
  (ho : ORel μ mi o' (some obj)) : St B n0 N μ0 w0 f (h.set b o') a w' μ where
 rel := s.rel.setBlk hb hm hrw hw hsz ho
 fr := s.fr
 nod := s.nod
 bel := s.bel.trans ⟨hs.os,hs.tape,hs.output,by omega,fun k hk => by
  have := (s.rel.own b o mi hb hm hrw).1
  rw [hw,if_neg (by omega)]⟩
 ext := s.ext
 le := s.le
theorem HRel.move (s : HRel B μ h w) {w' : World} {b : Nat} {o o' : AObj} {mi mi' : MI} {obj : Obj} (hb : h.m b = some o) (hm : μ b = some mi) (hrw : o.rw = true)
  (hw : ∀ k,w'.heap[k]? = if k = mi.cb then some obj else w.heap[k]?) (hsz : w'.heap.size = w.heap.size) (hcb : mi'.cb = mi.cb)
  (ho : ORel (μ.ext h.n mi') mi' o' (some obj)) : HRel B (μ.ext h.n mi') ((h.kill b).push o') w' := by
 have hlt := (s.dom b mi hm).2
 have own := s.own b o mi hb hm hrw
 have old : ∀ b2 o2,b2 ≠ h.n → ((h.kill b).push o').m b2 = some o2 → b2 ≠ b ∧ h.m b2 = some o2 := by
  intro b2 o2 hb2 e
  have e : (if b2 = h.n then some o' else if b2 = b then none else h.m b2) = some o2 := e
  rw [if_neg hb2] at e
  split at e
  ·cases e
  ·exact ⟨by assumption,e⟩
 constructor
 ·rw [hsz]; exact s.base
 ·intro b2 m e
  rw [hsz]
  show b2 < h.n + 1 ∧ _
  by_cases hb2 : b2 = h.n
  ·subst hb2; rw [Mu.ext_same] at e; cases e; omega
  ·rw [Mu.ext_other _ _ hb2] at e; have := s.dom b2 m e; omega
 ·intro b2 o2 e
  by_cases hb2 : b2 = h.n
  ·subst hb2
   have e : (if h.n = h.n then some o' else if h.n = b then none else h.m h.n) = some o2 := e
   rw [if_pos rfl] at e
   cases e
   exact ⟨mi', Mu.ext_same _ _ _, by rw [hw, hcb, if_pos rfl]; exact ho⟩
  ·obtain ⟨hne,e'⟩ := old b2 o2 hb2 e
   obtain ⟨m,hm2,r⟩ := s.obj b2 o2 e'
   refine ⟨m,(Mu.ext_other _ _ hb2).trans hm2,?_⟩
   rw [hw,if_neg fun hc => hne (own.2 b2 o2 m e' hm2 hc)]
   exact r.mono (n := h.n) (fun b hb => Mu.ext_other _ _ (by omega)) (s.closed b2 o2 e').2
 ·intro b2 o2 m e hm2 hr
  by_cases hb2 : b2 = h.n
  ·subst hb2
   rw [Mu.ext_same] at hm2; cases hm2
   refine ⟨by rw [hcb]; exact own.1,fun b3 o3 m3 e3 hm3 hc => ?_⟩
   by_cases hb3 : b3 = h.n
   ·exact hb3
   ·obtain ⟨hne,e'⟩ := old b3 o3 hb3 e3
    rw [Mu.ext_other _ _ hb3] at hm3
    exact absurd (own.2 b3 o3 m3 e' hm3 (by omega)) hne
  ·obtain ⟨hne,e'⟩ := old b2 o2 hb2 e
   rw [Mu.ext_other _ _ hb2] at hm2
   obtain ⟨h1,h2⟩ := s.own b2 o2 m e' hm2 hr
   refine ⟨h1,fun b3 o3 m3 e3 hm3 hc => ?_⟩
   by_cases hb3 : b3 = h.n
   ·subst hb3
    rw [Mu.ext_same] at hm3; cases hm3
    exact absurd (h2 b o mi hb hm (by omega)).symm hne
   ·obtain ⟨_,e3'⟩ := old b3 o3 hb3 e3
    rw [Mu.ext_other _ _ hb3] at hm3
    exact h2 b3 o3 m3 e3' hm3 hc
 ·exact s.glob.keep fun k hk => by
   rw [hw,if_neg (by have := own.1; omega)]
theorem St.move (s : St B n0 N μ0 w0 f h a w μ) {w' : World} {b : Nat} {o o' : AObj} {mi mi' : MI} {obj : Obj} (hb : h.m b = some o) (hm : μ b = some mi) (hrw : o.rw = true)
  (hw : ∀ k,w'.heap[k]? = if k = mi.cb then some obj else w.heap[k]?) (hsz : w'.heap.size = w.heap.size) (hs : SameBut w w') (hcb : mi'.cb = mi.cb)
  (ho : ORel (μ.ext h.n mi') mi' o' (some obj)) : St B n0 N μ0 w0 f ((h.kill b).push o') a w' (μ.ext h.n mi') where
 rel := s.rel.move hb hm hrw hw hsz hcb ho
 fr := ⟨s.fr.1,fun i hi => (s.fr.2 i hi).mono' (s.ext_mono mi')⟩
 nod := s.nod
 bel := s.bel.trans ⟨hs.os,hs.tape,hs.output,by omega,fun k hk => by
  have := (s.rel.own b o mi hb hm hrw).1
  rw [hw,if_neg (by omega)]⟩
 ext := fun b hb => by have := s.le; rw [Mu.ext_other _ _ (by omega)]; exact s.ext b hb
 le := by have := s.le; show n0 ≤ h.n + 1; omega
theorem St.kill (s : St B n0 N μ0 w0 f h a w μ) (b : Nat) : St B n0 N μ0 w0 f (h.kill b) a w μ where
 rel := ⟨s.rel.base,s.rel.dom,fun b2 o e => by
   simp only [Heap.kill] at e
   split at e
   ·cases e
   ·exact s.rel.obj b2 o e,fun b2 o2 m e hm hr => by
   have key : ∀ b3 o3,(h.kill b).m b3 = some o3 → h.m b3 = some o3 := by
    intro b3 o3 e3
    simp only [Heap.kill] at e3
    split at e3
    ·cases e3
    ·exact e3
   obtain ⟨h1,h2⟩ := s.rel.own b2 o2 m (key _ _ e) hm hr
   exact ⟨h1,fun b3 o3 m3 e3 hm3 hc => h2 b3 o3 m3 (key _ _ e3) hm3 hc⟩,s.rel.glob⟩
 fr := s.fr
 nod := s.nod
 bel := s.bel
 ext := s.ext
 le := s.le
end
theorem getD_eq_of_lt {cc : Array Value} {i : Nat} (h : i < cc.size) (d : Value) : cc[i]? = some (cc.getD i d) := by
 simp [Array.getD,h]
theorem HRel.cells {B : Nat} {μ : Mu} {h : Heap} {w : World} (s : HRel B μ h w) {b : Nat} {c : List Value} {m : BMode} {e : Nat} (hb : h.cellsOf b = some (c,m,e)) :
  ∃ mi cc t fz,μ b = some mi ∧ h.m b = some (.cells c m e) ∧ w.heap[mi.cb]? = some (.cells cc t fz) ∧ CRel μ mi c m e cc fz := by
 have hb' : h.m b = some (.cells c m e) := by
  unfold Heap.cellsOf at hb
  split at hb
  ·rename_i c' m' e' hx; cases hb; exact hx
  ·cases hb
 obtain ⟨mi,hm,cc,t,fz,h1,h2,_⟩ := s.obj b _ hb'
 exact ⟨mi, cc, t, fz, hm, hb', h1, h2⟩
theorem HRel.cellsT {B : Nat} {μ : Mu} {h : Heap} {w : World} (s : HRel B μ h w) {b : Nat} {c : List Value} {m : BMode} {e : Nat} (hb : h.cellsOf b = some (c,m,e)) :
  ∃ mi cc t fz,μ b = some mi ∧ h.m b = some (.cells c m e) ∧ w.heap[mi.cb]? = some (.cells cc t fz) ∧ CRel μ mi c m e cc fz ∧ TyOk mi m t := by
 have hb' : h.m b = some (.cells c m e) := by
  unfold Heap.cellsOf at hb
  split at hb
  ·rename_i c' m' e' hx; cases hb; exact hx
  ·cases hb
 obtain ⟨mi,hm,cc,t,fz,h1,h2⟩ := s.obj b _ hb'
 exact ⟨mi, cc, t, fz, hm, hb', h1, h2⟩
theorem CRel.cell {μ : Mu} {mi : MI} {c : List Value} {m : BMode} {e : Nat} {cc : Array Value} {fz : Nat × Nat} {w : World} {t : TypeId} (r : CRel μ mi c m e cc fz)
  (hw : w.heap[mi.cb]? = some (.cells cc t fz)) {i : Nat} (hi : i < c.length) : w.cell? ⟨mi.cb,mi.dl + i,none⟩ = some (cc.getD (mi.dl + i) unk) := by
 have := r.1
 simp only [World.cell?,hw]
 simp [Array.getD,show mi.dl + i < cc.size by omega]
theorem setCells_heap (b : Nat) : ∀ (vs : List Value) (o : Nat) (w : World) (cc : Array Value) (t : TypeId) (fz : Nat × Nat),w.heap[b]? = some (.cells cc t fz) → o + vs.length ≤ cc.size →
  ∃ cc' : Array Value,(∀ k,(w.setCells b o vs).heap[k]? = if k = b then some (.cells cc' t fz) else w.heap[k]?) ∧ cc'.size = cc.size ∧
   ∀ i,cc'.getD i unk = if o ≤ i ∧ i < o + vs.length then vs.getD (i - o) unk else cc.getD i unk
 | [],o,w,cc,t,fz,hb,_ => ⟨cc,fun k => by
   show w.heap[k]? = _
   split
   ·rename_i hk; rw [hk]; exact hb
   ·rfl,rfl,fun i => by simp; omega⟩
 | v :: r,o,w,cc,t,fz,hb,hl => by
   have hb1 : (w.setCell ⟨b,o,none⟩ v).heap[b]? = some (.cells (cc.setIfInBounds o v) t fz) := by
    simp [World.setCell,Array.getElem?_modify,hb]
   simp only [List.length_cons] at hl
   obtain ⟨cc', h1, h2, h3⟩ := setCells_heap b r (o + 1) (w.setCell ⟨b, o, none⟩ v) _ t fz hb1 (by simp; omega)
   refine ⟨cc', fun k => ?_, by rw [h2]; simp, fun i => ?_⟩
   ·rw [World.setCells,h1]
    split
    ·rfl
    ·rename_i hk
     simp only [World.setCell,Array.getElem?_modify]
     rw [if_neg (by omega)]
   ·rw [h3]
    by_cases hi : i = o
    ·subst hi
     rw [if_neg (by omega),if_pos (by simp)]
     simp [Array.getD,show i < cc.size by omega]
    ·by_cases hr : o + 1 ≤ i ∧ i < o + 1 + r.length
     ·rw [if_pos hr,if_pos (by simp; omega)]
      obtain ⟨j,rfl⟩ : ∃ j,i = o + 1 + j := ⟨i - (o + 1),by omega⟩
      rw [show o + 1 + j - (o + 1) = j by omega,show o + 1 + j - o = j + 1 by omega]
      simp
     ·rw [if_neg hr,if_neg (by simp; omega)]
      simp only [Array.getD,Array.size_setIfInBounds]
      split
      ·simp only [Array.getInternal_eq_getElem]
       rw [Array.getElem_setIfInBounds_ne _ (by omega)]
      ·rfl
theorem setCells_size (b : Nat) : ∀ (vs : List Value) (o : Nat) (w : World),(w.setCells b o vs).heap.size = w.heap.size
 | [],_,_ => rfl
 | v :: r,o,w => by rw [World.setCells,setCells_size b r]; simp
theorem setCells_same (b : Nat) : ∀ (vs : List Value) (o : Nat) (w : World),SameBut w (w.setCells b o vs)
 | [],_,_ => ⟨rfl,rfl,rfl⟩
 | v :: r,o,w => by
   have := setCells_same b r (o + 1) (w.setCell ⟨b,o,none⟩ v)
   exact ⟨this.os,this.tape,this.output⟩
end Go.Ab
