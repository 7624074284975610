/-
 Ab: how a law's arguments come in: slices that are read alone; a law that says true.
-/
import Derived.Test.YtdnmkenamgfjoaaGreatAbStep
import Derived.Carry
import Derived.OpenShut
import Derived.Deep.Slices
import Derived.ChangeShapes
import Derived.ChangeArms
import Derived.WideShapes
set_option linter.unusedSimpArgs false
set_option linter.unusedVariables false
namespace Go.Ab
set_option linter.unusedSectionVars false
variable [Inhabited TabBox]
open Go.RowKit Go.ChangeShapes Go.WideShapes
def Heap.Ro (h : Heap) : Prop := ∀ b o,h.m b = some o → o.rw = false
def h00 : Heap := ⟨fun _ => none,0⟩
def μ00 : Mu := fun _ => none
theorem h00_ro : h00.Ro := fun b o e => by simp [h00] at e
theorem h00_rel (W : World) (hg : GLaid W.heap.size W) : HRel W.heap.size μ00 h00 W where
 base := Nat.le_refl _
 dom := fun b mi e => by simp [μ00] at e
 obj := fun b o e => by simp [h00] at e
 own := fun b o mi e => by simp [h00] at e
 glob := hg
theorem HRel.given {B : Nat} {μ : Mu} {h : Heap} {W : World} (r : HRel B μ h W) (hro : h.Ro) {cb dl : Nat} {cc : Array Value} {t : TypeId} {fz : Nat × Nat} {c : List Value} (esz : Nat)
  (hw : W.heap[cb]? = some (.cells cc t fz)) (hl : dl + c.length ≤ cc.size) (hr : ∀ i,i < c.length → (∀ μ,VRel μ (c.getD i unk) (cc.getD (dl + i) unk)) ∧ (cc.getD (dl + i) unk).oneCell' = true) :
  HRel B (μ.ext h.n ⟨cb,dl,c.length,cc.size,esz,false⟩) (h.push (.cells c .ro esz)) W ∧ (h.push (.cells c .ro esz)).Ro := by
 have hcl := r.closed
 have hro' : (h.push (.cells c .ro esz)).Ro := fun b o e => by
  rw [push_m] at e
  split at e
  ·cases e; rfl
  ·exact hro b o e
 refine ⟨⟨r.base,fun b mi e => ?_,fun b o e => ?_,fun b o mi e _ hrw => (by rw [hro' b o e] at hrw; cases hrw),r.glob⟩,hro'⟩
 ·by_cases hb : b = h.n
  ·subst hb
   rw [Mu.ext_same] at e
   cases e
   refine ⟨Nat.lt_succ_self _,?_⟩
   rcases Nat.lt_or_ge cb W.heap.size with g | g
   ·exact g
   ·rw [Array.getElem?_eq_none g] at hw; cases hw
  ·rw [Mu.ext_other _ _ hb] at e
   have := r.dom b mi e
   exact ⟨Nat.lt_succ_of_lt this.1,this.2⟩
 ·rw [push_m] at e
  by_cases hb : b = h.n
  ·subst hb
   rw [if_pos rfl] at e
   cases e
   refine ⟨_,Mu.ext_same _ _ _,cc,t,fz,hw,⟨hl,fun i hi => (hr i hi).1 _,fun i hi => (hr i hi).2,rfl,rfl,fun q => absurd rfl q,by simp [BMode.isLoose],rfl⟩,trivial⟩
  ·rw [if_neg hb] at e
   obtain ⟨mi,hm,ro⟩ := r.obj b o e
   exact ⟨mi,(Mu.ext_other _ _ hb).trans hm,ro.mono (fun b' hb' => Mu.ext_other _ _ (by omega)) (hcl b o e).2⟩
structure Given (W : World) (μ : Mu) (h : Heap) : Prop where
 rel : HRel W.heap.size μ h W
 ro : h.Ro
theorem Given.start (W : World) (hg : GLaid W.heap.size W) : Given W μ00 h00 := ⟨h00_rel W hg,h00_ro⟩
def Mu.Le (μ μ' : Mu) : Prop := ∀ b mi,μ b = some mi → μ' b = some mi
def Heap.Le (h h' : Heap) : Prop := ∀ b o,h.m b = some o → h'.m b = some o
theorem Mu.Le.refl (μ : Mu) : μ.Le μ := fun _ _ e => e
theorem Heap.Le.refl (h : Heap) : h.Le h := fun _ _ e => e
theorem Mu.Le.trans {a b c : Mu} (h1 : a.Le b) (h2 : b.Le c) : a.Le c := fun x mi e => h2 x mi (h1 x mi e)
theorem Heap.Le.trans {a b c : Heap} (h1 : a.Le b) (h2 : b.Le c) : a.Le c := fun x mi e => h2 x mi (h1 x mi e)
theorem Given.le_push {W : World} {μ : Mu} {h : Heap} (g : Given W μ h) (mi : MI) (o : AObj) : μ.Le (μ.ext h.n mi) ∧ h.Le (h.push o) := by
 refine ⟨fun b m e => ?_,fun b ob e => ?_⟩
 ·have := (g.rel.dom b m e).1
  rw [Mu.ext_other _ _ (by omega)]; exact e
 ·have := (g.rel.closed b ob e).1
  rw [push_m,if_neg (by omega)]; exact e
variable {H : Type} {enc : TypeId × Value → H} {P : Program} {W : World}
theorem Given.slice {α : Type} {ev : α → Value} {μ : Mu} {h : Heap} (g : Given W μ h) {t e : TypeId} {v : Value} {d : DataW H} {ps : List MemPlace} (ht : P.underlying t = some (.slice e)) (hc : P.cellsOf e = 1)
  (hval : Value.okWide P W .any 0 t v) (hd : DataW.Trod enc P W 0 (fun _ => true) true t v d ps)
  (elem : ∀ n x D Pl,DataW.trod enc P W 0 (fun _ => true) true n e [x] = some (D,Pl) → ∃ a : α,x = ev a ∧ (∀ μ,VRel μ (ev a) x) ∧ x.oneCell' = true) :
  ∃ μ' h' va l,Given W μ' h' ∧ μ.Le μ' ∧ h.Le h' ∧ VRel μ' va v ∧ Sl ev h' va l ∧ l.length ≤ maxLen ∧ ∀ a ∈ l,∃ n x D Pl,DataW.trod enc P W 0 (fun _ => true) true n e [x] = some (D,Pl) ∧ x = ev a ∧ ∃ el sp,d = .slice el sp ∧ D ∈ el := by
 obtain ⟨a0,len0,cap0,rfl⟩ := okWide_slice ht hval
 obtain ⟨fuel,hf⟩ := hd
 rcases Go.Deep.open_slice1 ht hc hf with ⟨hcs,_⟩ | ⟨a,len,cap,m,n,V,D,Pl,hcs,_,hle,hmx,hm,hxx,hget⟩
 ·simp only [Value.cells,List.cons.injEq,Value.slice.injEq,and_true] at hcs
  obtain ⟨rfl,rfl,rfl⟩ := hcs
  exact ⟨μ,h,_,[],g,.refl _,.refl _,.snil,.inl ⟨0,rfl,rfl⟩,Nat.zero_le _,fun a ha => by cases ha⟩
 ·simp only [Value.cells,List.cons.injEq,Value.slice.injEq,and_true] at hcs
  obtain ⟨rfl,rfl,rfl⟩ := hcs
  simp only [if_true] at hm
  subst hm
  have hw : W.has P .any 0 a e m := by
   unfold Value.okWide at hval
   rw [ht] at hval
   simp only [Cell.okWide,ht,Cell.ok] at hval
   exact hval.2.2
  obtain ⟨_,hsp,row,cells,hsh,_⟩ := hw
  obtain ⟨cc,ty,fz,hblk⟩ : ∃ cc ty fz,W.heap[a.block]? = some (.cells cc ty fz) := by
   unfold World.shape? at hsh
   split at hsh
   ·exact ⟨_,_,_,by assumption⟩
   ·cases hsh
  obtain ⟨ab,ao,asp⟩ := a
  dsimp only at hsp hblk
  subst hsp
  have hcell : ∀ i,i < m → cc[ao + i]? = some (V i) := fun i hi => by
   have := (hget i hi).1
   rw [show (⟨ab,ao,none⟩ : Addr).add i = ⟨ab,ao + i,none⟩ from Addr.add_lit ab ao i] at this
   simpa [World.cell?,hblk] using this
  have hE : ∀ i,i < len0 → ∃ a : α,V i = ev a ∧ (∀ μ,VRel μ (ev a) (V i)) ∧ (V i).oneCell' = true := fun i hi => elem n (V i) (D i) (Pl i) (hget i (by omega)).2
  obtain ⟨l,hll,hA⟩ : ∃ l : List α,l.length = len0 ∧ ∀ i (hi : i < l.length),V i = ev l[i] ∧ (∀ μ,VRel μ (ev l[i]) (V i)) ∧ (V i).oneCell' = true := by
   clear hget hcell hf hval hle hxx
   induction len0 with
   | zero => exact ⟨[],rfl,fun i hi => by simp at hi⟩
   | succ k ih =>
     obtain ⟨l,hl,hh⟩ := ih fun i hi => hE i (by omega)
     obtain ⟨a,ha⟩ := hE k (by omega)
     refine ⟨l ++ [a],by simp [hl],fun i hi => ?_⟩
     by_cases hik : i < l.length
     ·rw [List.getElem_append_left hik]; exact hh i hik
     ·have : i = k := by simp at hi; omega
      subst this
      rw [List.getElem_append_right (by omega)]
      simpa [hl] using ha
  subst hll
  have hcc : ∀ i,i < l.length → cc.getD (ao + i) unk = V i := fun i hi => by
   have := hcell i (by omega)
   simp [Array.getD_eq_getD_getElem?,this]
  have hsz : 0 < l.length → ao + l.length ≤ cc.size := fun hp => by
   have := hcell (l.length - 1) (by omega)
   have := (Array.getElem?_eq_some_iff.1 this).1
   omega
  have hmem : ∀ a ∈ l,∃ n x D Pl,DataW.trod enc P W 0 (fun _ => true) true n e [x] = some (D,Pl) ∧ x = ev a ∧ ∃ el sp,d = .slice el sp ∧ D ∈ el := fun a ha => by
   obtain ⟨i,hi,rfl⟩ := List.mem_iff_getElem.1 ha
   exact ⟨n,V i,D i,Pl i,(hget i (by omega)).2,(hA i hi).1,_,_,(Prod.mk.inj hxx).1,List.mem_map.2 ⟨i,List.mem_range.2 hi,rfl⟩⟩
  have hmx' : l.length ≤ maxLen := by omega
  by_cases hp : 0 < l.length
  ·have hr : ∀ i,i < (l.map ev).length → (∀ μ,VRel μ ((l.map ev).getD i unk) (cc.getD (ao + i) unk)) ∧ (cc.getD (ao + i) unk).oneCell' = true := fun i hi => by
    have hi' : i < l.length := by simpa using hi
    rw [hcc i hi']
    have e1 : (l.map ev).getD i unk = ev l[i] := by simp [List.getD,hi']
    rw [e1]
    exact (hA i hi').2
   have gv := g.rel.given g.ro (cb := ab) (dl := ao) (c := l.map ev) 1 hblk (by simpa using hsz hp) hr
   have le := g.le_push ⟨ab,ao,(l.map ev).length,cc.size,1,false⟩ (.cells (l.map ev) .ro 1)
   refine ⟨_, _, .slice (some ⟨h.n, 0, none⟩) l.length m, l, ⟨gv.1, gv.2⟩, le.1, le.2, ?_, .inr ⟨h.n, 0, m, l.map ev, .ro, 1, rfl, by simp [Heap.cellsOf, push_m], by omega, fun _ => by simp, fun i hi => by simp [hi]⟩, hmx', hmem⟩
   exact VRel.slice (mi := ⟨ab,ao,(l.map ev).length,cc.size,1,false⟩) (Mu.ext_same _ _ _) (.inl rfl)
  ·have hl0 : l = [] := List.eq_nil_of_length_eq_zero (by omega)
   subst hl0
   have gv := g.rel.given g.ro (cb := ab) (dl := 0) (c := []) 1 hblk (by simp) (fun i hi => by simp at hi)
   have le := g.le_push ⟨ab,0,0,cc.size,1,false⟩ (.cells [] .ro 1)
   refine ⟨_, _, .slice (some ⟨h.n, ao, none⟩) 0 m, [], ⟨gv.1, gv.2⟩, le.1, le.2, ?_, .inr ⟨h.n, ao, m, [], .ro, 1, rfl, by simp [Heap.cellsOf, push_m], by simp, fun q => by simp at q, fun i hi => by simp at hi⟩, hmx', hmem⟩
   have := VRel.slice (o := ao) (l := 0) (c := m) (c' := m) (mi := ⟨ab,0,0,cc.size,1,false⟩) (Mu.ext_same μ h.n _) (.inl rfl)
   simpa using this
theorem law_calls {f : FuncId} {args : List Value} {args' : Array Value} {μ : Mu} {h : Heap} (g : Given W μ h) (la : LRel μ args args') (hh : ACalls P f args h fun v _ => v = .bool true) :
  Calls P f args' W fun e W' => e = .returned (.bool true) ∧ Below W.heap.size W W' :=
 (hh W.heap.size μ W args' g.rel la).mono fun e W' ⟨v, v', h', μ', he, hv, _, hbel, _, _, hr⟩ => by
  subst hr
  cases hv
  exact ⟨he,hbel⟩
theorem trodAll_keep (hl : laidOutB P = true) {W' : World} (hb : Below W.heap.size W W') : ∀ {ts : List TypeId} {vs : List Value} {ds : List (DataW H)} {ps : List MemPlace},
  (ts.all fun t => P.readableRec t && decide (t < P.types.size)) = true → DataW.TrodAll enc P W 0 (fun _ => true) true ts vs ds ps → (∀ x ∈ ps,x.block < W.heap.size) →
  DataW.TrodAll enc P W' 0 (fun b => decide (b < W.heap.size)) true ts vs ds ps
 | [],vs,ds,ps,_,ha,_ => by
   obtain ⟨rfl,rfl,rfl⟩ := trodAll_nil ha
   exact trodAll_mk0
 | t :: ts,vs,ds,ps,ht,ha,hlt => by
   obtain ⟨v, vs', d, ds', p, q, rfl, rfl, rfl, h1, h2⟩ := trodAll_cons ha
   simp only [List.all_cons,Bool.and_eq_true,decide_eq_true_eq] at ht
   exact Go.trodAll_cons_mk (Below.trod hl ht.1.1 ht.1.2 h1 hb fun x hx => hlt x (List.mem_append.2 (.inl hx))) (trodAll_keep hl hb ht.2 h2 fun x hx => hlt x (List.mem_append.2 (.inr hx)))
theorem lrel_cons {μ : Mu} {x y : Value} {xs ys : List Value} (h : VRel μ x y) (hr : LRel μ xs ys.toArray) : LRel μ (x :: xs) (y :: ys).toArray := by
 refine ⟨by have := hr.1; simp at this ⊢; omega,fun i hi => ?_⟩
 cases i with
 | zero => simpa using h
 | succ i =>
   have := hr.2 i (by simpa using hi)
   simpa using this
theorem lrel_nil {μ : Mu} : LRel μ [] #[] := ⟨rfl,fun i hi => by simp at hi⟩
theorem ints_of {te : TypeId} {k : IntKind} {sp : Nat → Bool} {hd : Bool} {b : Nat} (hte : P.underlying te = some (.int k)) : ∀ {cs : List Value},(∀ c ∈ cs,∃ fuel x,DataW.trod enc P W b sp hd fuel te [c] = some x) →
  ∃ xs : List Int,cs = xs.map (Value.int k) ∧ ∀ x ∈ xs,(Lit.int k x).wf = true
 | [],_ => ⟨[],rfl,fun x hx => by cases hx⟩
 | c :: cs,h => by
   obtain ⟨xs,h1,h2⟩ := ints_of hte (cs := cs) fun y hy => h y (by simp [hy])
   obtain ⟨fuel,x,hx⟩ := h c (by simp)
   obtain ⟨n,hn,_,wf⟩ := DataW.trod_int hte hx
   simp only [List.cons.injEq,and_true] at hn
   refine ⟨n :: xs,by rw [h1,hn]; rfl,fun y hy => ?_⟩
   rcases List.mem_cons.1 hy with rfl | hy
   ·exact wf
   ·exact h2 y hy
theorem open_struct_ints {t : TypeId} {fs : Array Field} {k : IntKind} {n : Nat} {v : Value} {d : DataW H} {ps : List MemPlace} (ht : P.underlying t = some (.struct fs)) (hn : P.cellsOf t = n)
  (hf : ∀ i,i < n → ∃ f,fs[i]? = some f ∧ f.offset = i ∧ P.cellsOf f.type = 1 ∧ P.underlying f.type = some (.int k)) (hte : ∃ te,P.underlying te = some (.int k) ∧ ∀ i,i < n → ∀ f,fs[i]? = some f → f.type = te)
  {r : Reach} {b : Nat} (hval : Value.okWide P W r b t v) {sp : Nat → Bool} {hh : Bool} (hd : DataW.Trod enc P W 0 sp hh t v d ps) :
  ∃ xs : List Int,v = .agg (xs.map (Value.int k)).toArray ∧ xs.length = n ∧ ∀ x ∈ xs,(Lit.int k x).wf = true := by
 obtain ⟨cs,rfl,hsz⟩ := okWide_struct ht hval
 obtain ⟨fuel,h⟩ := hd
 obtain ⟨xs,m,_,_,_,hl,hx⟩ := DataW.trod_struct ht h
 obtain ⟨te,hti,hty⟩ := hte
 obtain ⟨is,h1,h2⟩ := ints_of (enc := enc) (W := W) (sp := sp) (hd := hh) (b := 0) hti (cs := cs.toList) fun c hc => by
  obtain ⟨i,hi,rfl⟩ := List.mem_iff_getElem.1 hc
  have hin : i < n := by rw [← hn,← hsz]; simpa using hi
  obtain ⟨f,hf1,hf2,hf3,_⟩ := hf i hin
  have := hx i f hf1
  have hif : i < fs.size := (Array.getElem?_eq_some_iff.1 hf1).1
  rw [hf2,hf3,hty i hin f hf1,List.getElem?_eq_getElem (by omega)] at this
  refine ⟨m,xs[i]'(by omega),?_⟩
  rw [show [cs.toList[i]] = List.take 1 (List.drop i (Value.agg cs).cells.toList) by
   show _ = List.take 1 (List.drop i cs.toList)
   rw [List.drop_eq_getElem_cons hi]; rfl]
  exact this
 refine ⟨is,by rw [← h1],?_,h2⟩
 have := congrArg List.length h1
 simp at this
 omega
theorem rel_ints (μ : Mu) (k : IntKind) (xs : List Int) : VRel μ (.agg (xs.map (Value.int k)).toArray) (.agg (xs.map (Value.int k)).toArray) :=
 .agg rfl (fun i hi => by
  have hi' : i < xs.length := by simpa using hi
  simp [Array.getD,hi']; exact .int) (fun i hi => by
  have hi' : i < xs.length := by simpa using hi
  simp [Array.getD,hi']; rfl)
theorem len3 {α : Type} {l : List α} (h : l.length = 3) : ∃ a b c,l = [a,b,c] := by
 match l,h with
 | [a,b,c],_ => exact ⟨a,b,c,rfl⟩
theorem flat_get {α : Type} {n : Nat} {L : List (List α)} (hl : ∀ x ∈ L,x.length = n) : ∀ (i : Nat) (hi : i < L.length),(L.flatten.drop (i * n)).take n = L[i] := by
 induction L with
 | nil => intro i hi; simp at hi
 | cons x r ih =>
   intro i hi
   have hx := hl x (by simp)
   cases i with
   | zero => simp [← hx]
   | succ i =>
     have := ih (fun y hy => hl y (by simp [hy])) i (by simpa using hi)
     rw [List.flatten_cons,show (i + 1) * n = x.length + i * n by rw [hx,Nat.add_mul]; omega,List.drop_append,List.drop_of_length_le (by omega)]
     simpa using this
end Go.Ab
