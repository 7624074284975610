/-
 Contracts.
-/
import Derived.Test.YtdnmkenamgfjoaaGreatArbg
import Derived.IntWalk
import Derived.KernelRfl
set_option linter.unusedSimpArgs false
set_option linter.unusedVariables false
set_option linter.unusedSectionVars false
namespace Go.Proofs.YtdnmkenamgfjoaaGreat.arbi
open Go Go.Ab Go.Proofs Go.RowKit str vers lin1 sha arba arbb arbc arbd arbe arbf arbg
variable [Inhabited TabBox]
variable [Nonempty GF]
variable [Nonempty GE]
set_option maxRecDepth 100000
theorem blank_bad : crE (List.replicate 60 255) ≠ List.replicate 64 255 := by decide +kernel
structure Rw (A : ArB) (V V' : DevS) (a k : Nat) (T : List (List UInt8)) (ws : List Int) : Prop where
 lk : V'.lock = V.lock
 at' : ∀ i : Nat,i < A.D + A.P → (i : Int) ∈ ws → secF V' (secN A.D A.P A.S a k i) = T[i]!
 no : ∀ m,m < V.lock.length → (∀ i : Nat,(i : Int) ∈ ws → m ≠ secN A.D A.P A.S a k i) → secF V' m = secF V m
theorem Rw.zero (A : ArB) (V : DevS) (a k : Nat) (T : List (List UInt8)) : Rw A V V a k T [] := ⟨rfl,fun _ _ hi => by (cases hi),fun _ _ _ => rfl⟩
theorem Rw.succ {A : ArB} {V V1 V2 : DevS} {a k : Nat} {T : List (List UInt8)} {ws : List Int} {j : Nat} (hS : 0 < A.S) (w : Rw A V V1 a k T ws) (hj : ∀ i,i < A.D + A.P → secN A.D A.P A.S a k i < V.lock.length) (l : Laid V1 V2 (secN A.D A.P A.S a k j) T[j]!) : Rw A V V2 a k T (ws ++ [(j : Int)]) := by
 refine ⟨l.lk.trans w.lk,fun i hi hw => ?_,fun m hm h => ?_⟩
 ·rw [l.se _ (by rw [w.lk]; exact hj i hi)]
  by_cases q : i = j
  ·subst q; rw [if_pos rfl]
  ·rw [if_neg fun e => q (secN_inj hS e)]
   refine w.at' i hi ?_
   rcases List.mem_append.1 hw with h1 | h1
   ·exact h1
   ·simp at h1; omega
 ·rw [l.se m (by rw [w.lk]; exact hm),if_neg (h j (by simp))]
  exact w.no m hm fun i hi => h i (by simp [hi])
def c193 : AC := sO [oP 4 (.mv (.const (.int .u8 0)))] (.seq (.draw [([mV 5 0,oP 6 (nC 5),oP 7 (fA 0 6),oP 8 (lN 7),mV 9 0,oP 10 (nC 9),oP 11 (fA 1 10),oP 12 (lN 11),oP 13 (bK .sub 12 1),mV 14 1,oP 15 (bT .sub 13 14)],[oP 16 (.call 125 [tP 8,tP 15])],[]),([mV 4 16],[],[])]) .ret)
theorem k193 : compF Tryz.prog Tryz.f193 = some (c193,[4]) := by kernel_rfl
theorem n193 : Tryz.f193.ntmps = 17 := by kernel_rfl
def c201 : AC := sO [oP 4 (.mv (.const (.int .u8 0)))] (.seq (sO [mV 5 1,oP 6 (bK .lss 5 0),mV 7 6,gP 8 7 false (.mv (tP 1)),gP 9 7 false (.mv (tP 0)),gP 10 7 false (lS 9),gP 11 7 false (bT .geq 8 10),oP 12 (pT 7 11)] (cT 12 (sO [oP 4 (.mv (.const (.int .u8 0)))] .ret) .skip)) (sO [mV 13 0,mV 14 1,oP 15 (iA 1 13 14),oP 16 (lN 15),mV 4 16] .ret))
theorem k201 : compF Tryz.prog Tryz.f201 = some (c201,[4]) := by kernel_rfl
theorem n201 : Tryz.f201.ntmps = 17 := by kernel_rfl
def c232_0 : AC := .seq (sO [mV 7 2,mV 8 3,oP 9 (bT .lss 7 8)] (cT 9 .skip (.exit 0))) (.seq (.block 1 (.draw [([mV 14 0,mV 15 2,mV 16 0,mV 17 3,mV 18 0,mV 19 3,oP 20 (iA 1 18 19),oP 21 (lN 20),mV 22 0,mV 23 2,oP 24 (iA 1 22 23),oP 25 (lN 24),oP 26 (iA 1 14 15)],[nP (.store 1 (tP 26) (tP 21))],[]),([oP 27 (iA 1 16 17)],[nP (.store 1 (tP 27) (tP 25))],[]),([],[],[])])) (.ops [mV 10 2,oP 11 (bK .add 10 1),mV 12 3,oP 13 (bK .sub 12 1),mV 2 11,mV 3 13]))
def c232 : AC := sO [mV 4 0,oP 5 (lS 4),oP 6 (bK .sub 5 1),oP 2 (.mv (kI 0)),mV 3 6] (.block 0 (.loop c232_0))
theorem k232 : compF Tryz.prog Tryz.f232 = some (c232,[]) := by kernel_rfl
theorem n232 : Tryz.f232.ntmps = 28 := by kernel_rfl
def c224 : AC := sO [oP 2 (.mv (.const (.slice none 0 0)))] (sO [mV 4 0,oP 5 (.call 169 [tP 4]),mV 3 5] (sO [mV 6 3,oP 7 (.call 232 [tP 6])] (sO [mV 8 3,mV 2 8] .ret)))
theorem k224 : compF Tryz.prog Tryz.f224 = some (c224,[2]) := by kernel_rfl
theorem n224 : Tryz.f224.ntmps = 9 := by kernel_rfl
def c210 : AC := sO [oP 6 (.mv (.const (.int .u8 0)))] (.seq (.draw [([mV 7 0,oP 8 (nC 7),oP 9 (fA 0 8),oP 10 (lN 9),mV 11 1,mV 13 2],[oP 12 (.call 224 [tP 11])],[oP 10 (lN 9)]),([],[oP 14 (.call 187 [tP 10,tP 12,tP 13])],[]),([mV 6 14],[],[])]) .ret)
theorem k210 : compF Tryz.prog Tryz.f210 = some (c210,[6]) := by kernel_rfl
theorem n210 : Tryz.f210.ntmps = 15 := by kernel_rfl
theorem _root_.Go.Proofs.YtdnmkenamgfjoaaGreat.arba.NewB.put {h H : Heap} {v : Value} {l : List UInt8} (hc0 : h.Closed) (n : NewB h H v l) (h0 : 0 < l.length) : ∃ x md e,v = .slice (some ⟨x,0,none⟩) l.length l.length ∧ H.cellsOf x = some (ubs l,md,e) ∧ md ≠ .ro ∧ (md.isLoose = true → e = 1) ∧ h.n ≤ x ∧ x < H.n ∧ ∀ l' : List UInt8,l'.length = l.length → NewB h (H.set x (.cells (ubs l') md e)) v l' := by
 obtain ⟨nm,q,hx,g⟩ := n
 rcases q with ⟨_,_,q,_⟩ | ⟨x,md,e,rfl,rfl,hc,hl,hro,hes⟩
 ·omega
 ·have hxn := hx x rfl
  have hlt := cellsOf_lt g.cl hc
  refine ⟨x,md,e,rfl,hc,hro,hes,hxn,hlt,fun l' hl' => ⟨some x,.inr ⟨x,md,e,rfl,by rw [hl'],cells_setJ' _ _ _ _ _,by rw [ubs_len,hl']; omega,hro,hes⟩,hx,?_⟩⟩
  refine ⟨g.n,closed_set g.cl hlt ubs_bel,fun u ob e2 => ?_⟩
  rw [set_m,if_neg (by have := (hc0 u ob e2).1; omega)]
  exact g.m u ob e2
structure Xv (v : Nat) (h H : Heap) : Prop where
 n : h.n ≤ H.n
 cl : H.Closed
 m : ∀ u ob,h.m u = some ob → u ≠ v → H.m u = some ob
theorem Xv.refl {v : Nat} {h : Heap} (hc : h.Closed) : Xv v h h := ⟨Nat.le_refl _,hc,fun _ _ e _ => e⟩
theorem Xv.of {v : Nat} {h H : Heap} (g : Gr h H) : Xv v h H := ⟨g.n,g.cl,fun u ob e _ => g.m u ob e⟩
theorem Xv.trans {v : Nat} {a b c : Heap} (g : Xv v a b) (k : Xv v b c) : Xv v a c := ⟨Nat.le_trans g.n k.n,k.cl,fun u ob e q => k.m u ob (g.m u ob e q) q⟩
theorem Xv.set {v : Nat} {h H : Heap} (g : Xv v h H) {o : AObj} (hv : v < H.n) (ho : o.Below H.n) : Xv v h (H.set v o) := ⟨g.n,closed_set g.cl hv ho,fun u ob e q => by rw [set_m,if_neg q]; exact g.m u ob e q⟩
structure SvK (H : Heap) (v f n p : Nat) (vs ve vl : Value) (s : List UInt8) (E : List Nat) (loc : List UInt8) : Prop where
 cv : H.cellsOf v = some ([.pointer (some ⟨f,0,none⟩),.int .i64 (n : Int),.int .i64 (p : Int),vs,ve,vl],.ex,1)
 gf : GfK H f
 nf : f ≠ v
 ss : ∀ H', Xv v H H' → SlB H' vs s
 se : ∀ H', Xv v H H' → Sl ei H' ve E
 sl : SlB H vl loc
theorem SvK.keep {H H' : Heap} {v f n p : Nat} {vs ve vl : Value} {s : List UInt8} {E : List Nat} {loc : List UInt8} (k : SvK H v f n p vs ve vl s E loc) (g : Gr H H') : SvK H' v f n p vs ve vl s E loc :=
 ⟨cellsOf_keep g.m k.cv,k.gf.keep g.m,k.nf,fun _ x => k.ss _ ((Xv.of g).trans x),fun _ x => k.se _ ((Xv.of g).trans x),Sl.keep k.sl g.m⟩
theorem SvK.put {H H' : Heap} {v f n p : Nat} {vs ve vl : Value} {s : List UInt8} {E : List Nat} {loc : List UInt8} (k : SvK H v f n p vs ve vl s E loc) (hc : H.Closed) {vl' : Value} {loc' : List UInt8} (nb : NewB H H' vl' loc') :
  SvK (H'.set v (.cells [.pointer (some ⟨f,0,none⟩),.int .i64 (n : Int),.int .i64 (p : Int),vs,ve,vl'] .ex 1)) v f n p vs ve vl' s E loc' ∧ Xv v H (H'.set v (.cells [.pointer (some ⟨f,0,none⟩),.int .i64 (n : Int),.int .i64 (p : Int),vs,ve,vl'] .ex 1)) := by
 have g := nb.gr
 have k1 := k.keep g
 have hv := cellsOf_lt g.cl k1.cv
 have bl := nb.below
 have cb := g.cl v _ (m_of_cells k1.cv)
 have x1 : Xv v H' (H'.set v (.cells [.pointer (some ⟨f,0,none⟩),.int .i64 (n : Int),.int .i64 (p : Int),vs,ve,vl'] .ex 1)) := (Xv.refl g.cl).set hv (fun y hy => by
  simp at hy
  rcases hy with rfl | rfl | rfl | rfl | rfl | rfl
  ·exact .ptr (cellsOf_lt g.cl k1.gf)
  ·exact .int
  ·exact .int
  ·exact cb.2 _ (by simp)
  ·exact cb.2 _ (by simp)
  ·exact bl)
 refine ⟨⟨cells_setJ' _ _ _ _ _,?_,k.nf,fun _ x => k1.ss _ (x1.trans x),fun _ x => k1.se _ (x1.trans x),?_⟩,(Xv.of g).trans x1⟩
 ·show (H'.set v _).cellsOf f = _
  rw [cells_setJ _ (Ne.symm k.nf)]; exact k1.gf
 ·have hvH := cellsOf_lt hc k.cv
  obtain ⟨nm,q,hx,_⟩ := nb
  have q2 : LAt (H'.set v (.cells [.pointer (some ⟨f,0,none⟩),.int .i64 (n : Int),.int .i64 (p : Int),vs,ve,vl'] .ex 1)) 1 nm vl' loc'.length (ubs loc') := q.up fun u e ob e2 => by
   rw [set_m,if_neg (by have := hx u e; omega)]; exact e2
  exact q2.sl
theorem place_ok {v f n p : Nat} {vs ve vl : Value} {s : List UInt8} {E : List Nat} {loc : List UInt8} (i : Nat) (hi : i < n) (hn : n ≤ 255) (h : Heap) (k : SvK h v f n p vs ve vl s E loc) :
  ACalls Tryz.prog 193 [.pointer (some ⟨v,0,none⟩),.int .i64 (i : Int)] h fun r h' => r = .int .u8 ((Pl.al (n - 1 - i)).toNat : Int) ∧ h' = h := by
 refine acalls_of mix Tryz.func193 k193 n193 (by simp) fun hcl hb => ?_
 have c1 := k.cv
 have w1 : IntKind.i64.wrap ((n : Int) - 1) = ((n - 1 : Nat) : Int) := wI (by omega)
 have w2 : IntKind.i64.wrap (((n - 1 : Nat) : Int) - (i : Int)) = ((n - 1 - i : Nat) : Int) := wI (by omega)
 simp [c193,c1,apart,w1,w2]
 refine (gfexp_ok f (n - 1 - i) (by omega) h k.gf).eqK ?_
 simp
def atF (l : List UInt8) (i : Int) : UInt8 := if 0 ≤ i then l.getD i.toNat 0 else 0
theorem sat_ok (l : List UInt8) (i : Int) (v : Value) (h : Heap) (hl : SlB h v l) : ACalls Tryz.prog 201 [v,.int .i64 i] h fun r h' => r = .int .u8 ((atF l i).toNat : Int) ∧ h' = h := by
 refine acalls_of mix Tryz.func201 k201 n201 (by simp) fun hcl hb => ?_
 obtain ⟨a,c,rfl⟩ := Sl.form hl
 by_cases h0 : i < 0
 ·have : atF l i = 0 := by unfold atF; rw [if_neg (by omega)]
  rw [this]
  simp [c201,h0]
 by_cases h1 : (l.length : Int) ≤ i
 ·have : atF l i = 0 := by unfold atF; rw [if_pos (by omega),List.getD_eq_getElem?_getD,List.getElem?_eq_none (by omega)]; rfl
  rw [this]
  simp [c201,h0,h1]
 obtain ⟨j,rfl⟩ : ∃ j : Nat,i = j := ⟨i.toNat,by omega⟩
 have hj : j < l.length := by omega
 have : atF l (j : Int) = l[j] := by unfold atF; rw [if_pos (by omega),List.getD_eq_getElem?_getD]; simp [hj]
 rw [this]
 obtain ⟨b1,o1,cs1,m1,e1,rfl,_,g1,g1'⟩ := Sl.at hl hj
 have he : cs1[o1 + j]? = some (.int .u8 (l[j].toNat : Int)) := g1'
 have h1' : ¬ l.length ≤ j := by omega
 simp [c201, h0, h1, h1', aidx_of hj, g1, apart, he]
def rvI (l : List UInt8) (i : Nat) : List UInt8 := (List.range l.length).map fun k => if k < i ∨ l.length - i ≤ k then l[l.length - 1 - k]! else l[k]!
theorem rvI_len (l : List UInt8) (i : Nat) : (rvI l i).length = l.length := by simp [rvI]
theorem rvI_get (l : List UInt8) (i k : Nat) (hk : k < (rvI l i).length) : (rvI l i)[k] = if k < i ∨ l.length - i ≤ k then l[l.length - 1 - k]! else l[k]! := by simp [rvI]
theorem rvI_0 (l : List UInt8) : rvI l 0 = l := List.ext_getElem (rvI_len l 0) fun k h1 h2 => by
 rw [rvI_get,if_neg (by omega),getElem!_pos l k h2]
theorem rvI_end (l : List UInt8) (i : Nat) (h : l.length ≤ 2 * i + 1) : rvI l i = l.reverse := List.ext_getElem (by rw [rvI_len,List.length_reverse]) fun k h1 h2 => by
 rw [List.length_reverse] at h2
 rw [rvI_get,List.getElem_reverse,← getElem!_pos l (l.length - 1 - k) (by omega)]
 by_cases q : k < i ∨ l.length - i ≤ k
 ·rw [if_pos q]
 ·rw [if_neg q]
  congr 1; omega
theorem rvI_step (l : List UInt8) (i : Nat) (h : i < l.length - 1 - i) : ((rvI l i).set i ((rvI l i)[l.length - 1 - i]'(by rw [rvI_len]; omega))).set (l.length - 1 - i) ((rvI l i)[i]'(by rw [rvI_len]; omega)) = rvI l (i + 1) := List.ext_getElem (by rw [List.length_set,List.length_set,rvI_len,rvI_len]) fun k h1 h2 => by
 rw [rvI_len] at h2
 rw [List.getElem_set,List.getElem_set]
 simp only [rvI_get]
 rw [if_neg (show ¬ (l.length - 1 - i < i ∨ l.length - i ≤ l.length - 1 - i) by omega),if_neg (show ¬ (i < i ∨ l.length - i ≤ i) by omega)]
 by_cases q1 : l.length - 1 - i = k
 ·rw [if_pos q1,if_pos (by omega)]
  congr 1; omega
 ·rw [if_neg q1]
  by_cases q2 : i = k
  ·rw [if_pos q2,if_pos (by omega)]
   congr 1; omega
  ·rw [if_neg q2]
   by_cases q3 : k < i ∨ l.length - i ≤ k
   ·rw [if_pos q3,if_pos (by omega)]
   ·rw [if_neg q3,if_neg (by omega)]
theorem rev_ok (l : List UInt8) (hl1 : l.length ≤ 1000000) (x : Nat) (md : BMode) (e : Nat) (h : Heap) (hx : h.cellsOf x = some (ubs l,md,e)) (hro : md ≠ .ro) (hes : md.isLoose = true → e = 1) :
  ACalls Tryz.prog 232 [.slice (some ⟨x,0,none⟩) l.length l.length] h fun r h' => r = .tuple #[] ∧ h' = h.set x (.cells (ubs l.reverse) md e) := by
 refine acalls_of mix Tryz.func232 k232 n232 (by simp) fun hcl hb => ?_
 have hlt := cellsOf_lt hcl hx
 have hml : (md.isLoose = true → e = 1) = True := eq_true hes
 simp [c232]
 have hw : IntKind.i64.wrap ((l.length : Int) - 1) = (l.length : Int) - 1 - ((0 : Nat) : Int) := wI (by omega)
 have mx := m_of_cells hx
 have hHc : ∀ i,(h.set x (.cells (ubs (rvI l i)) md e)).Closed := fun i => closed_set hcl hlt ubs_bel
 have hcx : ∀ i,(h.set x (.cells (ubs (rvI l i)) md e)).cellsOf x = some (ubs (rvI l i),md,e) := fun i => cells_setJ' _ _ _ _ _
 have hss : ∀ i L,(h.set x (.cells (ubs (rvI l i)) md e)).set x (.cells L md e) = h.set x (.cells L md e) := fun i L => by
  unfold Heap.set
  congr 1
  funext u
  dsimp only
  split <;> rfl
 rw [hw]
 refine awp_loop_of (α := Nat) (fun i => 2 * i ≤ l.length + 1) (fun i => [(0,.slice (some ⟨x,0,none⟩) l.length l.length),(2,.int .i64 (i : Int)),(3,.int .i64 ((l.length : Int) - 1 - (i : Int)))]) (fun i => h.set x (.cells (ubs (rvI l i)) md e)) (fun i => l.length - i) 0
  (by omega) ⟨Nat.le_refl _,Nat.le_refl _,fun u ob e2 => by
   rw [set_m] at e2
   split at e2
   ·rename_i q; subst q; cases e2; rw [rvI_0]; exact mx
   ·exact e2,hHc 0⟩ (by simp; exact ⟨.slice (by show x < h.n; omega),.int,.int⟩) ?_
 intro i hi
 by_cases hlt2 : i < l.length - 1 - i
 ·obtain ⟨j,hj⟩ : ∃ j,l.length - 1 - i = j := ⟨_,rfl⟩
  have hji : (l.length : Int) - 1 - (i : Int) = (j : Int) := by omega
  have hi' : (i : Int) < (j : Int) := by omega
  have hi2 : i < j := by omega
  have hil : i < l.length := by omega
  have hjl : j < l.length := by omega
  have w4 := w64n (i := i) (by omega)
  have w5 : IntKind.i64.wrap ((j : Int) - 1) = (l.length : Int) - 1 - ((i + 1 : Nat) : Int) := wI (by omega)
  have hst := rvI_step l i (by omega)
  have hc0 := hcx i
  have hs0 := hss i
  have hln := rvI_len l i
  simp only [hj] at hst
  have q1 := ubs_getJ (l := rvI l i) (i := i) (by omega)
  have q2 := ubs_getJ (l := rvI l i) (i := j) (by omega)
  have p1 := ubs_put (l := rvI l i) (i := i) (by omega) ((rvI l i)[j]'(by omega))
  have p2 := ubs_put (l := (rvI l i).set i ((rvI l i)[j]'(by omega))) (i := j) (by rw [List.length_set]; omega) ((rvI l i)[i]'(by omega))
  rw [hst] at p2
  have hHn : VBelow (h.set x (.cells (ubs (rvI l (i + 1))) md e)).n (.slice (some ⟨x,0,none⟩) l.length l.length) := .slice hlt
  have hcl1 := hHc (i + 1)
  rw [hji]
  generalize (rvI l i)[j]'(by omega) = yj at *
  generalize (rvI l i)[i]'(by omega) = yi at *
  generalize rvI l i = R at *
  obtain ⟨R1,hR1⟩ : ∃ R1,rvI l (i + 1) = R1 := ⟨_,rfl⟩
  rw [hR1] at hst p2 hcl1
  have l1 : i + 1 ≤ (ubs R).length := by rw [ubs_len]; omega
  have l2 : j + 1 ≤ (ubs (R.set i yj)).length := by rw [ubs_len,List.length_set]; omega
  have hc1 : ∀ L,(h.set x (.cells (ubs L) md e)).cellsOf x = some (ubs L,md,e) := fun L => cells_setJ' _ _ _ _ _
  have hs1 : ∀ L L', (h.set x (.cells (ubs L) md e)).set x (.cells L' md e) = h.set x (.cells L' md e) := fun L L' => by
   unfold Heap.set
   congr 1
   funext u
   dsimp only
   split <;> rfl
  simp [c232_0, hi', hi2, aidx_of hil, aidx_of hjl, hc1, apart, q1, q2, p1, p2, hs1, hro, hml, l1, l2, w4, w5, mcells, -Int.natCast_add]
  exact ⟨i + 1,by omega,by omega,by rw [hR1]; exact ⟨Nat.le_refl _,Nat.le_refl _,fun _ _ e => e,hcl1⟩,.slice hlt,⟨rfl,.int⟩,rfl,.int⟩
 ·have hi' : ¬ (i : Int) < (l.length : Int) - 1 - (i : Int) := by omega
  simp [c232_0, hi', rvI_end l i (by omega)]
theorem high_ok (l : List UInt8) (hl0 : l ≠ []) (v : Value) (h : Heap) (hl : SlB h v l) (hn : l.length ≤ 1000000) : ACalls Tryz.prog 224 [v] h fun r h' => NewB h h' r l.reverse := by
 refine acalls_of mix Tryz.func224 k224 n224 (by simp) fun hcl hb => ?_
 simp [c224]
 refine (clone_okJ l hl0 v h hl hn).mono' ?_
 rintro w H1 c1 _ n1
 obtain ⟨x,md,e,rfl,hx,hro,hes,hxn,hlt,hput⟩ := n1.put hcl (List.length_pos_iff.2 hl0)
 simp
 refine (rev_ok l hn x md e H1 hx hro hes).mono ?_
 rintro _ h9 ⟨rfl,e2⟩
 rw [e2]; clear e2 h9
 simp
 have := hput l.reverse (by simp)
 exact this
theorem value_ok {v f n p : Nat} {vs ve vl : Value} {s : List UInt8} {E : List Nat} {loc : List UInt8} (a : List UInt8) (ha : a ≠ []) (va : Value) (x : UInt8) (h : Heap) (k : SvK h v f n p vs ve vl s E loc) (hl : SlB h va a) (hn : a.length ≤ 1000000) :
  ACalls Tryz.prog 210 [.pointer (some ⟨v,0,none⟩),va,.int .u8 (x.toNat : Int)] h fun r h' => r = .int .u8 ((Pl.vl a x).toNat : Int) ∧ Gr h h' := by
 refine acalls_of mix Tryz.func210 k210 n210 (by simp) fun hcl hb => ?_
 have c1 := k.cv
 simp [c210,c1,apart]
 refine (high_ok a ha va h hl hn).mono' ?_
 rintro w H1 d1 _ n1
 have c2 := (k.keep n1.gr).cv
 simp [c2,apart]
 refine (eval_okJ f a.reverse x w H1 (k.keep n1.gr).gf n1.sl (by simpa using hn)).eqK ?_
 simp
 exact ⟨rfl,n1.gr⟩
def c175_0 : AC := sO [oP 21 (bT .lss 20 19)] (.seq (cT 21 .skip (.exit 0)) (.seq (.block 1 (sO [mV 22 20,mV 10 22] (.draw [([mV 23 9,mV 24 10,mV 25 0,oP 26 (nC 25),oP 27 (fA 0 26),oP 28 (lN 27),mV 29 1,mV 30 10,mV 32 0,oP 33 (nC 32),oP 34 (fA 0 33),oP 35 (lN 34),mV 36 3,mV 37 2,mV 38 10,oP 39 (bK .sub 38 1)],[oP 31 (.call 201 [tP 29,tP 30])],[oP 28 (lN 27),oP 35 (lN 34)]),([],[oP 40 (.call 201 [tP 37,tP 39])],[oP 28 (lN 27),oP 35 (lN 34)]),([],[oP 41 (.buildS 2 [.int .u8 0,.int .u8 0] [(0,1,.tmp 36),(1,1,.tmp 40)])],[oP 28 (lN 27),oP 35 (lN 34)]),([],[oP 42 (.call 200 [tP 35,tP 41])],[oP 28 (lN 27)]),([],[oP 43 (.buildS 2 [.int .u8 0,.int .u8 0] [(0,1,.tmp 31),(1,1,.tmp 42)])],[oP 28 (lN 27)]),([],[oP 44 (.call 199 [tP 28,tP 43])],[]),([oP 45 (iA 1 23 24)],[nP (.store 1 (tP 45) (tP 44))],[]),([],[],[])]))) (.ops [oP 46 (bK .add 20 1),mV 20 46])))
def c175 : AC := sO [oP 8 (.mv (.const (.slice none 0 0)))] (sO [mV 11 1,oP 12 (lS 11),mV 13 2,oP 14 (lS 13),oP 15 (bK .add 14 1),oP 16 (.mx [tP 12,tP 15]),oP 17 (.mkSlT 5 [.int .u8 0] 1 (tP 16) (tP 16)),mV 9 17] (.seq (sO [mV 18 9,oP 19 (lS 18),oP 20 (.mv (kI 0))] (.block 0 (.loop c175_0))) (sO [mV 47 9,mV 8 47] .ret)))
theorem k175 : compF Tryz.prog Tryz.f175 = some (c175,[8]) := by kernel_rfl
theorem n175 : Tryz.f175.ntmps = 48 := by kernel_rfl
def c177_0 : AC := sO [oP 14 (bT .lss 13 12)] (.seq (cT 14 .skip (.exit 0)) (.seq (.block 1 (sO [mV 15 13,mV 8 15] (.draw [([mV 16 7,mV 17 8,mV 18 0,oP 19 (nC 18),oP 20 (fA 0 19),oP 21 (lN 20),mV 22 7,mV 23 8,oP 24 (iA 1 22 23),oP 25 (lN 24),mV 26 2],[oP 27 (.buildS 2 [.int .u8 0,.int .u8 0] [(0,1,.tmp 25),(1,1,.tmp 26)])],[oP 21 (lN 20)]),([],[oP 28 (.call 200 [tP 21,tP 27])],[]),([oP 29 (iA 1 16 17)],[nP (.store 1 (tP 29) (tP 28))],[]),([],[],[])]))) (.ops [oP 30 (bK .add 13 1),mV 13 30])))
def c177 : AC := sO [oP 6 (.mv (.const (.slice none 0 0)))] (sO [mV 9 1,oP 10 (.call 169 [tP 9]),mV 7 10] (.seq (sO [mV 11 7,oP 12 (lS 11),oP 13 (.mv (kI 0))] (.block 0 (.loop c177_0))) (sO [mV 31 7,mV 6 31] .ret)))
theorem k177 : compF Tryz.prog Tryz.f177 = some (c177,[6]) := by kernel_rfl
theorem n177 : Tryz.f177.ntmps = 32 := by kernel_rfl
def plO (a b : List UInt8) (y : UInt8) (N i : Nat) : List UInt8 := (Pl.plusF a b y).take i ++ List.replicate (N - i) 0
theorem plO_len (a b : List UInt8) (y : UInt8) {N i : Nat} (hN : (Pl.plusF a b y).length = N) (hi : i ≤ N) : (plO a b y N i).length = N := by unfold plO; simp; omega
theorem getD_at (l : List UInt8) (i : Nat) : l.getD i 0 = atF l i := by unfold atF; rw [if_pos (by omega)]; rfl
theorem plusF_at (a b : List UInt8) (y : UInt8) (i : Nat) (hi : i < (Pl.plusF a b y).length) : (Pl.plusF a b y)[i] = atF a i ^^^ Pl.gm y (atF b ((i : Int) - 1)) := by
 have h1 : (Pl.plusF a b y)[i] = (Pl.plusF a b y).getD i 0 := by rw [List.getD_eq_getElem?_getD,List.getElem?_eq_getElem hi]; rfl
 rw [h1]
 cases i with
 | zero =>
   rw [Pl.plusF_get0,getD_at]
   have : atF b (((0 : Nat) : Int) - 1) = 0 := by unfold atF; rw [if_neg (by omega)]
   rw [this,Pl.gm_zero]
   simp
 | succ i =>
   rw [Pl.plusF_get,getD_at,getD_at]
   congr 3
   omega
theorem plO_set (a b : List UInt8) (y : UInt8) {N i : Nat} (hN : (Pl.plusF a b y).length = N) (hi : i < N) : (plO a b y N i).set i (atF a i ^^^ Pl.gm y (atF b ((i : Int) - 1))) = plO a b y N (i + 1) := by
 rw [← plusF_at a b y i (by omega)]
 unfold plO
 rw [List.set_append_right _ _ (by simp; omega),show N - i = (N - (i + 1)) + 1 by omega,List.replicate_succ,List.length_take,Nat.min_eq_left (by omega),Nat.sub_self,List.set_cons_zero,List.take_succ_eq_append_getElem (by omega),List.append_assoc]
 rfl
theorem plus_ok {v f n p : Nat} {vs ve vl : Value} {s : List UInt8} {E : List Nat} {loc : List UInt8} (a b : List UInt8) (y : UInt8) (va vb : Value) (h : Heap) (k : SvK h v f n p vs ve vl s E loc) (ha : SlB h va a) (hb1 : SlB h vb b) (hna : a.length ≤ 1000) (hnb : b.length ≤ 1000) :
  ACalls Tryz.prog 175 [.pointer (some ⟨v,0,none⟩),va,vb,.int .u8 (y.toNat : Int)] h fun r h' => NewB h h' r (Pl.plusF a b y) := by
 refine acalls_of mix Tryz.func175 k175 n175 (by simp) fun hcl hb => ?_
 have c1 := k.cv
 have hv := cellsOf_lt hcl c1
 have bva := Sl.below ha hcl
 have bvb := Sl.below hb1 hcl
 obtain ⟨a1,ca,rfl⟩ := Sl.form ha
 obtain ⟨b1,cb,rfl⟩ := Sl.form hb1
 have hN0 := Pl.plusF_len a b y
 obtain ⟨N,hN⟩ : ∃ N,(Pl.plusF a b y).length = N := ⟨_,rfl⟩
 have w1 : IntKind.i64.wrap ((b.length : Int) + 1) = ((b.length + 1 : Nat) : Int) := wI (by omega)
 have hmx : max (a.length : Int) ((b.length + 1 : Nat) : Int) = (N : Int) := by omega
 have hmx2 : max (a.length : Int) ((b.length : Int) + 1) = (N : Int) := by omega
 have q3 : (N : Int) * 2 ≤ 1099511627776 := by omega
 simp [c175,w1,hmx,hmx2,q3,afold,amax2,-Int.natCast_add]
 rw [ubs_rep]
 have hO0 : List.replicate N (0 : UInt8) = plO a b y N 0 := by unfold plO; simp
 rw [hO0]
 have hOl : ∀ i,i ≤ N → (plO a b y N i).length = N := fun i hi => plO_len a b y hN hi
 have hclO : ∀ O : List UInt8,(h.push (.cells (ubs O) (.exT 5) 1)).Closed := fun O => closed_push hcl ubs_bel
 have g3 : ∀ O : List UInt8,Gr h (h.push (.cells (ubs O) (.exT 5) 1)) := fun O => ⟨Nat.le_succ _,hclO O,keep_push hcl _⟩
 refine awp_loop_of (α := Nat) (fun i => i ≤ N) (fun i => [(0,.pointer (some ⟨v,0,none⟩)),(1,.slice a1 a.length ca),(2,.slice b1 b.length cb),(3,.int .u8 (y.toNat : Int)),(9,.slice (some ⟨h.n,0,none⟩) N N),(19,.int .i64 N),(20,.int .i64 (i : Int))]) (fun i => h.push (.cells (ubs (plO a b y N i)) (.exT 5) 1)) (fun i => N - i) 0
  (Nat.zero_le _) ⟨Nat.le_succ _,Nat.le_refl _,fun _ _ e => e,hclO _⟩ (by simp; exact ⟨.ptr (by show v < h.n + 1; omega),bva.mono (Nat.le_succ _),bvb.mono (Nat.le_succ _),.int,.slice (by show h.n < h.n + 1; omega),.int,.int⟩) ?_
 intro i hi
 by_cases hlt : i < N
 ·have hi' : (i : Int) < (N : Int) := by omega
  have w4 := w64n (i := i) (by omega)
  have w5 : IntKind.i64.wrap ((i : Int) - 1) = (i : Int) - 1 := IntWalk.i64_in _ (by omega)
  have hst := plO_set a b y hN hlt
  have hXl := hOl i hi
  have hXn := hOl (i + 1) (by omega)
  have kX := k.keep (g3 (plO a b y N i))
  have aX := Sl.keep ha (g3 (plO a b y N i)).m
  have bX := Sl.keep hb1 (g3 (plO a b y N i)).m
  have gX := g3 (plO a b y N i)
  have cX := hclO (plO a b y N i)
  have fX := cellsOf_new h (ubs (plO a b y N i)) (.exT 5) 1
  generalize plO a b y N i = X at *
  have cvX := kX.cv
  have hvn : v ≠ h.n + 1 := by omega
  have hfn := cellsOf_lt hcl k.gf
  have nX : (h.push (.cells (ubs X) (.exT 5) 1)).n = h.n + 1 := rfl
  have hvx : ∀ o,((h.push (.cells (ubs X) (.exT 5) 1)).push o).cellsOf v = some ([.pointer (some ⟨f,0,none⟩),.int .i64 (n : Int),.int .i64 (p : Int),vs,ve,vl],.ex,1) := fun o => by rw [cellsOf_ne (by show ¬ v = h.n + 1; omega)]; exact cvX
  have hvx2 : ∀ o o', (((h.push (.cells (ubs X) (.exT 5) 1)).push o).push o').cellsOf v = some ([.pointer (some ⟨f, 0, none⟩), .int .i64 (n : Int), .int .i64 (p : Int), vs, ve, vl], .ex, 1) := fun o o' => by rw [cellsOf_ne (by show ¬ v = h.n + 1 + 1; omega)]; exact hvx o
  obtain ⟨ya,hya⟩ : ∃ ya,atF a i = ya := ⟨_,rfl⟩
  obtain ⟨yb,hyb⟩ : ∃ yb,atF b ((i : Int) - 1) = yb := ⟨_,rfl⟩
  rw [hya,hyb] at hst
  have hpX := ubs_put (l := X) (i := i) (by omega) (ya ^^^ Pl.gm y yb)
  rw [hst] at hpX
  have fX2 : ∀ a b c d : Int,(((h.push (.cells (ubs X) (.exT 5) 1)).push (.cells [.int .u8 a,.int .u8 b] .ex 1)).push (.cells [.int .u8 c,.int .u8 d] .ex 1)).cellsOf h.n = some (ubs X,.exT 5,1) := fun a b c d => by rw [cellsOf_ne (by show ¬ h.n = h.n + 1 + 1; omega),cellsOf_ne (by show ¬ h.n = h.n + 1; omega)]; exact fX
  simp [c175_0, hi', cvX, apart, w5, -Int.natCast_add]
  refine (sat_ok a (i : Int) _ _ aX).mono ?_
  rintro _ h9 ⟨rfl,e⟩
  rw [e,hya]; clear e h9
  simp [cvX,apart]
  refine (sat_ok b ((i : Int) - 1) _ _ bX).mono ?_
  rintro _ h9 ⟨rfl,e⟩
  rw [e,hyb]; clear e h9
  simp [cvX,hvx,hvx2,apart,fil2]
  refine (gfmul2_ok f y yb _ cX kX.gf).eqK ?_
  simp [cvX,hvx,hvx2,apart,fil2]
  refine (gfadd2_ok f ya (Pl.gm y yb) _ (by show f < h.n + 1 + 1; omega)).eqK ?_
  simp [fX2,aidx_of hlt,mcells,apart,hpX,ubs_len,hXl,hXn,show i + 1 ≤ N by omega,set_push3,w4,-Int.natCast_add,-UInt8.toNat_xor]
  exact ⟨i + 1,by omega,by omega,sub_push2 (hclO _) (Nat.le_succ _) _ _ _ _,.ptr (by show v < h.n + 1; omega),bva.mono (Nat.le_succ _),bvb.mono (Nat.le_succ _),.int,.slice (by show h.n < h.n + 1; omega),.int,rfl,.int⟩
 ·have hie : i = N := by omega
  subst hie
  have hl := hOl i (Nat.le_refl _)
  have he : plO a b y i i = Pl.plusF a b y := by unfold plO; rw [Nat.sub_self,List.take_of_length_le (by omega)]; simp
  simp [c175_0]
  rw [he]
  exact ⟨some h.n,.inr ⟨h.n,.exT 5,1,rfl,by rw [hN],by exact cellsOf_new _ _ _ _,by rw [ubs_len,Nat.mul_one],by simp,fun _ => rfl⟩,fun x e => by cases e; omega,g3 _⟩
def scO (a : List UInt8) (y : UInt8) (i : Nat) : List UInt8 := (a.take i).map (Pl.gm y) ++ a.drop i
theorem scO_len (a : List UInt8) (y : UInt8) (i : Nat) : (scO a y i).length = a.length := by unfold scO; simp; omega
theorem scO_get (a : List UInt8) (y : UInt8) (i : Nat) (h : i < a.length) : (scO a y i)[i]'(by rw [scO_len]; exact h) = a[i] := by
 unfold scO
 rw [List.getElem_append_right (by simp; omega)]
 simp [Nat.min_eq_left (Nat.le_of_lt h)]
theorem scO_set (a : List UInt8) (y : UInt8) (i : Nat) (h : i < a.length) : (scO a y i).set i (Pl.gm y a[i]) = scO a y (i + 1) := by
 unfold scO
 rw [List.set_append_right _ _ (by simp; omega),List.length_map,List.length_take,Nat.min_eq_left (by omega),Nat.sub_self,List.drop_eq_getElem_cons h,List.set_cons_zero,List.take_succ_eq_append_getElem h,List.map_append,List.append_assoc]
 rfl
theorem scaled_ok {v f n p : Nat} {vs ve vl : Value} {s : List UInt8} {E : List Nat} {loc : List UInt8} (a : List UInt8) (ha0 : a ≠ []) (y : UInt8) (va : Value) (h : Heap) (k : SvK h v f n p vs ve vl s E loc) (ha : SlB h va a) (hna : a.length ≤ 1000) :
  ACalls Tryz.prog 177 [.pointer (some ⟨v,0,none⟩),va,.int .u8 (y.toNat : Int)] h fun r h' => NewB h h' r (a.map (Pl.gm y)) := by
 refine acalls_of mix Tryz.func177 k177 n177 (by simp) fun hcl hb => ?_
 have hv := cellsOf_lt hcl k.cv
 simp [c177]
 refine (clone_okJ a ha0 va h ha (by omega)).mono' ?_
 rintro w H1 d1 _ n1
 obtain ⟨x,md,e,rfl,hx,hro,hes,hxn,hlt1,hput⟩ := n1.put hcl (List.length_pos_iff.2 ha0)
 have hml : (md.isLoose = true → e = 1) = True := eq_true hes
 have g1 := n1.gr
 have mx := m_of_cells hx
 obtain ⟨HA,hHA⟩ : ∃ HA : Nat → Heap,HA = fun i => H1.set x (.cells (ubs (scO a y i)) md e) := ⟨_,rfl⟩
 have hn : ∀ i,NewB h (HA i) (.slice (some ⟨x,0,none⟩) a.length a.length) (scO a y i) := fun i => by subst hHA; exact hput _ (scO_len a y i)
 have hHn : ∀ i,(HA i).n = H1.n := fun i => by subst hHA; rfl
 have hcx : ∀ i,(HA i).cellsOf x = some (ubs (scO a y i),md,e) := fun i => by subst hHA; exact cells_setJ' _ _ _ _ _
 have hss : ∀ i j,(HA i).set x (.cells (ubs (scO a y j)) md e) = HA j := fun i j => by
  subst hHA
  unfold Heap.set
  congr 1
  funext u
  dsimp only
  split <;> rfl
 have hsp : ∀ i o L,(((HA i).push o).set x L) = ((HA i).set x L).push o := fun i o L => by
  rw [push_set (by rw [hHn]; omega)]
 have h0 : Heap.Sub h.n (HA 0) H1 := ⟨by rw [hHn]; exact g1.n,by rw [hHn]; exact Nat.le_refl _,fun u ob e2 => by
  subst hHA
  rw [set_m] at e2
  split at e2
  ·rename_i q; subst q; cases e2
   have : scO a y 0 = a := by unfold scO; simp
   rw [this]; exact mx
  ·exact e2,(hn 0).gr.cl⟩
 simp
 refine awp_loop_of (α := Nat) (fun i => i ≤ a.length) (fun i => [(0,.pointer (some ⟨v,0,none⟩)),(2,.int .u8 (y.toNat : Int)),(7,.slice (some ⟨x,0,none⟩) a.length a.length),(12,.int .i64 a.length),(13,.int .i64 (i : Int))]) HA (fun i => a.length - i) 0
  (Nat.zero_le _) h0 (by simp [hHn]; exact ⟨.ptr (by show v < _; omega),.int,.slice (by show x < _; omega),.int,.int⟩) ?_
 intro i hi
 have cl := (hn i).gr.cl
 by_cases hlt : i < a.length
 ·have hi' : (i : Int) < (a.length : Int) := by omega
  have w4 := w64n (i := i) (by omega)
  have kX := k.keep (hn i).gr
  have cvX := kX.cv
  have hst := scO_set a y i hlt
  have hgt := ubs_getJ (l := scO a y i) (i := i) (by rw [scO_len]; exact hlt)
  rw [scO_get a y i hlt] at hgt
  have hpX := ubs_put (l := scO a y i) (i := i) (by rw [scO_len]; exact hlt) (Pl.gm y a[i])
  rw [hst] at hpX
  have hXl := scO_len a y i
  have hc0 := hcx i
  have hs0 := hss i (i + 1)
  have hp0 := hsp i
  have hn0 := hHn i
  have hxc : ∀ o,((HA i).push o).cellsOf x = some (ubs (scO a y i),md,e) := fun o => by rw [cellsOf_ne (by rw [hn0]; omega)]; exact hc0
  have hvx : ∀ o,((HA i).push o).cellsOf v = some ([.pointer (some ⟨f,0,none⟩),.int .i64 (n : Int),.int .i64 (p : Int),vs,ve,vl],.ex,1) := fun o => by rw [cellsOf_ne (by rw [hn0]; have := g1.n; omega)]; exact cvX
  have hyc : Pl.gm a[i] y = Pl.gm y a[i] := Pl.gm_comm _ _
  have l1 : i + 1 ≤ (ubs (scO a y i)).length := by rw [ubs_len,hXl]; omega
  simp [c177_0, hi', cvX, aidx_of hlt, hc0, hgt, apart, fil2, hvx, -Int.natCast_add]
  refine (gfmul2_ok f a[i] y _ cl kX.gf).mono ?_
  rintro _ h9 ⟨rfl,e2⟩
  rw [e2,hyc]; clear e2 h9
  simp [aidx_of hlt,hxc,mcells,apart,hpX,l1,hro,hml,hp0,hs0,w4,-Int.natCast_add]
  exact ⟨i + 1,by omega,by omega,⟨by rw [hHn]; exact g1.n,Nat.le_succ _,fun u ob e => keep_push (hn (i + 1)).gr.cl _ u ob e,(hn (i + 1)).gr.cl⟩,.ptr (by show v < (HA (i + 1)).n; rw [hHn]; have := g1.n; omega),.int,.slice (by show x < (HA (i + 1)).n; rw [hHn]; exact hlt1),.int,rfl,.int⟩
 ·have hie : i = a.length := by omega
  subst hie
  simp [c177_0]
  have := hn a.length
  have he : scO a y a.length = a.map (Pl.gm y) := by unfold scO; simp
  rw [he] at this
  exact this
def c171_0 : AC := sO [oP 14 (bT .lss 13 12)] (.seq (cT 14 .skip (.exit 0)) (.seq (.block 1 (sO [oP 15 (iA 1 11 13),oP 16 (lN 15),mV 3 16] (.draw [([mV 17 0,mV 18 0,mV 19 0,oP 20 (nC 19),oP 21 (fA 5 20),oP 22 (lN 21),mV 23 0,oP 24 (nC 23),oP 25 (fA 5 24),oP 26 (lN 25),mV 27 0,mV 28 3],[oP 29 (.call 193 [tP 27,tP 28])],[oP 22 (lN 21),oP 26 (lN 25)]),([],[oP 30 (.call 175 [tP 18,tP 22,tP 26,tP 29])],[]),([oP 31 (nC 17),oP 32 (fA 5 31)],[nP (.store 1 (tP 32) (tP 30))],[]),([],[],[])]))) (.ops [oP 33 (bK .add 13 1),mV 13 33])))
def c171 : AC := sO [mV 4 0,oP 5 (.buildS 1 [.int .u8 0] [(0,1,.const (.int .u8 1))]),oP 6 (nC 4),oP 7 (fA 5 6),nP (.store 1 (tP 7) (tP 5))] (sO [mV 8 0,oP 9 (nC 8),oP 10 (fA 4 9),oP 11 (lN 10),oP 12 (lS 11),oP 13 (.mv (kI 0))] (.block 0 (.loop c171_0)))
theorem k171 : compF Tryz.prog Tryz.f171 = some (c171,[]) := by kernel_rfl
theorem n171 : Tryz.f171.ntmps = 34 := by kernel_rfl
def c174_0 : AC := sO [oP 13 (bT .lss 12 11)] (.seq (cT 13 .skip (.exit 0)) (.seq (.block 1 (sO [mV 14 12,mV 6 14] (.draw [([mV 15 0,oP 16 (nC 15),oP 17 (fA 0 16),oP 18 (lN 17),mV 19 5,mV 20 0,oP 21 (nC 20),oP 22 (fA 0 21),oP 23 (lN 22),mV 24 0,oP 25 (nC 24),oP 26 (fA 5 25),oP 27 (lN 26),mV 28 6,oP 29 (iA 1 27 28),oP 30 (lN 29),mV 31 0,oP 32 (nC 31),oP 33 (fA 3 32),oP 34 (lN 33),mV 35 1,oP 36 (bK .sub 35 1),mV 37 6,oP 38 (bT .sub 36 37)],[oP 39 (.call 201 [tP 34,tP 38])],[oP 18 (lN 17),oP 23 (lN 22),oP 27 (lN 26),oP 30 (lN 29)]),([],[oP 40 (.buildS 2 [.int .u8 0,.int .u8 0] [(0,1,.tmp 30),(1,1,.tmp 39)])],[oP 18 (lN 17),oP 23 (lN 22)]),([],[oP 41 (.call 200 [tP 23,tP 40])],[oP 18 (lN 17)]),([],[oP 42 (.buildS 2 [.int .u8 0,.int .u8 0] [(0,1,.tmp 19),(1,1,.tmp 41)])],[oP 18 (lN 17)]),([],[oP 43 (.call 199 [tP 18,tP 42])],[]),([],[mV 5 43],[]),([],[],[])]))) (.ops [oP 44 (bK .add 12 1),mV 12 44])))
def c174 : AC := sO [oP 4 (.mv (.const (.int .u8 0)))] (sO [oP 5 (.mv (.const (.int .u8 0)))] (.seq (sO [mV 7 0,oP 8 (nC 7),oP 9 (fA 5 8),oP 10 (lN 9),oP 11 (lS 10),oP 12 (.mv (kI 0))] (.block 0 (.loop c174_0))) (sO [mV 45 5,mV 4 45] .ret)))
theorem k174 : compF Tryz.prog Tryz.f174 = some (c174,[4]) := by kernel_rfl
theorem n174 : Tryz.f174.ntmps = 46 := by kernel_rfl
def plX (n : Nat) (E : List Nat) : List UInt8 := E.map fun i => Pl.al (n - 1 - i)
structure ErS where
 j : Nat
 vl : Value
 H : Heap
theorem erasures_ok {v f n p : Nat} {vs ve vl : Value} {s : List UInt8} {E : List Nat} {loc : List UInt8} (hn : n ≤ 255) (hE : ∀ i ∈ E,i < n) (hEl : E.length ≤ 255) (h : Heap) (k : SvK h v f n p vs ve vl s E loc) :
  ACalls Tryz.prog 171 [.pointer (some ⟨v, 0, none⟩)] h fun r h' => r = .tuple #[] ∧ ∃ vl', SvK h' v f n p vs ve vl' s E (Pl.locs (plX n E)) ∧ Xv v h h' := by
 refine acalls_of mix Tryz.func171 k171 n171 (by simp) fun hcl hb => ?_
 have hv := cellsOf_lt hcl k.cv
 have c1 : (h.push (.cells [.int .u8 1] .ex 1)).Closed := closed_push hcl (fun y hy => by simp at hy; subst hy; exact .int)
 have g1 : Gr h (h.push (.cells [.int .u8 1] .ex 1)) := ⟨Nat.le_succ _,c1,keep_push hcl _⟩
 have fil1 : afill [.int .u8 0] [(0,1,.int .u8 1)] = some [.int .u8 1] := rfl
 have e1 := cellsOf_new h [.int .u8 1] .ex 1
 have nb : NewB h (h.push (.cells [.int .u8 1] .ex 1)) (.slice (some ⟨h.n,0,none⟩) 1 1) [1] := ⟨some h.n,.inr ⟨h.n,.ex,1,rfl,rfl,e1,rfl,by simp,fun q => by simp [BMode.isLoose] at q⟩,fun u e => by have := Option.some.inj e; omega,g1⟩
 obtain ⟨k2,x2⟩ := k.put hcl nb
 have cv1 := (k.keep g1).cv
 have hp5 : ∀ vl x : Value,aput [.pointer (some ⟨f,0,none⟩),.int .i64 (n : Int),.int .i64 (p : Int),vs,ve,vl] 5 [x] = [.pointer (some ⟨f,0,none⟩),.int .i64 (n : Int),.int .i64 (p : Int),vs,ve,x] := fun _ _ => rfl
 have cv2 := k2.cv
 have se2 := k2.se _ (Xv.refl x2.cl)
 have bve := Sl.below se2 x2.cl
 obtain ⟨ae,ce,rfl⟩ : ∃ ae ce,ve = .slice ae E.length ce := by
  rcases se2 with ⟨c,rfl,rfl⟩ | ⟨b,o,cap,c,m,e,rfl,_⟩
  ·exact ⟨_,_,rfl⟩
  ·exact ⟨_,_,rfl⟩
 simp [c171,fil1,cv1,mcells,hp5,cv2]
 generalize (h.push (.cells [.int .u8 1] .ex 1)).set v (.cells [.pointer (some ⟨f,0,none⟩),.int .i64 (n : Int),.int .i64 (p : Int),vs,.slice ae E.length ce,.slice (some ⟨h.n,0,none⟩) 1 1] .ex 1) = H2 at *
 have hX0 : ([1] : List UInt8) = Pl.locs (plX n (E.take 0)) := rfl
 rw [hX0] at k2
 have x2n := x2.n
 refine awp_loop_of (α := ErS) (fun z => z.j ≤ E.length ∧ SvK z.H v f n p vs (.slice ae E.length ce) z.vl s E (Pl.locs (plX n (E.take z.j))) ∧ Xv v h z.H ∧ VBelow z.H.n (.slice ae E.length ce)) (fun z => [(0,.pointer (some ⟨v,0,none⟩)),(11,.slice ae E.length ce),(12,.int .i64 E.length),(13,.int .i64 (z.j : Int))]) (fun z => z.H) (fun z => E.length - z.j) ⟨0,_,H2⟩
  ⟨Nat.zero_le _,k2,x2,bve⟩ ⟨x2.n,Nat.le_refl _,fun _ _ e => e,x2.cl⟩ (by simp; exact ⟨.ptr (by show v < _; omega),bve,.int,.int⟩) ?_
 rintro ⟨j,wl,H⟩ ⟨hj,kH,xH,bH⟩
 dsimp only at hj kH xH bH ⊢
 have xn := xH.n
 by_cases hlt : j < E.length
 ·have hi' : (j : Int) < (E.length : Int) := by omega
  have w4 := w64n (i := j) (by omega)
  obtain ⟨b1, o1, cs1, m1, e1', rfl, _, q1, q2⟩ := Sl.at (kH.se _ (Xv.refl xH.cl)) hlt
  have q3 : cs1[o1 + j]? = some (.int .i64 ((E[j] : Nat) : Int)) := q2
  have hEj := hE _ (List.getElem_mem hlt)
  have hpl : plX n (E.take (j + 1)) = plX n (E.take j) ++ [Pl.al (n - 1 - E[j])] := by
   unfold plX; rw [List.take_succ_eq_append_getElem hlt,List.map_append]; rfl
  have hlo : Pl.locs (plX n (E.take (j + 1))) = Pl.plusF (Pl.locs (plX n (E.take j))) (Pl.locs (plX n (E.take j))) (Pl.al (n - 1 - E[j])) := by
   rw [hpl,Pl.locs_snoc]; rfl
  have hll : (Pl.locs (plX n (E.take j))).length ≤ 1000 := by
   rw [Pl.locs_len]; unfold plX; rw [List.length_map,List.length_take]; omega
  have cvH := kH.cv
  generalize E[j] = i at *
  simp [c171_0, hi', aidx_of hlt, q1, apart, q3, cvH, -Int.natCast_add]
  refine (place_ok i hEj hn H kH).eqK ?_
  simp [cvH,apart]
  refine (plus_ok _ _ (Pl.al (n - 1 - i)) wl wl H kH kH.sl kH.sl hll hll).mono' ?_
  rintro wl2 H3 d3 _ nb3
  rw [← hlo] at nb3
  obtain ⟨k4,x4⟩ := kH.put xH.cl nb3
  have cv3 := (kH.keep nb3.gr).cv
  obtain ⟨aw,cw,rfl⟩ := Sl.form nb3.sl
  simp [cv3,mcells,hp5,w4,-Int.natCast_add]
  generalize H3.set v _ = H4 at *
  have x5 := xH.trans x4
  have x5n := x4.n
  exact ⟨⟨j + 1,_,H4⟩,by show E.length - (j + 1) < E.length - j; omega,⟨by show j + 1 ≤ E.length; omega,k4,x5,bH.mono x5n⟩,⟨x5.n,Nat.le_refl _,fun _ _ e => e,x4.cl⟩,.ptr (by show v < H4.n; omega),bH.mono x5n,.int,rfl,.int⟩
 ·have hje : j = E.length := by omega
  subst hje
  rw [List.take_length] at kH
  simp [c171_0]
  exact ⟨⟨wl,kH⟩,xH⟩
def gapF (loc s : List UInt8) (r : Nat) : UInt8 := Pl.sx loc.length fun j => Pl.gm (loc.getD j 0) (atF s ((r : Int) - 1 - (j : Int)))
theorem gap_ok {v f n p : Nat} {vs ve vl : Value} {s : List UInt8} {E : List Nat} {loc : List UInt8} (r : Nat) (hr : r ≤ 1000) (hll : loc.length ≤ 1000) (h : Heap) (k : SvK h v f n p vs ve vl s E loc) :
  ACalls Tryz.prog 174 [.pointer (some ⟨v,0,none⟩),.int .i64 (r : Int)] h fun x h' => x = .int .u8 ((gapF loc s r).toNat : Int) ∧ h' = h := by
 refine acalls_of mix Tryz.func174 k174 n174 (by simp) fun hcl hb => ?_
 have hv := cellsOf_lt hcl k.cv
 have hf := cellsOf_lt hcl k.gf
 have cv := k.cv
 have ss := k.ss h (Xv.refl hcl)
 have sl := k.sl
 obtain ⟨al,cl,rfl⟩ := Sl.form sl
 simp [c174,cv,apart]
 obtain ⟨G,hG⟩ : ∃ G : Nat → UInt8,G = fun j => Pl.gm (loc.getD j 0) (atF s ((r : Int) - 1 - (j : Int))) := ⟨_,rfl⟩
 have hgap : gapF loc s r = Pl.sx loc.length G := by rw [hG]; rfl
 rw [hgap]
 refine awp_loop_of (α := Nat) (fun j => j ≤ loc.length) (fun j => [(0,.pointer (some ⟨v,0,none⟩)),(1,.int .i64 (r : Int)),(5,.int .u8 ((Pl.sx j G).toNat : Int)),(11,.int .i64 loc.length),(12,.int .i64 (j : Int))]) (fun _ => h) (fun j => loc.length - j) 0
  (Nat.zero_le _) (Heap.Sub.refl hcl) (by simp; exact ⟨.ptr hv,.int,⟨rfl,.int⟩,.int,.int⟩) ?_
 intro j hj
 by_cases hlt : j < loc.length
 ·have hi' : (j : Int) < (loc.length : Int) := by omega
  have w4 := w64n (i := j) (by omega)
  have w5 : IntKind.i64.wrap ((r : Int) - 1) = (r : Int) - 1 := IntWalk.i64_in _ (by omega)
  have w6 : IntKind.i64.wrap ((r : Int) - 1 - (j : Int)) = (r : Int) - 1 - (j : Int) := IntWalk.i64_in _ (by omega)
  obtain ⟨b1,o1,cs1,m1,e1,rfl,_,q1,q2⟩ := Sl.at sl hlt
  have q3 : cs1[o1 + j]? = some (.int .u8 (loc[j].toNat : Int)) := q2
  have hgj : G j = Pl.gm loc[j] (atF s ((r : Int) - 1 - (j : Int))) := by
   rw [hG]
   show Pl.gm (loc.getD j 0) _ = _
   rw [List.getD_eq_getElem?_getD,List.getElem?_eq_getElem hlt]; rfl
  have hsx : Pl.sx (j + 1) G = Pl.sx j G ^^^ G j := rfl
  rw [hgj] at hsx
  generalize loc[j] = y at *
  obtain ⟨z,hz⟩ : ∃ z,atF s ((r : Int) - 1 - (j : Int)) = z := ⟨_,rfl⟩
  rw [hz] at hsx
  generalize Pl.sx j G = A at *
  have hvx : ∀ o,(h.push o).cellsOf v = some ([.pointer (some ⟨f,0,none⟩),.int .i64 (n : Int),.int .i64 (p : Int),vs,ve,.slice (some ⟨b1,o1,none⟩) loc.length cl],.ex,1) := fun o => by rw [cellsOf_ne (by omega)]; exact cv
  have hvx2 : ∀ o o', ((h.push o).push o').cellsOf v = some ([.pointer (some ⟨f, 0, none⟩), .int .i64 (n : Int), .int .i64 (p : Int), vs, ve, .slice (some ⟨b1, o1, none⟩) loc.length cl], .ex, 1) := fun o o' => by rw [cellsOf_ne (by show ¬ v = h.n + 1; omega)]; exact hvx o
  have b1n := cellsOf_lt hcl q1
  have hbx : ∀ o,(h.push o).cellsOf b1 = some (cs1,m1,e1) := fun o => by rw [cellsOf_ne (by omega)]; exact q1
  simp [c174_0, hi', cv, apart, aidx_of hlt, q1, q3, w5, w6, -Int.natCast_add]
  refine (sat_ok s _ vs h ss).mono ?_
  rintro _ h9 ⟨rfl,e⟩
  rw [e,hz]; clear e h9
  simp [cv,hvx,apart,aidx_of hlt,q1,q3,fil2]
  refine (gfmul2_ok f y z h hcl k.gf).eqK ?_
  simp [cv,hvx,hvx2,apart,fil2]
  refine (gfadd2_ok f A (Pl.gm y z) (h.push (.cells [.int .u8 (y.toNat : Int),.int .u8 (z.toNat : Int)] .ex 1)) (by show f < h.n + 1; omega)).mono ?_
  rintro _ h9 ⟨rfl,e⟩
  rw [e,← hsx]; clear e h9
  simp [w4,-Int.natCast_add]
  exact ⟨j + 1,by omega,by omega,sub_push2 hcl (Nat.le_refl _) _ _ _ _,.ptr hv,.int,⟨rfl,.int⟩,.int,rfl,.int⟩
 ·have hje : j = loc.length := by omega
  subst hje
  simp [c174_0]
def c197_0 : AC := .seq (sO [mV 5 4,mV 6 0,oP 7 (lS 6),oP 8 (bT .lss 5 7)] (cT 8 .skip (.exit 0))) (.seq (.block 1 (sO [mV 11 4,oP 12 (bK .rem 11 2),oP 13 (bK .eql 12 1)] (cT 13 (.ops [mV 14 3,mV 15 0,mV 16 4,oP 17 (iA 1 15 16),oP 18 (lN 17),oP 19 (.buildS 1 [.int .u8 0] [(0,1,.tmp 18)]),oP 20 (.app 1 1 5 (tP 14) (tP 19)),mV 3 20]) (.ops [mV 21 3,oP 22 (.buildS 1 [.int .u8 0] [(0,1,.const (.int .u8 0))]),oP 23 (.app 1 1 5 (tP 21) (tP 22)),mV 3 23])))) (.ops [mV 9 4,oP 10 (bK .add 9 1),mV 4 10]))
def c197 : AC := sO [oP 2 (.mv (.const (.slice none 0 0)))] (sO [oP 3 (.mv (.const (.slice none 0 0)))] (.seq (sO [oP 4 (.mv (kI 1))] (.block 0 (.loop c197_0))) (sO [mV 24 3,mV 2 24] .ret)))
theorem k197 : compF Tryz.prog Tryz.f197 = some (c197,[2]) := by kernel_rfl
theorem n197 : Tryz.f197.ntmps = 25 := by kernel_rfl
def c173_0 : AC := sO [oP 10 (bT .lss 9 8)] (.seq (cT 10 .skip (.exit 0)) (.seq (.block 1 (sO [mV 11 9,mV 6 11] (.seq (.draw [([mV 12 0,mV 13 6,oP 14 (iA 1 12 13),oP 15 (lN 14),mV 16 1,mV 17 6,oP 18 (iA 1 16 17),oP 19 (lN 18),oP 20 (bT .neq 15 19)],[],[])]) (cT 20 (.ops [mV 21 5,mV 22 6,oP 23 (.buildS 1 [.int .i64 0] [(0,1,.tmp 22)]),oP 24 (.app 1 8 3 (tP 21) (tP 23)),mV 5 24]) .skip)))) (.ops [oP 25 (bK .add 9 1),mV 9 25])))
def c173 : AC := sO [oP 4 (.mv (.const (.slice none 0 0)))] (sO [oP 5 (.mv (.const (.slice none 0 0)))] (.seq (sO [mV 7 0,oP 8 (lS 7),oP 9 (.mv (kI 0))] (.block 0 (.loop c173_0))) (sO [mV 26 5,mV 4 26] .ret)))
theorem k173 : compF Tryz.prog Tryz.f173 = some (c173,[4]) := by kernel_rfl
theorem n173 : Tryz.f173.ntmps = 27 := by kernel_rfl
theorem dvF_len (a : List UInt8) : (Pl.dvF a).length = a.length - 1 := by unfold Pl.dvF; simp
theorem dvF_take (a : List UInt8) (i : Nat) (h : i + 1 < a.length) : (Pl.dvF a).take (i + 1) = (Pl.dvF a).take i ++ [if i % 2 = 0 then a[i + 1] else 0] := by
 rw [List.take_succ_eq_append_getElem (by rw [dvF_len]; omega)]
 congr 2
 unfold Pl.dvF
 rw [List.getElem_map,List.getElem_range,List.getD_eq_getElem?_getD,List.getElem?_eq_getElem h]; rfl
theorem derived_ok (a : List UInt8) (ha : a.length ≤ 1000) (v : Value) (h : Heap) (hl : SlB h v a) : ACalls Tryz.prog 197 [v] h fun r h' => NewB h h' r (Pl.dvF a) := by
 refine acalls_of mix Tryz.func197 k197 n197 (by simp) fun hcl hb => ?_
 have bl := Sl.below hl hcl
 obtain ⟨al,cl,rfl⟩ := Sl.form hl
 simp [c197]
 refine awp_loop_of (α := CoS) (fun z => z.i ≤ a.length - 1 ∧ NewB h z.H z.v ((Pl.dvF a).take z.i)) (fun z => [(0,.slice al a.length cl),(3,z.v),(4,.int .i64 ((z.i + 1 : Nat) : Int))]) (fun z => z.H) (fun z => a.length - z.i) ⟨0,.slice none 0 0,h⟩
  ⟨Nat.zero_le _,NewB.nil hcl⟩ (Heap.Sub.refl hcl) (by simp; exact ⟨bl,.snil,.int⟩) ?_
 rintro ⟨i,w,H⟩ ⟨hi,nb⟩
 dsimp only at hi nb ⊢
 have gH := nb.gr
 have hlen : ((Pl.dvF a).take i).length = i := by rw [List.length_take,dvF_len]; omega
 by_cases hlt : i + 1 < a.length
 ·have hi' : ((i + 1 : Nat) : Int) < (a.length : Int) := by omega
  have w4 : IntKind.i64.wrap (((i + 1 : Nat) : Int) + 1) = ((i + 1 + 1 : Nat) : Int) := wI (by omega)
  obtain ⟨b1,o1,cs1,m1,e1,rfl,_,q1,q2⟩ := Sl.at (Sl.keep hl gH.m) hlt
  have q3 : cs1[o1 + (i + 1)]? = some (.int .u8 (a[i + 1].toNat : Int)) := q2
  have hmod : ∃ m : Nat,m = (i + 1) % 2 ∧ (((i + 1 : Nat) : Int)).tmod 2 = (m : Int) := ⟨_,rfl,by rw [Int.tmod_eq_emod_of_nonneg (by omega)]; omega⟩
  obtain ⟨m,hm,hm2⟩ := hmod
  have hdt := dvF_take a i hlt
  by_cases hp : i % 2 = 0
  ·rw [if_pos hp] at hdt
   have hm1 : m = 1 := by omega
   subst hm1
   obtain ⟨aw,ev,v2,H2,happ,n2⟩ := nb.byte hcl (a[i + 1]) (by rw [hlen]; omega)
   rw [hlen] at ev happ
   rw [← hdt] at n2
   subst ev
   have hfst := first1J H (a[i + 1])
   simp [c197_0, hi', hm2, aidx_of hlt, q1, apart, q3, fil1J, alen, hfst, happ, w4, -Int.natCast_add]
   exact ⟨⟨i + 1,v2,H2⟩,by show a.length - (i + 1) < a.length - i; omega,⟨by show i + 1 ≤ a.length - 1; omega,n2⟩,⟨n2.gr.n,Nat.le_refl _,fun _ _ e => e,n2.gr.cl⟩,bl.mono n2.gr.n,⟨rfl,n2.below⟩,rfl,.int⟩
  ·rw [if_neg hp] at hdt
   have hm1 : m = 0 := by omega
   subst hm1
   have z0 : (((0 : UInt8).toNat : Nat) : Int) = 0 := rfl
   obtain ⟨aw,ev,v2,H2,happ,n2⟩ := nb.byte hcl 0 (by rw [hlen]; omega)
   rw [hlen] at ev happ
   rw [← hdt] at n2
   subst ev
   have hfst := first1J H 0
   rw [z0] at happ hfst
   simp [c197_0, hi', hm2, apart, fil1J, alen, hfst, happ, w4, -Int.natCast_add]
   exact ⟨⟨i + 1,v2,H2⟩,by show a.length - (i + 1) < a.length - i; omega,⟨by show i + 1 ≤ a.length - 1; omega,n2⟩,⟨n2.gr.n,Nat.le_refl _,fun _ _ e => e,n2.gr.cl⟩,bl.mono n2.gr.n,⟨rfl,n2.below⟩,rfl,.int⟩
 ·have hie : i = a.length - 1 := by omega
  have hi' : ¬ ((i + 1 : Nat) : Int) < (a.length : Int) := by omega
  rw [List.take_of_length_le (by rw [dvF_len]; omega)] at nb
  simp [c197_0, hi', -Int.natCast_add]
  exact nb
def unF (a b : List UInt8) (i : Nat) : List Nat := (List.range i).filter fun k => decide (a[k]! ≠ b[k]!)
theorem unlikes_ok (a b : List UInt8) (hab : a.length = b.length) (ha : a.length ≤ 1000) (va vb : Value) (h : Heap) (hla : SlB h va a) (hlb : SlB h vb b) : ACalls Tryz.prog 173 [va,vb] h fun r h' => NewI h h' r (unF a b a.length) := by
 refine acalls_of mix Tryz.func173 k173 n173 (by simp) fun hcl hb => ?_
 have bla := Sl.below hla hcl
 have blb := Sl.below hlb hcl
 obtain ⟨al,cl,rfl⟩ := Sl.form hla
 obtain ⟨bl,dl,rfl⟩ := Sl.form hlb
 simp [c173]
 refine awp_loop_of (α := CoS) (fun z => z.i ≤ a.length ∧ NewI h z.H z.v (unF a b z.i)) (fun z => [(0,.slice al a.length cl),(1,.slice bl b.length dl),(5,z.v),(8,.int .i64 a.length),(9,.int .i64 (z.i : Int))]) (fun z => z.H) (fun z => a.length - z.i) ⟨0,.slice none 0 0,h⟩
  ⟨Nat.zero_le _,none,.inl ⟨rfl,rfl,rfl,rfl⟩,(fun _ e => by cases e),Gr.refl hcl⟩ (Heap.Sub.refl hcl) (by simp; exact ⟨bla,blb,.snil,.int,.int⟩) ?_
 rintro ⟨i,w,H⟩ ⟨hi,nm,la,xa,gH⟩
 dsimp only at hi la gH ⊢
 by_cases hlt : i < a.length
 ·have hi' : (i : Int) < (a.length : Int) := by omega
  have w4 := w64n (i := i) (by omega)
  have hlb2 : i < b.length := by omega
  obtain ⟨b1,o1,cs1,m1,e1,rfl,_,q1,q2⟩ := Sl.at (Sl.keep hla gH.m) hlt
  obtain ⟨b2,o2,cs2,m2,e2,rfl,_,r1,r2⟩ := Sl.at (Sl.keep hlb gH.m) hlb2
  have q3 : cs1[o1 + i]? = some (.int .u8 (a[i].toNat : Int)) := q2
  have r3 : cs2[o2 + i]? = some (.int .u8 (b[i].toNat : Int)) := r2
  have hst : unF a b (i + 1) = if a[i] ≠ b[i] then unF a b i ++ [i] else unF a b i := by
   unfold unF
   rw [range_filter_succ,getElem!_pos a i hlt,getElem!_pos b i hlb2]
   by_cases q : a[i] = b[i] <;> simp [q]
  have bml := bla.mono gH.n
  have bmr := blb.mono gH.n
  by_cases hne : a[i] = b[i]
  ·rw [if_neg (by simp [hne])] at hst
   have hne2 : (a[i].toNat : Int) = (b[i].toNat : Int) := by rw [hne]
   generalize a[i] = ya at *
   generalize b[i] = yb at *
   simp [c173_0, hi', aidx_of hlt, aidx_of hlb2, q1, q3, r1, r3, apart, hne2, hne, w4, -Int.natCast_add]
   exact ⟨⟨i + 1,w,H⟩,by show a.length - (i + 1) < a.length - i; omega,⟨by show i + 1 ≤ a.length; omega,by rw [hst]; exact ⟨nm,la,xa,gH⟩⟩,⟨gH.n,Nat.le_refl _,fun _ _ e => e,gH.cl⟩,bml,bmr,⟨rfl,lat_bel gH.cl la⟩,.int,rfl,.int⟩
  ·rw [if_pos hne] at hst
   have hne2 : ¬ (a[i].toNat : Int) = (b[i].toNat : Int) := fun q => hne (UInt8.toNat_inj.1 (by omega))
   have hne3 : ¬ a[i].toNat = b[i].toNat := by omega
   have hil : (unF a b i).length ≤ i := Nat.le_trans (List.length_filter_le _ _) (by simp)
   generalize a[i] = ya at *
   generalize b[i] = yb at *
   obtain ⟨aw,ev,v2,H2,happ,l2,fr2,n2,c2⟩ := lat_push1 (t := 3) (bytes := 8) gH.cl la [ei i] 1 (by simp) (fun k x hx => by simp at hx; subst hx; exact .int) (by omega)
   have hfst : afirst (H.push (.cells [ei i] .ex 1)) 1 1 (.slice (some ⟨H.n,0,none⟩) 1 1) = some [ei i] := by
    have := cellsOf_new H [ei i] .ex 1
    simp [afirst,this,acut]
   have fili : afill [.int .i64 0] [(0,1,.int .i64 (i : Int))] = some [ei i] := rfl
   subst ev
   simp [c173_0, hi', aidx_of hlt, aidx_of hlb2, q1, q3, r1, r3, apart, hne2, hne3, hne, fili, alen, hfst, happ, w4, -Int.natCast_add]
   have g2 : Gr h H2 := ⟨by have := gH.n; omega,c2,fun u ob e => fr2 u ob (gH.m u ob e) (fun q => by have := xa u q; have := (hcl u ob e).1; omega)⟩
   have l3 : LAt H2 1 (some (H.n + 1)) v2 (unF a b (i + 1)).length ((unF a b (i + 1)).map ei) := by
    rw [hst,List.length_append,List.map_append]; exact l2
   exact ⟨⟨i + 1,v2,H2⟩,by show a.length - (i + 1) < a.length - i; omega,⟨by show i + 1 ≤ a.length; omega,some (H.n + 1),l3,fun u e => by have := Option.some.inj e; have := gH.n; omega,g2⟩,⟨g2.n,Nat.le_refl _,fun _ _ e => e,c2⟩,bla.mono g2.n,blb.mono g2.n,⟨rfl,lat_bel c2 l2⟩,.int,rfl,.int⟩
 ·have hie : i = a.length := by omega
  subst hie
  simp [c173_0]
  exact ⟨nm,la,xa,gH⟩
end Go.Proofs.YtdnmkenamgfjoaaGreat.arbi
