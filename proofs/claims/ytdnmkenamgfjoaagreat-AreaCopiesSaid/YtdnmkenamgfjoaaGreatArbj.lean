/-
 Contracts.
-/
import Derived.Test.YtdnmkenamgfjoaaGreatArbi
import Derived.IntWalk
import Derived.KernelRfl
set_option linter.unusedSimpArgs false
set_option linter.unusedVariables false
set_option linter.unusedSectionVars false
namespace Go.Proofs.YtdnmkenamgfjoaaGreat.arbj
open Go Go.Ab Go.Proofs Go.RowKit str vers lin1 sha arba arbb arbc arbd arbe arbf arbg arbi
variable [Inhabited TabBox]
variable [Nonempty GF]
variable [Nonempty GE]
set_option maxRecDepth 100000
def c196_2 : AC := sO [oP 19 (bT .lss 18 17)] (.seq (cT 19 .skip (.exit 2)) (.seq (.block 3 (sO [mV 20 18,mV 5 20] (.draw [([mV 21 3,mV 22 4,mV 23 0,oP 24 (nC 23),oP 25 (fA 0 24),oP 26 (lN 25),mV 27 3,mV 28 4,oP 29 (iA 1 27 28),oP 30 (lN 29),mV 31 0,oP 32 (nC 31),oP 33 (fA 0 32),oP 34 (lN 33),mV 35 0,oP 36 (nC 35),oP 37 (fA 3 36),oP 38 (lN 37),mV 39 5,mV 41 0,oP 42 (nC 41),oP 43 (fA 5 42),oP 44 (lN 43),mV 45 4,mV 46 5,oP 47 (bT .sub 45 46)],[oP 40 (.call 201 [tP 38,tP 39])],[oP 26 (lN 25),oP 30 (lN 29),oP 34 (lN 33),oP 44 (lN 43)]),([],[oP 48 (.call 201 [tP 44,tP 47])],[oP 26 (lN 25),oP 30 (lN 29),oP 34 (lN 33)]),([],[oP 49 (.buildS 2 [.int .u8 0,.int .u8 0] [(0,1,.tmp 40),(1,1,.tmp 48)])],[oP 26 (lN 25),oP 30 (lN 29),oP 34 (lN 33)]),([],[oP 50 (.call 200 [tP 34,tP 49])],[oP 26 (lN 25),oP 30 (lN 29)]),([],[oP 51 (.buildS 2 [.int .u8 0,.int .u8 0] [(0,1,.tmp 30),(1,1,.tmp 50)])],[oP 26 (lN 25)]),([],[oP 52 (.call 199 [tP 26,tP 51])],[]),([oP 53 (iA 1 21 22)],[nP (.store 1 (tP 53) (tP 52))],[]),([],[],[])]))) (.ops [oP 54 (bK .add 18 1),mV 18 54])))
def c196_0 : AC := sO [oP 14 (bT .lss 13 12)] (.seq (cT 14 .skip (.exit 0)) (.seq (.block 1 (sO [mV 15 13,mV 4 15] (sO [mV 16 4,oP 17 (bK .add 16 1),oP 18 (.mv (kI 0))] (.block 2 (.loop c196_2))))) (.ops [oP 55 (bK .add 13 1),mV 13 55])))
def c196 : AC := sO [oP 2 (.mv (.const (.slice none 0 0)))] (sO [mV 6 0,oP 7 (nC 6),oP 8 (fA 2 7),oP 9 (lN 8),oP 10 (.mkSlT 5 [.int .u8 0] 1 (tP 9) (tP 9)),mV 3 10] (.seq (sO [mV 11 3,oP 12 (lS 11),oP 13 (.mv (kI 0))] (.block 0 (.loop c196_0))) (sO [mV 56 3,mV 2 56] .ret)))
theorem k196 : compF Tryz.prog Tryz.f196 = some (c196,[2]) := by kernel_rfl
theorem n196 : Tryz.f196.ntmps = 57 := by kernel_rfl
def c211 : AC := sO [oP 4 (.mv kF)] (sO [mV 5 0,mV 6 1,oP 7 (.call 225 [tP 5,tP 6]),oP 8 (bK .geq 7 0),mV 4 8] .ret)
theorem k211 : compF Tryz.prog Tryz.f211 = some (c211,[4]) := by kernel_rfl
theorem n211 : Tryz.f211.ntmps = 9 := by kernel_rfl
def c225_0 : AC := sO [oP 9 (bT .lss 8 7)] (.seq (cT 9 .skip (.exit 0)) (.seq (.block 1 (sO [mV 10 8,mV 5 10] (sO [mV 11 1,mV 12 0,mV 13 5,oP 14 (iA 1 12 13),oP 15 (lN 14),oP 16 (bT .eql 11 15)] (cT 16 (sO [mV 17 5,mV 4 17] .ret) .skip)))) (.ops [oP 18 (bK .add 8 1),mV 8 18])))
def c225 : AC := sO [oP 4 (.mv (kI 0))] (.seq (sO [mV 6 0,oP 7 (lS 6),oP 8 (.mv (kI 0))] (.block 0 (.loop c225_0))) (sO [oP 4 (.mv (.const (.int .i64 (-1))))] .ret))
theorem k225 : compF Tryz.prog Tryz.f225 = some (c225,[4]) := by kernel_rfl
theorem n225 : Tryz.f225.ntmps = 19 := by kernel_rfl
def c195_0 : AC := sO [oP 11 (bT .lss 10 9)] (.seq (cT 11 .skip (.exit 0)) (.seq (.block 1 (sO [oP 12 (iA 1 8 10),oP 13 (lN 12),mV 7 13] (sO [mV 14 0,oP 15 (nC 14),oP 16 (fA 4 15),oP 17 (lN 16),mV 18 7,oP 19 (.call 211 [tP 17,tP 18]),oP 20 (.un .not (tP 19))] (cT 20 (.ops [mV 21 5,oP 22 (bK .add 21 1),mV 5 22]) .skip)))) (.ops [oP 23 (bK .add 10 1),mV 10 23])))
def c195 : AC := sO [oP 4 (.mv (kI 0))] (sO [oP 5 (.mv (kI 0))] (.seq (sO [mV 8 1,oP 9 (lS 8),oP 10 (.mv (kI 0))] (.block 0 (.loop c195_0))) (sO [mV 24 5,mV 4 24] .ret)))
theorem k195 : compF Tryz.prog Tryz.f195 = some (c195,[4]) := by kernel_rfl
theorem n195 : Tryz.f195.ntmps = 25 := by kernel_rfl
def omT (s loc : List UInt8) (i j : Nat) : UInt8 := Pl.gm (s.getD j 0) (loc.getD (i - j) 0)
def omP (p : Nat) (s loc : List UInt8) (i j : Nat) : List UInt8 := (Pl.omF p s loc).take i ++ Pl.sx j (omT s loc i) :: List.replicate (p - (i + 1)) 0
theorem omP_len {p : Nat} {s loc : List UInt8} {i j : Nat} (h : i < p) : (omP p s loc i j).length = p := by unfold omP; simp [Pl.omF_len]; omega
theorem omP_get {p : Nat} {s loc : List UInt8} {i j : Nat} (h : i < p) : (omP p s loc i j)[i]'(by rw [omP_len h]; exact h) = Pl.sx j (omT s loc i) := by
 have hl : ((Pl.omF p s loc).take i).length = i := by rw [List.length_take,Pl.omF_len]; omega
 unfold omP
 rw [List.getElem_append_right (by omega)]
 simp [hl]
theorem omP_set {p : Nat} {s loc : List UInt8} {i j : Nat} (h : i < p) : (omP p s loc i j).set i (Pl.sx j (omT s loc i) ^^^ omT s loc i j) = omP p s loc i (j + 1) := by
 have hl : ((Pl.omF p s loc).take i).length = i := by rw [List.length_take,Pl.omF_len]; omega
 unfold omP
 rw [List.set_append_right _ _ (by omega),hl,Nat.sub_self,List.set_cons_zero]
 rfl
def omO (p : Nat) (s loc : List UInt8) (i : Nat) : List UInt8 := (Pl.omF p s loc).take i ++ List.replicate (p - i) 0
theorem omO_P {p : Nat} {s loc : List UInt8} {i : Nat} (h : i < p) : omO p s loc i = omP p s loc i 0 := by
 unfold omO omP
 rw [show p - i = (p - (i + 1)) + 1 by omega,List.replicate_succ]; rfl
theorem omP_O {p : Nat} {s loc : List UInt8} {i : Nat} (h : i < p) : omP p s loc i (i + 1) = omO p s loc (i + 1) := by
 unfold omO omP
 have hg : (Pl.omF p s loc)[i]'(by rw [Pl.omF_len]; exact h) = Pl.sx (i + 1) (omT s loc i) := by
  have := Pl.omF_get p s loc i h
  rw [List.getD_eq_getElem?_getD,List.getElem?_eq_getElem (by rw [Pl.omF_len]; exact h)] at this
  exact this
 rw [List.take_succ_eq_append_getElem (by rw [Pl.omF_len]; exact h),hg,List.append_assoc]
 rfl
theorem omega_ok {v f n p : Nat} {vs ve vl : Value} {s : List UInt8} {E : List Nat} {loc : List UInt8} (hp : p ≤ 1000) (h : Heap) (k : SvK h v f n p vs ve vl s E loc) :
  ACalls Tryz.prog 196 [.pointer (some ⟨v,0,none⟩)] h fun r h' => NewB h h' r (Pl.omF p s loc) := by
 refine acalls_of mix Tryz.func196 k196 n196 (by simp) fun hcl hb => ?_
 have hv := cellsOf_lt hcl k.cv
 have hf := cellsOf_lt hcl k.gf
 have cv := k.cv
 have q3 : (p : Int) * 2 ≤ 1099511627776 := by omega
 have q4 : ¬ (p : Int) < 0 := by omega
 simp [c196,cv,apart,q3,q4,-Int.natCast_add]
 rw [ubs_rep]
 have hO0 : List.replicate p (0 : UInt8) = omO p s loc 0 := by unfold omO; simp
 rw [hO0]
 have hclO : ∀ O : List UInt8,(h.push (.cells (ubs O) (.exT 5) 1)).Closed := fun O => closed_push hcl ubs_bel
 have g3 : ∀ O : List UInt8,Gr h (h.push (.cells (ubs O) (.exT 5) 1)) := fun O => ⟨Nat.le_succ _,hclO O,keep_push hcl _⟩
 refine awp_loop_of (α := Nat) (fun i => i ≤ p) (fun i => [(0,.pointer (some ⟨v,0,none⟩)),(3,.slice (some ⟨h.n,0,none⟩) p p),(12,.int .i64 p),(13,.int .i64 (i : Int))]) (fun i => h.push (.cells (ubs (omO p s loc i)) (.exT 5) 1)) (fun i => p - i) 0
  (Nat.zero_le _) ⟨Nat.le_succ _,Nat.le_refl _,fun _ _ e => e,hclO _⟩ (by simp; exact ⟨.ptr (by show v < h.n + 1; omega),.slice (by show h.n < h.n + 1; omega),.int,.int⟩) ?_
 intro i hi
 by_cases hlt : i < p
 ·have hi' : (i : Int) < (p : Int) := by omega
  have w4 := w64n (i := i) (by omega)
  rw [omO_P hlt]
  simp [c196_0, hi', w4, -Int.natCast_add]
  refine awp_loop_of (α := Nat) (fun j => j ≤ i + 1) (fun j => [(0,.pointer (some ⟨v,0,none⟩)),(3,.slice (some ⟨h.n,0,none⟩) p p),(4,.int .i64 (i : Int)),(12,.int .i64 p),(13,.int .i64 (i : Int)),(17,.int .i64 ((i + 1 : Nat) : Int)),(18,.int .i64 (j : Int))]) (fun j => h.push (.cells (ubs (omP p s loc i j)) (.exT 5) 1)) (fun j => i + 1 - j) 0
   (Nat.zero_le _) ⟨Nat.le_succ _,Nat.le_refl _,fun _ _ e => e,hclO _⟩ (by simp; exact ⟨.ptr (by show v < h.n + 1; omega),.slice (by show h.n < h.n + 1; omega),.int,.int,.int,.int,.int⟩) ?_
  intro j hj
  by_cases hlt2 : j < i + 1
  ·have hj' : (j : Int) < ((i + 1 : Nat) : Int) := by omega
   have w5 := w64n (i := j) (by omega)
   have w6 : IntKind.i64.wrap ((i : Int) - (j : Int)) = ((i - j : Nat) : Int) := wI (by omega)
   have hst := omP_set (p := p) (s := s) (loc := loc) (i := i) (j := j) hlt
   have hgt := ubs_getJ (l := omP p s loc i j) (i := i) (by rw [omP_len hlt]; exact hlt)
   rw [omP_get hlt] at hgt
   have hXl := omP_len (p := p) (s := s) (loc := loc) (i := i) (j := j) hlt
   have hXn := omP_len (p := p) (s := s) (loc := loc) (i := i) (j := j + 1) hlt
   have ht : omT s loc i j = Pl.gm (atF s (j : Int)) (atF loc ((i - j : Nat) : Int)) := by unfold omT; rw [getD_at,getD_at]
   rw [ht] at hst
   have kX := k.keep (g3 (omP p s loc i j))
   have cX := hclO (omP p s loc i j)
   have gX := g3 (omP p s loc i j)
   have fX := cellsOf_new h (ubs (omP p s loc i j)) (.exT 5) 1
   have sX := kX.ss _ (Xv.refl cX)
   have lX := kX.sl
   have hpX := ubs_put (l := omP p s loc i j) (i := i) (by rw [hXl]; exact hlt) (Pl.sx j (omT s loc i) ^^^ Pl.gm (atF s (j : Int)) (atF loc ((i - j : Nat) : Int)))
   rw [hst] at hpX
   obtain ⟨X1,hX1⟩ : ∃ X1,omP p s loc i (j + 1) = X1 := ⟨_,rfl⟩
   rw [hX1] at hst hpX hXn
   generalize omP p s loc i j = X at *
   generalize Pl.sx j (omT s loc i) = A at *
   obtain ⟨ya,hya⟩ : ∃ ya,atF s (j : Int) = ya := ⟨_,rfl⟩
   obtain ⟨yb,hyb⟩ : ∃ yb,atF loc ((i - j : Nat) : Int) = yb := ⟨_,rfl⟩
   rw [hya,hyb] at hst hpX
   have cvX := kX.cv
   have hvx : ∀ o,((h.push (.cells (ubs X) (.exT 5) 1)).push o).cellsOf v = some ([.pointer (some ⟨f,0,none⟩),.int .i64 (n : Int),.int .i64 (p : Int),vs,ve,vl],.ex,1) := fun o => by rw [cellsOf_ne (by show ¬ v = h.n + 1; omega)]; exact cvX
   have hvx2 : ∀ o o', (((h.push (.cells (ubs X) (.exT 5) 1)).push o).push o').cellsOf v = some ([.pointer (some ⟨f, 0, none⟩), .int .i64 (n : Int), .int .i64 (p : Int), vs, ve, vl], .ex, 1) := fun o o' => by rw [cellsOf_ne (by show ¬ v = h.n + 1 + 1; omega)]; exact hvx o
   have fX1 : ∀ o,((h.push (.cells (ubs X) (.exT 5) 1)).push o).cellsOf h.n = some (ubs X,.exT 5,1) := fun o => by rw [cellsOf_ne (by show ¬ h.n = h.n + 1; omega)]; exact fX
   have fX2 : ∀ o o', (((h.push (.cells (ubs X) (.exT 5) 1)).push o).push o').cellsOf h.n = some (ubs X, .exT 5, 1) := fun o o' => by rw [cellsOf_ne (by show ¬ h.n = h.n + 1 + 1; omega)]; exact fX1 o
   simp [c196_2, hj', cvX, apart, aidx_of hlt, fX, hgt, w6, -Int.natCast_add]
   refine (sat_ok s (j : Int) vs _ sX).mono ?_
   rintro _ h9 ⟨rfl,e⟩
   rw [e,hya]; clear e h9
   simp [cvX,apart,aidx_of hlt,fX,hgt]
   refine (sat_ok loc ((i - j : Nat) : Int) vl _ lX).mono ?_
   rintro _ h9 ⟨rfl,e⟩
   rw [e,hyb]; clear e h9
   simp [cvX,hvx,fX1,apart,aidx_of hlt,fX,hgt,fil2]
   refine (gfmul2_ok f ya yb _ cX kX.gf).eqK ?_
   simp [cvX,hvx,hvx2,fX1,fX2,apart,aidx_of hlt,fX,hgt,fil2]
   refine (gfadd2_ok f A (Pl.gm ya yb) _ (by show f < h.n + 1 + 1; omega)).eqK ?_
   simp [fX2,aidx_of hlt,mcells,apart,hpX,ubs_len,hXl,hXn,show i + 1 ≤ p by omega,set_push3,w5,-Int.natCast_add,-UInt8.toNat_xor]
   exact ⟨j + 1,by omega,by omega,by rw [hX1]; exact sub_push2 (hclO _) (Nat.le_succ _) _ _ _ _,.ptr (by show v < h.n + 1; omega),.slice (by show h.n < h.n + 1; omega),.int,.int,.int,.int,rfl,.int⟩
  ·have hje : j = i + 1 := by omega
   subst hje
   simp [c196_2,w4,-Int.natCast_add]
   rw [omP_O hlt]
   exact ⟨i + 1,by omega,by omega,⟨Nat.le_succ _,Nat.le_refl _,fun _ _ e => e,hclO _⟩,.ptr (by show v < h.n + 1; omega),.slice (by show h.n < h.n + 1; omega),.int,rfl,.int⟩
 ·have hie : i = p := by omega
  subst hie
  have he : omO i s loc i = Pl.omF i s loc := by unfold omO; rw [Nat.sub_self,List.take_of_length_le (by rw [Pl.omF_len]; omega)]; simp
  simp [c196_0]
  rw [he]
  exact ⟨some h.n,.inr ⟨h.n,.exT 5,1,rfl,by rw [Pl.omF_len],by exact cellsOf_new _ _ _ _,by rw [ubs_len,Nat.mul_one],by simp,fun _ => rfl⟩,fun x e => by cases e; omega,g3 _⟩
theorem ixI_ok (l : List Nat) (hl1 : l.length ≤ 1000) (x : Nat) (v : Value) (h : Heap) (hl : Sl ei h v l) : ACalls Tryz.prog 225 [v,.int .i64 (x : Int)] h fun r h' => (∃ z : Int,r = .int .i64 z ∧ (0 ≤ z ↔ x ∈ l)) ∧ h' = h := by
 refine acalls_of mix Tryz.func225 k225 n225 (by simp) fun hcl hb => ?_
 have bl := Sl.below hl hcl
 obtain ⟨al,cl,rfl⟩ : ∃ al cl,v = .slice al l.length cl := by
  rcases hl with ⟨c,rfl,rfl⟩ | ⟨b,o,cap,c,m,e,rfl,_⟩
  ·exact ⟨_,_,rfl⟩
  ·exact ⟨_,_,rfl⟩
 simp [c225]
 refine awp_loop_of (α := Nat) (fun i => i ≤ l.length ∧ x ∉ l.take i) (fun i => [(0,.slice al l.length cl),(1,.int .i64 (x : Int)),(7,.int .i64 l.length),(8,.int .i64 (i : Int))]) (fun _ => h) (fun i => l.length - i) 0
  ⟨Nat.zero_le _,by simp⟩ (Heap.Sub.refl hcl) (by simp; exact ⟨bl,.int,.int,.int⟩) ?_
 rintro i ⟨hi,hni⟩
 by_cases hlt : i < l.length
 ·have hi' : (i : Int) < (l.length : Int) := by omega
  have w4 := w64n (i := i) (by omega)
  obtain ⟨b1,o1,cs1,m1,e1,rfl,_,q1,q2⟩ := Sl.at hl hlt
  have q3 : cs1[o1 + i]? = some (.int .i64 ((l[i] : Nat) : Int)) := q2
  by_cases hx : x = l[i]
  ·have hm : x ∈ l := by rw [hx]; exact List.getElem_mem hlt
   rw [← hx] at q3
   simp [c225_0, hi', aidx_of hlt, q1, q3, apart, -Int.natCast_add]
   exact hm
  ·have hx2 : ¬ (x : Int) = ((l[i] : Nat) : Int) := by omega
   have hst : x ∉ l.take (i + 1) := by
    intro q
    rw [List.take_succ_eq_append_getElem hlt] at q
    rcases List.mem_append.1 q with q | q
    ·exact hni q
    ·simp at q; exact hx q
   generalize l[i] = y at *
   simp [c225_0, hi', aidx_of hlt, q1, q3, apart, hx, hx2, w4, -Int.natCast_add]
   exact ⟨i + 1,by omega,⟨by omega,hst⟩,Heap.Sub.refl hcl,bl,.int,.int,rfl,.int⟩
 ·have hie : i = l.length := by omega
  subst hie
  rw [List.take_length] at hni
  simp [c225_0]
  exact hni
theorem ctI_ok (l : List Nat) (hl1 : l.length ≤ 1000) (x : Nat) (v : Value) (h : Heap) (hl : Sl ei h v l) : ACalls Tryz.prog 211 [v,.int .i64 (x : Int)] h fun r h' => r = .bool (decide (x ∈ l)) ∧ h' = h := by
 refine acalls_of mix Tryz.func211 k211 n211 (by simp) fun hcl hb => ?_
 simp [c211]
 refine (ixI_ok l hl1 x v h hl).mono ?_
 rintro _ h9 ⟨⟨z,rfl,hz⟩,e⟩
 rw [e]; clear e h9
 simp [hz]
def ulF (E l : List Nat) : Nat := (l.filter fun i => decide (i ∉ E)).length
theorem unlike_ok {v f n p : Nat} {vs ve vl : Value} {s : List UInt8} {E : List Nat} {loc : List UInt8} (hE : E.length ≤ 1000) (l : List Nat) (hl1 : l.length ≤ 1000) (lv : Value) (h : Heap) (k : SvK h v f n p vs ve vl s E loc) (hl : Sl ei h lv l) :
  ACalls Tryz.prog 195 [.pointer (some ⟨v,0,none⟩),lv] h fun r h' => r = .int .i64 (ulF E l : Nat) ∧ h' = h := by
 refine acalls_of mix Tryz.func195 k195 n195 (by simp) fun hcl hb => ?_
 have hv := cellsOf_lt hcl k.cv
 have cv := k.cv
 have bl := Sl.below hl hcl
 obtain ⟨al,cl,rfl⟩ : ∃ al cl,lv = .slice al l.length cl := by
  rcases hl with ⟨c,rfl,rfl⟩ | ⟨b,o,cap,c,m,e,rfl,_⟩
  ·exact ⟨_,_,rfl⟩
  ·exact ⟨_,_,rfl⟩
 simp [c195]
 refine awp_loop_of (α := Nat) (fun i => i ≤ l.length) (fun i => [(0,.pointer (some ⟨v,0,none⟩)),(5,.int .i64 (ulF E (l.take i) : Nat)),(8,.slice al l.length cl),(9,.int .i64 l.length),(10,.int .i64 (i : Int))]) (fun _ => h) (fun i => l.length - i) 0
  (Nat.zero_le _) (Heap.Sub.refl hcl) (by simp; exact ⟨.ptr hv,⟨by simp [ulF],.int⟩,bl,.int,.int⟩) ?_
 intro i hi
 by_cases hlt : i < l.length
 ·have hi' : (i : Int) < (l.length : Int) := by omega
  have w4 := w64n (i := i) (by omega)
  obtain ⟨b1,o1,cs1,m1,e1,rfl,_,q1,q2⟩ := Sl.at hl hlt
  have q3 : cs1[o1 + i]? = some (.int .i64 ((l[i] : Nat) : Int)) := q2
  have hu : ulF E (l.take i) ≤ i := Nat.le_trans (List.length_filter_le _ _) (by rw [List.length_take]; omega)
  have hst : ulF E (l.take (i + 1)) = if l[i] ∈ E then ulF E (l.take i) else ulF E (l.take i) + 1 := by
   unfold ulF
   rw [List.take_succ_eq_append_getElem hlt,List.filter_append,List.length_append]
   by_cases q : l[i] ∈ E <;> simp [q]
  generalize ulF E (l.take i) = U at *
  have w5 := w64n (i := U) (by omega)
  generalize l[i] = y at *
  simp [c195_0, hi', aidx_of hlt, q1, q3, apart, cv, -Int.natCast_add]
  refine (ctI_ok E hE y ve h (k.se h (Xv.refl hcl))).eqK ?_
  by_cases hy : y ∈ E
  ·rw [if_pos hy] at hst
   simp [aun,hy,w4,-Int.natCast_add]
   exact ⟨i + 1,by omega,by omega,Heap.Sub.refl hcl,.ptr hv,⟨by rw [hst],.int⟩,bl,.int,rfl,.int⟩
  ·rw [if_neg hy] at hst
   simp [aun,hy,w4,w5,-Int.natCast_add]
   exact ⟨i + 1,by omega,by omega,Heap.Sub.refl hcl,.ptr hv,⟨by rw [hst],.int⟩,bl,.int,rfl,.int⟩
 ·have hie : i = l.length := by omega
  subst hie
  rw [List.take_length]
  simp [c195_0]
def c194_0 : AC := sO [oP 12 (bT .lss 11 10)] (.seq (cT 12 .skip (.exit 0)) (.seq (.block 1 (sO [mV 13 11,mV 4 13] (.seq (.draw [([mV 15 0,oP 16 (nC 15),oP 17 (fA 0 16),oP 18 (lN 17),mV 19 0,mV 20 4],[oP 21 (.call 193 [tP 19,tP 20])],[oP 18 (lN 17)]),([],[oP 22 (.call 176 [tP 18,tP 21])],[]),([mV 14 22,oP 23 (xR 14 0),oP 24 (xR 14 1),mV 5 23,mV 6 24],[],[])]) (sO [mV 25 0,mV 26 0,oP 27 (nC 26),oP 28 (fA 5 27),oP 29 (lN 28),mV 30 5,oP 31 (.call 210 [tP 25,tP 29,tP 30]),oP 32 (.bin .eql (tP 31) (.const (.int .u8 0)))] (cT 32 (.ops [mV 33 3,mV 34 4,oP 35 (.buildS 1 [.int .i64 0] [(0,1,.tmp 34)]),oP 36 (.app 1 8 3 (tP 33) (tP 35)),mV 3 36]) .skip))))) (.ops [oP 37 (bK .add 11 1),mV 11 37])))
def c194 : AC := sO [oP 2 (.mv (.const (.slice none 0 0)))] (sO [oP 3 (.mv (.const (.slice none 0 0)))] (.seq (sO [mV 7 0,oP 8 (nC 7),oP 9 (fA 1 8),oP 10 (lN 9),oP 11 (.mv (kI 0))] (.block 0 (.loop c194_0))) (sO [mV 38 3,mV 2 38] .ret)))
theorem k194 : compF Tryz.prog Tryz.f194 = some (c194,[2]) := by kernel_rfl
theorem n194 : Tryz.f194.ntmps = 39 := by kernel_rfl
def c198 : AC := sO [oP 8 (.mv (.const (.int .u8 0))),oP 9 (.mv kF)] (sO [mV 15 0,mV 16 1,oP 17 (.call 193 [tP 15,tP 16]),mV 10 17] (sO [mV 19 0,oP 20 (nC 19),oP 21 (fA 0 20),oP 22 (lN 21),mV 23 10,oP 24 (.call 176 [tP 22,tP 23]),mV 18 24,oP 25 (xR 18 0),oP 26 (xR 18 1),mV 11 25,mV 12 26] (.seq (.draw [([mV 28 0,oP 29 (nC 28),oP 30 (fA 0 29),oP 31 (lN 30),mV 32 0,mV 33 2,mV 34 11,mV 36 0,mV 37 3,mV 38 11],[oP 35 (.call 210 [tP 32,tP 33,tP 34])],[oP 31 (lN 30)]),([],[oP 39 (.call 210 [tP 36,tP 37,tP 38])],[oP 31 (lN 30)]),([],[oP 40 (.call 205 [tP 31,tP 35,tP 39])],[]),([mV 27 40,oP 41 (xR 27 0),oP 42 (xR 27 1),mV 13 41,mV 14 42],[],[])]) (sO [mV 43 0,oP 44 (nC 43),oP 45 (fA 0 44),oP 46 (lN 45),mV 47 10,mV 48 13,oP 49 (.buildS 2 [.int .u8 0,.int .u8 0] [(0,1,.tmp 47),(1,1,.tmp 48)]),oP 50 (.call 200 [tP 46,tP 49]),mV 51 14,mV 8 50,mV 9 51] .ret))))
theorem k198 : compF Tryz.prog Tryz.f198 = some (c198,[8,9]) := by kernel_rfl
theorem n198 : Tryz.f198.ntmps = 52 := by kernel_rfl
theorem gfinv0_ok (f : Nat) (h : Heap) (hf : GfK h f) : ACalls Tryz.prog 176 [.pointer (some ⟨f,0,none⟩),.int .u8 0] h fun v h' => v = .tuple #[.int .u8 0,.bool false] ∧ h' = h := by
 refine acalls_of mix Tryz.func176 k176 n176 (by simp) fun hcl hb => ?_
 have hz := gflog_ok f 0 h hf
 have z0 : (((0 : UInt8).toNat : Nat) : Int) = 0 := rfl
 rw [z0] at hz
 simp [c176]
 refine hz.eqK ?_
 simp [aun]
theorem gfdiv0_ok (f : Nat) (a : UInt8) (h : Heap) (hf : GfK h f) : ACalls Tryz.prog 205 [.pointer (some ⟨f,0,none⟩),.int .u8 (a.toNat : Int),.int .u8 0] h fun v h' => v = .tuple #[.int .u8 0,.bool false] ∧ h' = h := by
 refine ACalls.same (.tuple fun i hi => by match i,hi with | 0,_ => exact .int | 1,_ => exact .bool) (acalls_of mix Tryz.func205 k205 n205 (by simp) fun hcl hb => ?_)
 simp [c205]
 refine (gfinv0_ok f h hf).eqK ?_
 simp [aun,fil2]
 exact Heap.Ext.refl h
def plX1 (n i : Nat) : UInt8 := Pl.al (n - 1 - i)
def plcF (n : Nat) (loc : List UInt8) (i : Nat) : List Nat := (List.range i).filter fun k => decide (Pl.vl loc (Pl.gi (plX1 n k)) = 0)
theorem places_ok {v f n p : Nat} {vs ve vl : Value} {s : List UInt8} {E : List Nat} {loc : List UInt8} (hn : n ≤ 255) (hl0 : loc ≠ []) (hl1 : loc.length ≤ 1000) (h : Heap) (k : SvK h v f n p vs ve vl s E loc) :
  ACalls Tryz.prog 194 [.pointer (some ⟨v,0,none⟩)] h fun r h' => NewI h h' r (plcF n loc n) := by
 refine acalls_of mix Tryz.func194 k194 n194 (by simp) fun hcl hb => ?_
 have hv := cellsOf_lt hcl k.cv
 have cv := k.cv
 simp [c194,cv,apart]
 refine awp_loop_of (α := CoS) (fun z => z.i ≤ n ∧ NewI h z.H z.v (plcF n loc z.i)) (fun z => [(0,.pointer (some ⟨v,0,none⟩)),(3,z.v),(10,.int .i64 n),(11,.int .i64 (z.i : Int))]) (fun z => z.H) (fun z => n - z.i) ⟨0,.slice none 0 0,h⟩
  ⟨Nat.zero_le _,none,.inl ⟨rfl,rfl,rfl,rfl⟩,(fun _ e => by cases e),Gr.refl hcl⟩ (Heap.Sub.refl hcl) (by simp; exact ⟨.ptr hv,.snil,.int,.int⟩) ?_
 rintro ⟨i,w,H⟩ ⟨hi,nm,la,xa,gH⟩
 dsimp only at hi la gH ⊢
 by_cases hlt : i < n
 ·have hi' : (i : Int) < (n : Int) := by omega
  have w4 := w64n (i := i) (by omega)
  have kH := k.keep gH
  have cvH := kH.cv
  have hX : Pl.al (n - 1 - i) ≠ 0 := Pl.al_ne _
  have hst : plcF n loc (i + 1) = if Pl.vl loc (Pl.gi (Pl.al (n - 1 - i))) = 0 then plcF n loc i ++ [i] else plcF n loc i := by
   unfold plcF
   rw [range_filter_succ]
   show (if decide (Pl.vl loc (Pl.gi (Pl.al (n - 1 - i))) = 0) = true then _ else _) = _
   by_cases q : Pl.vl loc (Pl.gi (Pl.al (n - 1 - i))) = 0 <;> simp [q]
  have hil : (plcF n loc i).length ≤ i := Nat.le_trans (List.length_filter_le _ _) (by simp)
  simp [c194_0, hi', cvH, apart, -Int.natCast_add]
  refine (place_ok i hlt hn H kH).eqK ?_
  simp [cvH,apart]
  refine (gfinv_ok f _ hX H kH.gf).eqK ?_
  simp [cvH,apart]
  refine (value_ok loc hl0 vl (Pl.gi (Pl.al (n - 1 - i))) H kH kH.sl (by omega)).mono' ?_
  rintro _ H2 c2 _ ⟨rfl,g2⟩
  generalize Pl.vl loc (Pl.gi (Pl.al (n - 1 - i))) = y at *
  have la2 := la.up fun x _ ob e => g2.m x ob e
  have g02 := gH.trans g2
  by_cases hy : y = 0
  ·rw [if_pos hy] at hst
   subst hy
   obtain ⟨aw,ev,v2,H3,happ,l2,fr2,n2,c3⟩ := lat_push1 (t := 3) (bytes := 8) g2.cl la2 [ei i] 1 (by simp) (fun k x hx => by simp at hx; subst hx; exact .int) (by omega)
   have hfst : afirst (H2.push (.cells [ei i] .ex 1)) 1 1 (.slice (some ⟨H2.n,0,none⟩) 1 1) = some [ei i] := by
    have := cellsOf_new H2 [ei i] .ex 1
    simp [afirst,this,acut]
   have fili : afill [.int .i64 0] [(0,1,.int .i64 (i : Int))] = some [ei i] := rfl
   subst ev
   simp [fili,alen,hfst,happ,w4,-Int.natCast_add]
   have g3 : Gr h H3 := ⟨by have := g02.n; omega,c3,fun u ob e => fr2 u ob (g02.m u ob e) (fun q => by have := xa u q; have := (hcl u ob e).1; omega)⟩
   have l3 : LAt H3 1 (some (H2.n + 1)) v2 (plcF n loc (i + 1)).length ((plcF n loc (i + 1)).map ei) := by
    rw [hst,List.length_append,List.map_append]; exact l2
   exact ⟨⟨i + 1,v2,H3⟩,by show n - (i + 1) < n - i; omega,⟨by show i + 1 ≤ n; omega,some (H2.n + 1),l3,fun u e => by have := Option.some.inj e; have := g02.n; omega,g3⟩,⟨g3.n,Nat.le_refl _,fun _ _ e => e,c3⟩,.ptr (by have := g3.n; show v < H3.n; omega),⟨rfl,lat_bel c3 l2⟩,.int,rfl,.int⟩
  ·rw [if_neg hy] at hst
   have hy2 : ¬ (y.toNat : Int) = 0 := fun q => hy (UInt8.toNat_inj.1 (by show y.toNat = 0; omega))
   have hy3 : ¬ y.toNat = 0 := by omega
   simp [hy,hy2,hy3,w4,-Int.natCast_add]
   exact ⟨⟨i + 1,w,H2⟩,by show n - (i + 1) < n - i; omega,⟨by show i + 1 ≤ n; omega,by rw [hst]; exact ⟨nm,la2,xa,g02⟩⟩,⟨g02.n,Nat.le_refl _,fun _ _ e => e,c2⟩,.ptr (by have := g02.n; show v < H2.n; omega),⟨rfl,lat_bel c2 la2⟩,.int,rfl,.int⟩
 ·have hie : i = n := by omega
  subst hie
  simp [c194_0]
  exact ⟨nm,la,xa,gH⟩
def byF (om de : List UInt8) (X : UInt8) : UInt8 × Bool := if Pl.vl de (Pl.gi X) = 0 then (0,false) else (Pl.gm X (Pl.gm (Pl.vl om (Pl.gi X)) (Pl.gi (Pl.vl de (Pl.gi X)))),true)
theorem sby_ok {v f n p : Nat} {vs ve vl : Value} {s : List UInt8} {E : List Nat} {loc : List UInt8} (hn : n ≤ 255) (i : Nat) (hi : i < n) (om de : List UInt8) (ho0 : om ≠ []) (hd0 : de ≠ []) (ho : om.length ≤ 1000) (hd : de.length ≤ 1000) (vo vd : Value) (h : Heap) (k : SvK h v f n p vs ve vl s E loc) (hlo : SlB h vo om) (hld : SlB h vd de) :
  ACalls Tryz.prog 198 [.pointer (some ⟨v,0,none⟩),.int .i64 (i : Int),vo,vd] h fun r h' => r = .tuple #[.int .u8 ((byF om de (Pl.al (n - 1 - i))).1.toNat : Int),.bool (byF om de (Pl.al (n - 1 - i))).2] ∧ Gr h h' := by
 refine acalls_of mix Tryz.func198 k198 n198 (by simp) fun hcl hb => ?_
 have cv := k.cv
 simp [c198]
 refine (place_ok i hi hn h k).eqK ?_
 have hX : Pl.al (n - 1 - i) ≠ 0 := Pl.al_ne _
 generalize Pl.al (n - 1 - i) = X at *
 simp [cv,apart]
 refine (gfinv_ok f X hX h k.gf).eqK ?_
 simp [cv,apart]
 refine (value_ok om ho0 vo (Pl.gi X) h k hlo (by omega)).mono' ?_
 rintro _ H1 c1 _ ⟨rfl,g1⟩
 have k1 := k.keep g1
 have cv1 := k1.cv
 simp [cv1,apart]
 refine (value_ok de hd0 vd (Pl.gi X) H1 k1 (Sl.keep hld g1.m) (by omega)).mono' ?_
 rintro _ H2 c2 _ ⟨rfl,g2⟩
 have k2 := k1.keep g2
 have cv2 := k2.cv
 have g12 := g1.trans g2
 obtain ⟨a,ha⟩ : ∃ a,Pl.vl om (Pl.gi X) = a := ⟨_,rfl⟩
 obtain ⟨b,hbb⟩ : ∃ b,Pl.vl de (Pl.gi X) = b := ⟨_,rfl⟩
 rw [ha,hbb]
 by_cases hb0 : b = 0
 ·have hby : byF om de X = (0,false) := by unfold byF; rw [hbb,if_pos hb0]
  rw [hby]
  subst hb0
  simp [cv2,apart]
  refine (gfdiv0_ok f a H2 k2.gf).eqK ?_
  have hz := gfmul2_ok f X 0 H2 c2 k2.gf
  have z0 : (((0 : UInt8).toNat : Nat) : Int) = 0 := rfl
  rw [Pl.gm_zero,z0] at hz
  simp [cv2,apart,fil2]
  refine hz.eqK ?_
  simp
  exact g12.trans ⟨Nat.le_succ _,closed_u8 c2 _ _,keep_push c2 _⟩
 ·have hby : byF om de X = (Pl.gm X (Pl.gm a (Pl.gi b)),true) := by unfold byF; rw [hbb,if_neg hb0,ha]
  rw [hby]
  simp [cv2,apart]
  refine (gfdiv_ok f a b hb0 H2 k2.gf).eqK ?_
  simp [cv2,apart,fil2]
  refine (gfmul2_ok f X _ H2 c2 k2.gf).eqK ?_
  simp
  exact g12.trans ⟨Nat.le_succ _,closed_u8 c2 _ _,keep_push c2 _⟩
def c172_0 : AC := sO [oP 51 (bT .lss 50 49)] (.seq (cT 51 .skip (.exit 0)) (.seq (.block 1 (sO [oP 52 (iA 1 48 50),oP 53 (lN 52),mV 13 53] (sO [mV 55 0,mV 56 13,mV 57 10,mV 58 11,oP 59 (.call 198 [tP 55,tP 56,tP 57,tP 58]),mV 54 59,oP 60 (xR 54 0),oP 61 (xR 54 1),mV 14 60,mV 15 61] (.seq (sO [mV 62 15,oP 63 (.un .not (tP 62))] (cT 63 (sO [oP 6 (.mv (.const (.slice none 0 0))),oP 7 (.mv kF)] .ret) .skip)) (.draw [([mV 64 9,mV 65 13,mV 66 0,oP 67 (nC 66),oP 68 (fA 0 67),oP 69 (lN 68),mV 70 9,mV 71 13,oP 72 (iA 1 70 71),oP 73 (lN 72),mV 74 14],[oP 75 (.buildS 2 [.int .u8 0,.int .u8 0] [(0,1,.tmp 73),(1,1,.tmp 74)])],[oP 69 (lN 68)]),([],[oP 76 (.call 199 [tP 69,tP 75])],[]),([oP 77 (iA 1 64 65)],[nP (.store 1 (tP 77) (tP 76))],[]),([],[],[])]))))) (.ops [oP 78 (bK .add 50 1),mV 50 78])))
def c172 : AC := sO [oP 6 (.mv (.const (.slice none 0 0))),oP 7 (.mv kF)] (sO [mV 16 0,oP 17 (.call 194 [tP 16]),mV 8 17] (.seq (.seq (.draw [([mV 18 8,oP 19 (lS 18),mV 20 2,oP 21 (bT .neq 19 20),mV 22 21,gP 23 22 false (.mv (tP 0)),gP 24 22 false (nC 23),gP 25 22 false (fA 4 24),gP 26 22 false (lN 25),gP 27 22 false (lS 26),gP 28 22 false (.mv (tP 0)),gP 29 22 false (.mv (tP 8)),gP 33 22 false (.mv (tP 0)),gP 34 22 false (nC 33),gP 35 22 false (fA 2 34),gP 36 22 false (lN 35)],[gP 30 22 false (.call 195 [tP 28,tP 29])],[gP 26 22 false (lN 25),gP 36 22 false (lN 35)]),([gP 31 22 false (.bin .mul (kI 2) (tP 30)),gP 32 22 false (bT .add 27 31),gP 37 22 false (bT .gtr 32 36),oP 38 (pT 22 37)],[],[])]) (cT 38 (sO [oP 6 (.mv (.const (.slice none 0 0))),oP 7 (.mv kF)] .ret) .skip)) (sO [mV 39 1,oP 40 (.call 169 [tP 39]),mV 9 40] (.seq (.draw [([mV 41 0,mV 43 0,oP 44 (nC 43),oP 45 (fA 5 44),oP 46 (lN 45)],[oP 42 (.call 196 [tP 41])],[oP 46 (lN 45)]),([],[oP 47 (.call 197 [tP 46])],[]),([mV 10 42,mV 11 47],[],[])]) (.seq (sO [mV 48 8,oP 49 (lS 48),oP 50 (.mv (kI 0))] (.block 0 (.loop c172_0))) (sO [mV 79 9,mV 6 79,oP 7 (.mv kT)] .ret))))))
theorem k172 : compF Tryz.prog Tryz.f172 = some (c172,[6,7]) := by kernel_rfl
theorem n172 : Tryz.f172.ntmps = 80 := by kernel_rfl
def mdStep (om de : List UInt8) (n : Nat) (w : List UInt8) (i : Nat) : List UInt8 := w.set i (w[i]! ^^^ (byF om de (Pl.al (n - 1 - i))).1)
def mdOk (om de : List UInt8) (n : Nat) (l : List Nat) : Bool := l.all fun i => (byF om de (Pl.al (n - 1 - i))).2
def mdF (n p : Nat) (s loc : List UInt8) (E : List Nat) (w : List UInt8) (many : Int) : Option (List UInt8) :=
 if ((plcF n loc n).length : Int) ≠ many ∨ p < E.length + 2 * ulF E (plcF n loc n) then none
 else if mdOk (Pl.omF p s loc) (Pl.dvF loc) n (plcF n loc n) then some ((plcF n loc n).foldl (mdStep (Pl.omF p s loc) (Pl.dvF loc) n) w) else none
def MdR (h : Heap) (o : Option (List UInt8)) (r : Value) (h' : Heap) : Prop := match o with
 | none => r = .tuple #[.slice none 0 0,.bool false] ∧ Gr h h'
 | some w => ∃ vr,r = .tuple #[vr,.bool true] ∧ NewB h h' vr w
theorem _root_.Go.Proofs.YtdnmkenamgfjoaaGreat.arba.NewB.xv {h H H' : Heap} {v : Value} {l : List UInt8} {x : Nat} (n : NewB h H v l) (hx : x < h.n) (g : Xv x H H') : SlB H' v l := by
 obtain ⟨nm,q,hq,_⟩ := n
 have q2 : LAt H' 1 nm v l.length (ubs l) := q.up fun u e ob e2 => g.m u ob e2 (by have := hq u e; omega)
 exact q2.sl
theorem plcF_lt (n : Nat) (loc : List UInt8) (i : Nat) : ∀ k ∈ plcF n loc i,k < i := fun k hk => List.mem_range.1 (List.mem_filter.1 hk).1
structure MdS where
 j : Nat
 w : List UInt8
 H : Heap
theorem smend_ok {v f n p : Nat} {vs ve vl : Value} {s : List UInt8} {E : List Nat} {loc : List UInt8} (hn0 : 1 ≤ n) (hn : n ≤ 255) (hp0 : 1 ≤ p) (hp : p ≤ 255) (hE : E.length ≤ 255) (hl0 : loc ≠ []) (hl1 : loc.length ≤ 1000) (hl2 : plcF n loc n ≠ [] → 2 ≤ loc.length) (w : List UInt8) (hw : w.length = n) (vw : Value) (many : Int) (h : Heap) (k : SvK h v f n p vs ve vl s E loc) (hlw : SlB h vw w) :
  ACalls Tryz.prog 172 [.pointer (some ⟨v,0,none⟩),vw,.int .i64 many] h (MdR h (mdF n p s loc E w many)) := by
 refine acalls_of mix Tryz.func172 k172 n172 (by simp) fun hcl hb => ?_
 have cv := k.cv
 have hve := k.se h (Xv.refl hcl)
 obtain ⟨ae,ce,rfl⟩ : ∃ ae ce,ve = .slice ae E.length ce := by
  rcases hve with ⟨c,rfl,rfl⟩ | ⟨b,o,cap,c,m,e,rfl,_⟩
  ·exact ⟨_,_,rfl⟩
  ·exact ⟨_,_,rfl⟩
 simp [c172]
 refine (places_ok hn hl0 hl1 h k).mono' ?_
 rintro lv H1 d1 _ ni
 have g1 := ni.gr
 have sl1 := ni.sl
 have k1 := k.keep g1
 have cv1 := k1.cv
 have hPl := plcF_lt n loc n
 have hPn : (plcF n loc n).length ≤ n := Nat.le_trans (List.length_filter_le _ _) (by simp)
 unfold mdF
 obtain ⟨P,hP⟩ : ∃ P,plcF n loc n = P := ⟨_,rfl⟩
 rw [hP] at sl1 hPl hPn hl2 ni ⊢
 have hu := Nat.le_trans (List.length_filter_le (fun i => decide (i ∉ E)) P) (Nat.le_refl _)
 have hub : ulF E P ≤ n := Nat.le_trans (List.length_filter_le _ _) hPn
 obtain ⟨al,cl,rfl⟩ : ∃ al cl,lv = .slice al P.length cl := by
  rcases sl1 with ⟨c,rfl,rfl⟩ | ⟨b,o,cap,c,m,e,rfl,_⟩
  ·exact ⟨_,_,rfl⟩
  ·exact ⟨_,_,rfl⟩
 by_cases hm : (P.length : Int) = many
 ·subst hm
  simp [cv1,apart]
  refine (unlike_ok (by omega) P (by omega) _ H1 k1 sl1).eqK ?_
  obtain ⟨U,hU⟩ : ∃ U,ulF E P = U := ⟨_,rfl⟩
  rw [hU] at hub ⊢
  have w1 : IntKind.i64.wrap (2 * (U : Int)) = ((2 * U : Nat) : Int) := wI (by omega)
  have w2 : IntKind.i64.wrap ((E.length : Int) + ((2 * U : Nat) : Int)) = ((E.length + 2 * U : Nat) : Int) := wI (by omega)
  by_cases hbig : p < E.length + 2 * U
  ·have hbig2 : (p : Int) < ((E.length + 2 * U : Nat) : Int) := by omega
   rw [if_pos (by first | exact .inr hbig | exact hbig)]
   simp [cv1,apart,w1,w2,hbig2,-Int.natCast_add,-Int.natCast_mul]
   exact ⟨rfl,g1⟩
  ·have hbig2 : ¬ (p : Int) < ((E.length + 2 * U : Nat) : Int) := by omega
   rw [if_neg (by simp [hbig])]
   simp [cv1,apart,w1,w2,hbig2,-Int.natCast_add,-Int.natCast_mul]
   have hw0 : w ≠ [] := fun q => by rw [q] at hw; simp at hw; omega
   refine (clone_okJ w hw0 vw H1 (Sl.keep hlw g1.m) (by omega)).mono' ?_
   rintro wv H2 d2 _ nw
   obtain ⟨x,md,e,rfl,hx,hro,hes,hxn,hxl,_⟩ := nw.put d1 (by omega)
   have g12 := nw.gr
   have k2 := k1.keep g12
   have cv2 := k2.cv
   simp [cv2,apart]
   refine (omega_ok (by omega) H2 k2).mono' ?_
   rintro vo H3 d3 _ no
   have g23 := no.gr
   have k3 := k2.keep g23
   have cv3 := k3.cv
   simp [cv3,apart]
   refine (derived_ok loc hl1 vl H3 k3.sl).mono' ?_
   rintro vd H4 d4 _ nd
   have g34 := nd.gr
   have k4 := k3.keep g34
   have hol := Pl.omF_len p s loc
   have hdl := dvF_len loc
   generalize Pl.omF p s loc = om at *
   generalize Pl.dvF loc = de at *
   have ho0 : om ≠ [] := fun q => by rw [q] at hol; simp at hol; omega
   have nw4 : NewB H1 H4 (.slice (some ⟨x,0,none⟩) w.length w.length) w := nw.grow (g23.trans g34)
   have no4 : NewB H2 H4 vo om := no.grow g34
   have bvo := no4.below
   have bvd := nd.below
   have hx3 : x < H3.n := Nat.lt_of_lt_of_le hxl g23.n
   simp
   have hv := cellsOf_lt hcl k.cv
   have bl1 := Sl.below sl1 d1
   have g1n := g1.n
   have g14n := nw4.gr.n
   refine awp_loop_of (α := MdS) (fun z => z.j ≤ P.length ∧ z.w.length = w.length ∧ NewB H1 z.H (.slice (some ⟨x,0,none⟩) w.length w.length) z.w ∧ Xv x H4 z.H ∧ z.w = (P.take z.j).foldl (mdStep om de n) w ∧ mdOk om de n (P.take z.j) = true) (fun z => [(0,.pointer (some ⟨v,0,none⟩)),(9,.slice (some ⟨x,0,none⟩) w.length w.length),(10,vo),(11,vd),(48,.slice al P.length cl),(49,.int .i64 P.length),(50,.int .i64 (z.j : Int))]) (fun z => z.H) (fun z => P.length - z.j) ⟨0,w,H4⟩
    ⟨Nat.zero_le _,rfl,nw4,Xv.refl d4,rfl,rfl⟩ ⟨by show h.n ≤ H4.n; omega,Nat.le_refl _,fun _ _ e => e,d4⟩ (by simp; exact ⟨.ptr (by show v < H4.n; omega),.slice (by show x < H4.n; have := g34.n; omega),bvo.mono (Nat.le_refl _),bvd,bl1.mono g14n,.int,.int⟩) ?_
   rintro ⟨j,wj,H⟩ ⟨hj,hwj,nz,xz,ez,oz⟩
   dsimp only at hj hwj nz xz ez oz ⊢
   have gz := nz.gr
   have gz0 := g1.trans gz
   have kz := k1.keep gz
   have cvz := kz.cv
   by_cases hlt : j < P.length
   ·have hi' : (j : Int) < (P.length : Int) := by omega
    have w4 := w64n (i := j) (by omega)
    obtain ⟨b1,o1,cs1,m1,e1,rfl,_,q1,q2⟩ := Sl.at (Sl.keep sl1 gz.m) hlt
    have q3 : cs1[o1 + j]? = some (.int .i64 ((P[j] : Nat) : Int)) := q2
    have hPj := hPl _ (List.getElem_mem hlt)
    have hst : (P.take (j + 1)).foldl (mdStep om de n) w = mdStep om de n wj P[j] := by
     rw [List.take_succ_eq_append_getElem hlt,List.foldl_append,← ez]; rfl
    have hot : mdOk om de n (P.take (j + 1)) = (mdOk om de n (P.take j) && (byF om de (Pl.al (n - 1 - P[j]))).2) := by
     unfold mdOk
     rw [List.take_succ_eq_append_getElem hlt,List.all_append]; simp
    have hoa : (byF om de (Pl.al (n - 1 - P[j]))).2 = false → mdOk om de n P = false := fun q => by
     unfold mdOk
     rw [List.all_eq_false]
     exact ⟨P[j],List.getElem_mem hlt,by rw [q]; decide⟩
    have hd0 : de ≠ [] := fun q => by
     have := hl2 (fun q2 => by rw [q2] at hlt; simp at hlt)
     rw [q] at hdl; simp at hdl; omega
    generalize P[j] = i at *
    simp [c172_0, hi', aidx_of hlt, q1, q3, apart, -Int.natCast_add]
    refine (sby_ok hn i hPj om de ho0 hd0 (by omega) (by omega) vo vd H kz (no4.xv hxl xz) (nd.xv hx3 xz)).mono' ?_
    rintro _ H5 d5 _ ⟨rfl,g5⟩
    obtain ⟨⟨by1,by2⟩,hby⟩ : ∃ b,byF om de (Pl.al (n - 1 - i)) = b := ⟨_,rfl⟩
    rw [hby] at hot hoa ⊢
    cases by2
    ·rw [hoa rfl]
     simp [aun]
     exact ⟨rfl,gz0.trans g5⟩
    ·have nz5 := nz.grow g5
     have k5 := kz.keep g5
     have cv5 := k5.cv
     have hjw : i < wj.length := by omega
     have hiw : i < w.length := by omega
     obtain ⟨x', md', e', ev, hc5, hro5, hes5, _, hx5, hput5⟩ := nz5.put d1 (by omega)
     have hxx : x = x' := by
      have := (Value.slice.inj ev).1
      simpa using this
     subst hxx
     have hml5 : (md'.isLoose = true → e' = 1) = True := eq_true hes5
     have hg5 : (ubs wj)[i]? = some (.int .u8 (wj[i].toNat : Int)) := ubs_getJ hjw
     have hp5 := ubs_put (l := wj) (i := i) hjw (wj[i] ^^^ by1)
     have hnw : mdStep om de n wj i = wj.set i (wj[i] ^^^ by1) := by unfold mdStep; rw [hby,getElem!_pos wj i hjw]
     have nz6 := hput5 (wj.set i (wj[i] ^^^ by1)) (by simp)
     have x6 : Xv x H4 (H5.set x (.cells (ubs (wj.set i (wj[i] ^^^ by1))) md' e')) := (xz.trans (Xv.of g5)).set hx5 ubs_bel
     have hxp : ∀ o, (H5.push o).cellsOf x = some (ubs wj, md', e') := fun o => by rw [cellsOf_ne (by omega)]; exact hc5
     have hsp : ∀ o L,((H5.push o).set x L) = (H5.set x L).push o := fun o L => push_set (by omega) o L
     have cvp : ∀ o,(H5.push o).cellsOf v = some ([.pointer (some ⟨f,0,none⟩),.int .i64 (n : Int),.int .i64 (p : Int),vs,.slice ae E.length ce,vl],.ex,1) := fun o => by rw [cellsOf_ne (by have := g5.n; have := gz0.n; omega)]; exact cv5
     have l1 : i + 1 ≤ (ubs wj).length := by rw [ubs_len]; omega
     have hf5 := cellsOf_lt d5 k5.gf
     rw [← hnw] at hp5 nz6 x6
     have d6 := nz6.gr.cl
     have n6 : (H5.set x (.cells (ubs (mdStep om de n wj i)) md' e')).n = H5.n := rfl
     have hwl : (mdStep om de n wj i).length = wj.length := by rw [hnw]; simp
     simp [aun,cv5,cvp,apart,aidx_of hiw,hc5,hg5,fil2]
     refine (gfadd2_ok f wj[i] by1 H5 hf5).mono ?_
     rintro _ h9 ⟨rfl,e9⟩
     rw [e9]; clear e9 h9
     simp [aidx_of hiw,hxp,mcells,apart,hp5,l1,hro5,hml5,hsp,w4,-Int.natCast_add,-UInt8.toNat_xor]
     generalize H5.set x (.cells (ubs (mdStep om de n wj i)) md' e') = H6 at *
     have g6n := nz6.gr.n
     have h6n : H5.n = H6.n := n6.symm
     rw [← hst] at nz6 hwl
     exact ⟨⟨j + 1,_,H6⟩,by show P.length - (j + 1) < P.length - j; omega,⟨by show j + 1 ≤ P.length; omega,by show ((P.take (j + 1)).foldl (mdStep om de n) w).length = w.length; omega,nz6,x6,rfl,by show mdOk om de n (P.take (j + 1)) = true; rw [hot,oz]; rfl⟩,⟨by show h.n ≤ H6.n; omega,Nat.le_succ _,fun u ob e => keep_push d6 _ u ob e,d6⟩,.ptr (by show v < H6.n; omega),.slice (by show x < H6.n; omega),bvo.mono x6.n,bvd.mono x6.n,bl1.mono g6n,.int,rfl,.int⟩
   ·have hje : j = P.length := by omega
    subst hje
    rw [List.take_length] at ez oz
    rw [oz,← ez]
    simp [c172_0]
    exact ⟨_,rfl,nz.from g1⟩
 ·rw [if_pos (.inl hm)]
  simp [cv1,apart,hm]
  exact ⟨rfl,g1⟩
def c140_0 : AC := .seq (sO [mV 24 6,mV 25 0,oP 26 (nC 25),oP 27 (fA 2 26),oP 28 (lN 27),oP 29 (bT .leq 24 28)] (cT 29 .skip (.exit 0))) (.seq (.block 1 (sO [mV 32 0,mV 33 6,oP 34 (.call 174 [tP 32,tP 33]),mV 7 34] (.seq (sO [mV 35 7,oP 36 (.bin .eql (tP 35) (.const (.int .u8 0)))] (cT 36 (sO [oP 37 (.buildS 1 [.int .u8 0] [(0,1,.const (.int .u8 0))]),mV 38 5,oP 39 (.app 1 1 5 (tP 37) (tP 38)),mV 5 39] (.exit 1)) .skip)) (sO [mV 40 0,mV 41 0,oP 42 (nC 41),oP 43 (fA 5 42),oP 44 (lN 43),mV 45 5,mV 46 7,oP 47 (.call 175 [tP 40,tP 44,tP 45,tP 46]),mV 8 47] (.seq (sO [mV 48 4,oP 49 (.bin .mul (kI 2) (tP 48)),mV 50 6,mV 51 3,oP 52 (bT .add 50 51),oP 53 (bK .sub 52 1),oP 54 (bT .leq 49 53)] (cT 54 (sO [mV 55 6,mV 56 3,oP 57 (bT .add 55 56),mV 58 4,oP 59 (bT .sub 57 58),mV 4 59] (sO [mV 61 0,oP 62 (nC 61),oP 63 (fA 0 62),oP 64 (lN 63),mV 65 7,oP 66 (.call 176 [tP 64,tP 65]),mV 60 66,oP 67 (xR 60 0),oP 68 (xR 60 1),mV 9 67,mV 10 68] (.ops [mV 69 0,mV 70 0,oP 71 (nC 70),oP 72 (fA 5 71),oP 73 (lN 72),mV 74 9,oP 75 (.call 177 [tP 69,tP 73,tP 74]),mV 5 75]))) (.ops [oP 76 (.buildS 1 [.int .u8 0] [(0,1,.const (.int .u8 0))]),mV 77 5,oP 78 (.app 1 1 5 (tP 76) (tP 77)),mV 5 78]))) (.ops [mV 79 0,mV 80 8,oP 81 (nC 79),oP 82 (fA 5 81),nP (.store 1 (tP 82) (tP 80))])))))) (.ops [mV 30 6,oP 31 (bK .add 30 1),mV 6 31]))
def c140 : AC := sO [oP 2 (.mv (kI 0))] (sO [mV 11 0,oP 12 (nC 11),oP 13 (fA 4 12),oP 14 (lN 13),oP 15 (lS 14),mV 3 15] (sO [mV 16 3,mV 4 16] (sO [mV 17 0,oP 18 (nC 17),oP 19 (fA 5 18),oP 20 (lN 19),oP 21 (.call 169 [tP 20]),mV 5 21] (.seq (sO [mV 22 3,oP 23 (bK .add 22 1),mV 6 23] (.block 0 (.loop c140_0))) (sO [mV 83 4,mV 2 83] .ret)))))
theorem k140 : compF Tryz.prog Tryz.f140 = some (c140,[2]) := by kernel_rfl
theorem n140 : Tryz.f140.ntmps = 84 := by kernel_rfl
def srS (s : List UInt8) (e r : Nat) (t : Nat × List UInt8 × List UInt8) : Nat × List UInt8 × List UInt8 :=
 if gapF t.2.2 s r = 0 then (t.1,0 :: t.2.1,t.2.2)
 else if 2 * t.1 + 1 ≤ r + e then (r + e - t.1,t.2.2.map (Pl.gm (Pl.gi (gapF t.2.2 s r))),Pl.plusF t.2.2 t.2.1 (gapF t.2.2 s r))
 else (t.1,0 :: t.2.1,Pl.plusF t.2.2 t.2.1 (gapF t.2.2 s r))
def srI (s G : List UInt8) (e : Nat) : Nat → Nat × List UInt8 × List UInt8
 | 0 => (e,G,G)
 | k + 1 => srS s e (e + 1 + k) (srI s G e k)
structure SrB (e k : Nat) (t : Nat × List UInt8 × List UInt8) : Prop where
 l1 : e ≤ t.1
 l2 : t.1 ≤ e + k
 a1 : t.2.1 ≠ []
 a2 : t.2.1.length ≤ e + 1 + k
 b1 : t.2.2 ≠ []
 b2 : t.2.2.length ≤ e + 1 + k
theorem srI_b (s : List UInt8) {G : List UInt8} {e : Nat} (hG : G.length = e + 1) : ∀ k,SrB e k (srI s G e k)
 | 0 => ⟨Nat.le_refl _,Nat.le_refl _,fun q => by rw [show G = [] from q] at hG; simp at hG,by show G.length ≤ _; omega,fun q => by rw [show G = [] from q] at hG; simp at hG,by show G.length ≤ _; omega⟩
 | k + 1 => by
   have ih := srI_b s hG k
   show SrB e (k + 1) (srS s e (e + 1 + k) (srI s G e k))
   generalize srI s G e k = t at *
   obtain ⟨l,la,lo⟩ := t
   obtain ⟨l1,l2,a1,a2,b1,b2⟩ := ih
   dsimp only at l1 l2 a1 a2 b1 b2
   have hpl := Pl.plusF_len lo la (gapF lo s (e + 1 + k))
   have hpn : Pl.plusF lo la (gapF lo s (e + 1 + k)) ≠ [] := fun q => by rw [q] at hpl; simp at hpl; omega
   unfold srS
   split
   ·exact ⟨l1,by show l ≤ _; omega,by simp,by show (0 :: la).length ≤ _; rw [List.length_cons]; omega,b1,by show lo.length ≤ _; omega⟩
   ·split
    ·exact ⟨by show e ≤ e + 1 + k + e - l; omega,by show e + 1 + k + e - l ≤ _; omega,fun q => b1 (List.map_eq_nil_iff.1 q),by show (lo.map _).length ≤ _; rw [List.length_map]; omega,hpn,by show (Pl.plusF lo la (gapF lo s (e + 1 + k))).length ≤ _; omega⟩
    ·exact ⟨l1,by show l ≤ _; omega,by simp,by show (0 :: la).length ≤ _; rw [List.length_cons]; omega,hpn,by show (Pl.plusF lo la (gapF lo s (e + 1 + k))).length ≤ _; omega⟩
structure ScS where
 k : Nat
 va : Value
 vl : Value
 H : Heap
theorem shift0 {H : Heap} {v : Value} {l : List UInt8} (hc : H.Closed) (hl : SlB H v l) (h0 : l ≠ []) (hn : l.length ≤ 1000) : ∃ v2 H2,afirst (H.push (.cells [.int .u8 0] .ex 1)) 1 l.length v = some (ubs l) ∧ aapp (H.push (.cells [.int .u8 0] .ex 1)) 5 1 1 (some ⟨H.n,0,none⟩) 1 1 (ubs l) l.length = some (v2,H2) ∧ NewB H H2 v2 (0 :: l) := by
 have c1 : (H.push (.cells [.int .u8 0] .ex 1)).Closed := closed_push hc (fun y hy => by simp at hy; subst hy; exact .int)
 have e1 := cellsOf_new H [.int .u8 0] .ex 1
 have hp := List.length_pos_iff.2 h0
 have lt : LAt (H.push (.cells [.int .u8 0] .ex 1)) 1 (some H.n) (.slice (some ⟨H.n,0,none⟩) 1 1) 1 [.int .u8 0] := .inr ⟨H.n,.ex,1,rfl,rfl,e1,rfl,by simp,fun q => by simp [BMode.isLoose] at q⟩
 obtain ⟨a,ea,v2,H2,happ,l2,fr,n2,c2⟩ := lat_app (t := 5) (bytes := 1) (k := l.length) (new := ubs l) c1 lt hp (by rw [ubs_len]; omega) ubs_bel (by omega)
 cases ea
 refine ⟨v2,H2,sl_firstJ (Sl.keep hl (keep_push hc _)) hp,happ,some (H.n + 1),?_,fun u e => by have := Option.some.inj e; omega,⟨by have : (H.push (.cells [.int .u8 0] .ex 1)).n = H.n + 1 := rfl; omega,c2,fun u ob e => fr u ob (keep_push hc _ u ob e) (fun q => by have := Option.some.inj q; have := (hc u ob e).1; omega)⟩⟩
 have : (0 :: l).length = 1 + l.length := by rw [List.length_cons]; omega
 rw [this]
 exact l2
theorem search_ok {v f n p : Nat} {vs ve vl : Value} {s : List UInt8} {E : List Nat} {G : List UInt8} (hp : p ≤ 255) (he : E.length ≤ p) (hG : G.length = E.length + 1) (h : Heap) (k : SvK h v f n p vs ve vl s E G) :
  ACalls Tryz.prog 140 [.pointer (some ⟨v, 0, none⟩)] h fun r h' => r = .int .i64 ((srI s G E.length (p - E.length)).1 : Nat) ∧ ∃ vl', SvK h' v f n p vs ve vl' s E (srI s G E.length (p - E.length)).2.2 ∧ Xv v h h' := by
 refine acalls_of mix Tryz.func140 k140 n140 (by simp) fun hcl hb => ?_
 have hv := cellsOf_lt hcl k.cv
 have cv := k.cv
 have hve := k.se h (Xv.refl hcl)
 obtain ⟨ae,ce,rfl⟩ : ∃ ae ce,ve = .slice ae E.length ce := by
  rcases hve with ⟨c,rfl,rfl⟩ | ⟨b,o,cap,c,m,e,rfl,_⟩
  ·exact ⟨_,_,rfl⟩
  ·exact ⟨_,_,rfl⟩
 have hG0 : G ≠ [] := fun q => by rw [q] at hG; simp at hG
 obtain ⟨e,hee⟩ : ∃ e,E.length = e := ⟨_,rfl⟩
 have hB := srI_b s (e := e) (G := G) (by omega)
 have w0 : IntKind.i64.wrap ((e : Int) + 1) = ((e + 1 + 0 : Nat) : Int) := wI (by omega)
 rw [hee] at k he hG cv ⊢
 simp [c140,cv,apart]
 refine (clone_okJ G hG0 vl h k.sl (by omega)).mono' ?_
 rintro wv H1 d1 _ nw
 have g1 := nw.gr
 have k1 := k.keep g1
 simp [w0,-Int.natCast_add]
 have hp5 : ∀ vl x : Value,aput [.pointer (some ⟨f,0,none⟩),.int .i64 (n : Int),.int .i64 (p : Int),vs,.slice ae e ce,vl] 5 [x] = [.pointer (some ⟨f,0,none⟩),.int .i64 (n : Int),.int .i64 (p : Int),vs,.slice ae e ce,x] := fun _ _ => rfl
 have bw := nw.below
 have g1n := g1.n
 refine awp_loop_of (α := ScS) (fun z => e + z.k ≤ p ∧ SvK z.H v f n p vs (.slice ae e ce) z.vl s E (srI s G e z.k).2.2 ∧ (∀ H', Xv v z.H H' → SlB H' z.va (srI s G e z.k).2.1) ∧ Xv v h z.H ∧ VBelow z.H.n z.va) (fun z => [(0, .pointer (some ⟨v, 0, none⟩)), (3, .int .i64 (e : Int)), (4, .int .i64 ((srI s G e z.k).1 : Int)), (5, z.va), (6, .int .i64 ((e + 1 + z.k : Nat) : Int))]) (fun z => z.H) (fun z => p - z.k) ⟨0, wv, vl, H1⟩
  ⟨by show e + 0 ≤ p; omega,k1,fun H' x => nw.xv hv x,Xv.of g1,bw⟩ ⟨g1.n,Nat.le_refl _,fun _ _ e => e,d1⟩ (by simp; exact ⟨.ptr (by show v < H1.n; omega),.int,⟨rfl,.int⟩,bw,.int⟩) ?_
 rintro ⟨i,va,wl,H⟩ ⟨hi,kH,lH,xH,bH⟩
 dsimp only at hi kH lH xH bH ⊢
 have cvH := kH.cv
 have hvH := cellsOf_lt xH.cl cvH
 have xn := xH.n
 by_cases hlt : e + i < p
 ·have hi' : ((e + 1 + i : Nat) : Int) ≤ (p : Int) := by omega
  have w4 : IntKind.i64.wrap (((e + 1 + i : Nat) : Int) + 1) = ((e + 1 + (i + 1) : Nat) : Int) := wI (by omega)
  have hst : srI s G e (i + 1) = srS s e (e + 1 + i) (srI s G e i) := rfl
  obtain ⟨l1,l2,a1,a2,b1,b2⟩ := hB i
  generalize srI s G e i = t at *
  obtain ⟨l,la,lo⟩ := t
  dsimp only at l1 l2 a1 a2 b1 b2 kH lH
  unfold srS at hst
  dsimp only at hst
  have hla := lH H (Xv.refl xH.cl)
  simp [c140_0, cvH, apart, hi', -Int.natCast_add]
  refine (gap_ok (e + 1 + i) (by omega) (by omega) H kH).mono ?_
  rintro _ h9 ⟨rfl,e9⟩
  rw [e9]; clear e9 h9
  obtain ⟨d,hd⟩ : ∃ d,gapF lo s (e + 1 + i) = d := ⟨_,rfl⟩
  rw [hd] at hst ⊢
  obtain ⟨v2,H2,hfst,happ,n2⟩ := shift0 xH.cl hla a1 (by omega)
  obtain ⟨av,cvv,ev⟩ := Sl.form hla
  have fil0 : afill [.int .u8 0] [(0,1,.int .u8 0)] = some [.int .u8 0] := rfl
  by_cases hd0 : d = 0
  ·rw [if_pos hd0] at hst
   subst hd0
   subst ev
   have k2 := kH.keep n2.gr
   have b2' := n2.below
   have n2n := n2.gr.n
   have x2 := xH.trans (Xv.of n2.gr)
   simp [fil0,alen,hfst,happ,w4,-Int.natCast_add]
   exact ⟨⟨i + 1,v2,wl,H2⟩,by show p - (i + 1) < p - i; omega,⟨by show e + (i + 1) ≤ p; omega,by rw [hst]; exact k2,by rw [hst]; exact fun H' x => n2.xv hvH x,x2,b2'⟩,⟨x2.n,Nat.le_refl _,fun _ _ e => e,x2.cl⟩,.ptr (by show v < H2.n; omega),.int,⟨by rw [hst],.int⟩,⟨rfl,b2'⟩,rfl,.int⟩
  ·rw [if_neg hd0] at hst
   have hd1 : ¬ (d.toNat : Int) = 0 := fun q => hd0 (UInt8.toNat_inj.1 (by show d.toNat = 0; omega))
   have hd2 : ¬ d.toNat = 0 := by omega
   have w5 : IntKind.i64.wrap (2 * (l : Int)) = ((2 * l : Nat) : Int) := wI (by omega)
   have w6 : IntKind.i64.wrap (((e + 1 + i : Nat) : Int) + (e : Int)) = ((e + 1 + i + e : Nat) : Int) := wI (by omega)
   have w7 : IntKind.i64.wrap (((e + 1 + i + e : Nat) : Int) - 1) = ((e + 1 + i + e - 1 : Nat) : Int) := wI (by omega)
   simp [hd0,hd1,hd2,cvH,apart,-Int.natCast_add]
   refine (plus_ok lo la d wl va H kH kH.sl hla (by omega) (by omega)).mono' ?_
   rintro pv H3 d3 _ n3
   have k3 := kH.keep n3.gr
   have cv3 := k3.cv
   have g3n := n3.gr.n
   have hla3 := Sl.keep hla n3.gr.m
   have hlo3 := k3.sl
   obtain ⟨v4,H4,hfst4,happ4,n4⟩ := shift0 d3 hla3 a1 (by omega)
   by_cases hl : 2 * l + 1 ≤ e + 1 + i + e
   ·rw [if_pos hl] at hst
    have hl2 : ((2 * l : Nat) : Int) ≤ ((e + 1 + i + e - 1 : Nat) : Int) := by omega
    have w8 : IntKind.i64.wrap (((e + 1 + i + e : Nat) : Int) - (l : Int)) = ((e + 1 + i + e - l : Nat) : Int) := wI (by omega)
    simp [w5,w6,w7,w8,hl2,cv3,apart,-Int.natCast_add,-Int.natCast_mul]
    refine (gfinv_ok f d hd0 H3 k3.gf).mono ?_
    rintro _ h9 ⟨rfl,e9⟩
    rw [e9]; clear e9 h9
    simp [cv3,apart,-Int.natCast_add]
    refine (scaled_ok lo b1 (Pl.gi d) wl H3 k3 hlo3 (by omega)).mono' ?_
    rintro sv5 H5 d5 _ n5
    have n35 := n3.grow n5.gr
    obtain ⟨k6,x6⟩ := kH.put xH.cl n35
    have cv5 := (k3.keep n5.gr).cv
    obtain ⟨ap,cp,rfl⟩ := Sl.form n35.sl
    have x36 : Xv v H5 (H5.set v (.cells [.pointer (some ⟨f,0,none⟩),.int .i64 (n : Int),.int .i64 (p : Int),vs,.slice ae e ce,.slice ap (Pl.plusF lo la d).length cp] .ex 1)) := by
     refine (Xv.refl d5).set (by have := n35.gr.n; omega) ?_
     exact (x6.cl v _ (m_of_cells k6.cv)).2
    have b5 := n5.below
    simp [cv5,mcells,hp5,w4,-Int.natCast_add]
    generalize H5.set v _ = H6 at *
    have x06 := xH.trans x6
    have x6n := x6.n
    have x36n := x36.n
    exact ⟨⟨i + 1,sv5,_,H6⟩,by show p - (i + 1) < p - i; omega,⟨by show e + (i + 1) ≤ p; omega,by rw [hst]; exact k6,by rw [hst]; exact fun H' x => n5.xv (by omega) (x36.trans x),x06,b5.mono x36n⟩,⟨x06.n,Nat.le_refl _,fun _ _ e => e,x06.cl⟩,.ptr (by show v < H6.n; omega),.int,⟨by rw [hst],.int⟩,⟨rfl,b5.mono x36n⟩,rfl,.int⟩
   ·rw [if_neg hl] at hst
    have hl2 : ¬ ((2 * l : Nat) : Int) ≤ ((e + 1 + i + e - 1 : Nat) : Int) := by omega
    subst ev
    have n34 := n3.grow n4.gr
    obtain ⟨k6,x6⟩ := kH.put xH.cl n34
    have cv4 := (k3.keep n4.gr).cv
    obtain ⟨ap,cp,rfl⟩ := Sl.form n34.sl
    have d4 := n4.gr.cl
    have g4n := n4.gr.n
    have x46 : Xv v H4 (H4.set v (.cells [.pointer (some ⟨f,0,none⟩),.int .i64 (n : Int),.int .i64 (p : Int),vs,.slice ae e ce,.slice ap (Pl.plusF lo la d).length cp] .ex 1)) := by
     refine (Xv.refl d4).set (by omega) ?_
     exact (x6.cl v _ (m_of_cells k6.cv)).2
    have b4 := n4.below
    simp [w5,w6,w7,hl2,fil0,alen,hfst4,happ4,cv4,apart,mcells,hp5,w4,-Int.natCast_add,-Int.natCast_mul]
    generalize H4.set v _ = H6 at *
    have x06 := xH.trans x6
    have x6n := x6.n
    have x46n := x46.n
    exact ⟨⟨i + 1,v4,_,H6⟩,by show p - (i + 1) < p - i; omega,⟨by show e + (i + 1) ≤ p; omega,by rw [hst]; exact k6,by rw [hst]; exact fun H' x => n4.xv (by omega) (x46.trans x),x06,b4.mono x46n⟩,⟨x06.n,Nat.le_refl _,fun _ _ e => e,x06.cl⟩,.ptr (by show v < H6.n; omega),.int,⟨by rw [hst],.int⟩,⟨rfl,b4.mono x46n⟩,rfl,.int⟩
 ·have hie : p - e = i := by omega
  have hi' : ¬ ((e + 1 + i : Nat) : Int) ≤ (p : Int) := by omega
  rw [hie]
  simp [c140_0, cvH, apart, hi', -Int.natCast_add]
  exact ⟨⟨wl,kH⟩,xH⟩
instance (p : Nat) (w : List UInt8) : Decidable (rightF p w) := inferInstanceAs (Decidable (∀ j,j < p → Pl.ev (Pl.al j) w = 0))
def synL (p : Nat) (w : List UInt8) : List UInt8 := (List.range p).map fun j => Pl.ev (Pl.al j) w
theorem locs_0 (Xs : List UInt8) : (Pl.locs Xs).getD 0 0 = 1 := by
 have key : ∀ (Xs : List UInt8) (a : List UInt8),(Xs.foldl Pl.mulX a).getD 0 0 = a.getD 0 0 := fun Xs => by
  induction Xs with
  | nil => intro a; rfl
  | cons X Xs ih => intro a; rw [List.foldl_cons,ih]; exact Pl.plusF_get0 a a X
 exact key Xs [1]
theorem srI_0 (s G : List UInt8) (e : Nat) : ∀ k,(srI s G e k).2.2.getD 0 0 = G.getD 0 0
 | 0 => rfl
 | k + 1 => by
   rw [← srI_0 s G e k]
   show (srS s e (e + 1 + k) (srI s G e k)).2.2.getD 0 0 = _
   unfold srS
   split
   ·rfl
   ·split
    ·exact Pl.plusF_get0 _ _ _
    ·exact Pl.plusF_get0 _ _ _
theorem plcF_2 {n : Nat} {loc : List UInt8} (h0 : loc.getD 0 0 = 1) (h1 : loc ≠ []) (h : plcF n loc n ≠ []) : 2 ≤ loc.length := by
 match loc,h0,h1,h with
 | [c],h0,_,h =>
   exfalso
   have hc : c = 1 := h0
   subst hc
   refine h (List.filter_eq_nil_iff.2 fun i _ => ?_)
   rw [Pl.vl_cons,Pl.vl_nil,Pl.gm_zero]
   decide
 | _ :: _ :: _,_,_,_ => simp
theorem mdF_len {n p : Nat} {s loc : List UInt8} {E : List Nat} {w w' : List UInt8} {many : Int} (h : mdF n p s loc E w many = some w') : w'.length = w.length := by
 have key : ∀ (l : List Nat) (om de w : List UInt8),(l.foldl (mdStep om de n) w).length = w.length := fun l => by
  induction l with
  | nil => intro om de w; rfl
  | cons i l ih => intro om de w; rw [List.foldl_cons,ih]; unfold mdStep; simp
 unfold mdF at h
 split at h
 ·cases h
 ·split at h
  ·cases h; exact key _ _ _ _
  ·cases h
theorem sl_xv {α : Type} {enc : α → Value} {H K H' : Heap} {v : Value} {l : List α} {x : Nat} (hc : H.Closed) (s : Sl enc H v l) (hx : H.n ≤ x) (k : ∀ u ob,H.m u = some ob → K.m u = some ob) (g : Xv x K H') : Sl enc H' v l :=
 Sl.keep s fun u ob e => g.m u ob (k u ob e) (by have := (hc u ob e).1; omega)
def mendF (n k : Nat) (E : List Nat) (w : List UInt8) : Option (List UInt8) :=
 if n - k < E.length then none else if rightF (n - k) w then some w else
  match mdF n (n - k) (synL (n - k) w) (srI (synL (n - k) w) (Pl.locs (plX n E)) E.length (n - k - E.length)).2.2 E w ((srI (synL (n - k) w) (Pl.locs (plX n E)) E.length (n - k - E.length)).1 : Nat) with
  | none => none
  | some w' => if rightF (n - k) w' then some w' else none
def MfR (h : Heap) (o : Option (List UInt8)) (r : Value) (h' : Heap) : Prop := match o with
 | none => r = .tuple #[.slice none 0 0,.slice none 0 0,.int .i64 8] ∧ Gr h h'
 | some w => ∃ vw vu,r = .tuple #[vw,vu,.int .i64 0] ∧ NewB h h' vw w
theorem byf_ok (c f n k : Nat) (gv : Value) (hk : 1 ≤ k) (hnk : k < n) (hn : n ≤ 255) (hp : n - k ≤ 64) (w : List UInt8) (hw : w.length = n) (v ve : Value) (E : List Nat) (hE : ∀ x ∈ E,x < n) (hEa : E.Pairwise (· < ·)) (hEl : E.length ≤ 255) (h : Heap) (hc : CodeK h c f n k gv) (hl : SlB h v w) (hle : Sl ei h ve E) : ACalls Tryz.prog 139 [.pointer (some ⟨c,0,none⟩),v,ve,.func (.func 140) #[] #[]] h (MfR h (mendF n k E w)) := by
 refine acalls_of mix Tryz.func139 k139 n139 (by simp) fun hcl hb => ?_
 simp only [c139,s_seq,s_ops]
 simp
 refine (synd_ok c f n k gv hk hnk hn hp w hw v h hc hl).mono' ?_
 rintro _ H1 hc1 _ ⟨vs,rfl,n1⟩
 have g1 := n1.gr
 have k1 := hc.keep g1
 simp
 refine (rssize_ok c f n k gv H1 k1).eqK ?_
 have hmn : mcells (.int .i64 (n : Int)) = some [.int .i64 (n : Int)] := rfl
 have c2 : (H1.push (.cells [.int .i64 (n : Int)] .ex 1)).Closed := closed_push hc1 (fun x hx => by simp at hx; subst hx; exact .int)
 have g2 : Gr h (H1.push (.cells [.int .i64 (n : Int)] .ex 1)) := g1.trans ⟨Nat.le_succ _,c2,keep_push hc1 _⟩
 have cn := cellsOf_new H1 [.int .i64 (n : Int)] .ex 1
 have cn0 := cellsOf_new H1 [.int .i64 0] .ex 1
 have hp1 : aput [.int .i64 0] 0 [.int .i64 (n : Int)] = [.int .i64 (n : Int)] := rfl
 have p12 := keep_push hc1 (.cells [.int .i64 (n : Int)] .ex 1)
 simp [cn0,hmn,hp1,set_push]
 generalize H1.push (.cells [.int .i64 (n : Int)] .ex 1) = H2 at *
 have hle2 := Sl.keep hle g2.m
 refine (conov_ok n H1.n .ex E ve H2 cn hle2 (by omega)).eqK ?_
 have hAll : (∀ x : Nat,x ∈ E → x < n) = True := eq_true hE
 simp only [hAll,not_true_eq_false,decide_false]
 obtain ⟨a,cc,rfl⟩ := Sl.form hle
 simp
 refine (values_okJ a E.length cc H2).eqK ?_
 have c3 : (H2.push (.cells [.slice a E.length cc] .ex 1)).Closed := closed_push c2 (fun x hx => by simp at hx; subst hx; exact (Sl.below hle2 c2).mono (Nat.le_succ _))
 have g3 : Gr h (H2.push (.cells [.slice a E.length cc] .ex 1)) := g2.trans ⟨Nat.le_succ _,c3,keep_push c2 _⟩
 have cb := cellsOf_new H2 [.slice a E.length cc] .ex 1
 have cn3 := cellsOf_keep (keep_push c2 (.cells [.slice a E.length cc] .ex 1)) cn
 have hle3 := Sl.keep hle g3.m
 have p23 := keep_push c2 (.cells [.slice a E.length cc] .ex 1)
 generalize H2.push (.cells [.slice a E.length cc] .ex 1) = H3 at *
 simp
 refine (sorted_ok H2.n E _ .ex 1 H3 cb hle3 (by omega) hEa).mono' ?_
 rintro v4 H4 c4 _ n4
 have g4 := g3.trans n4.gr
 have cn4 := cellsOf_keep n4.gr.m cn3
 simp
 refine (compD_ok E v4 H4 n4.sl (by omega) (fun i hi => ?_)).mono ?_
 ·have := List.pairwise_iff_getElem.1 hEa i (i + 1) (by omega) hi (by omega)
  rw [getElem!_pos E (i + 1) hi,getElem!_pos E i (by omega)]
  omega
 rintro _ h9 ⟨rfl,e⟩
 rw [e]; clear e h9
 obtain ⟨a4,cc4,e4⟩ := Sl.form n4.sl
 rw [e4]
 have wnk : IntKind.i64.wrap ((n : Int) - (k : Int)) = ((n - k : Nat) : Int) := wI (by omega)
 by_cases hm : n - k < E.length
 ·have hm' : ((n - k : Nat) : Int) < (E.length : Int) := by omega
  simp [cn4,apart,wnk,hm,hm']
  unfold mendF
  rw [if_pos hm]
  exact ⟨rfl,g4⟩
 ·have hm' : ¬ ((n - k : Nat) : Int) < (E.length : Int) := by omega
  unfold mendF
  rw [if_neg hm]
  simp [cn4,apart,wnk,hm,hm']
  refine (rsright_ok c f n k gv hk hnk hn hp w hw v H4 (hc.keep g4) (Sl.keep hl g4.m)).mono' ?_
  rintro _ H5 c5 _ ⟨rfl,g5⟩
  have g6 := g4.trans g5
  by_cases hR : rightF (n - k) w
  ·rw [if_pos hR]
   simp only [hR,decide_true]
   simp
   refine (clone_okJ w (fun q => by subst q; simp at hw; omega) v H5 (Sl.keep hl g6.m) (by omega)).mono' ?_
   rintro v7 H7 c7 _ n7
   simp
   exact ⟨v7,.slice none 0 0,rfl,NewB.from g6 n7⟩
  rw [if_neg hR]
  simp only [hR,decide_false]
  have cn5 := cellsOf_keep g5.m cn4
  have k5 := hc.keep g6
  simp [cn5,apart,wnk]
  refine (over_ok c f n k gv H5 k5).eqK ?_
  have n1' : NewB h H1 vs (synL (n - k) w) := n1
  have hsl : (synL (n - k) w).length = n - k := by unfold synL; simp
  obtain ⟨ay,cs,evs⟩ := Sl.form n1'.sl
  rw [hsl] at evs
  subst evs
  have fil6 : afill [.pointer none,.int .i64 0,.int .i64 0,.slice none 0 0,.slice none 0 0,.slice none 0 0] [(0,1,.pointer (some ⟨f,0,none⟩)),(1,1,.int .i64 (n : Int)),(2,1,.int .i64 ((n - k : Nat) : Int)),(3,1,.slice ay (n - k) cs),(4,1,.slice a4 E.length cc4)] = some [.pointer (some ⟨f,0,none⟩),.int .i64 (n : Int),.int .i64 ((n - k : Nat) : Int),.slice ay (n - k) cs,.slice a4 E.length cc4,.slice none 0 0] := rfl
  have hf5 := cellsOf_lt c5 k5.2.1
  have se5 : Sl ei H5 (.slice a4 E.length cc4) E := by rw [← e4]; exact Sl.keep n4.sl g5.m
  have hn1n : ∀ u ob,H1.m u = some ob → H5.m u = some ob := fun u ob q => g5.m u ob (n4.gr.m u ob (p23 u ob (p12 u ob q)))
  have ss5 : SlB H5 (.slice ay (n - k) cs) (synL (n - k) w) := Sl.keep n1'.sl hn1n
  have c6 : (H5.push (.cells [.pointer (some ⟨f,0,none⟩),.int .i64 (n : Int),.int .i64 ((n - k : Nat) : Int),.slice ay (n - k) cs,.slice a4 E.length cc4,.slice none 0 0] .ex 1)).Closed := closed_push c5 (fun y hy => by
   simp at hy
   rcases hy with rfl | rfl | rfl | rfl | rfl | rfl
   ·exact .ptr (by show f < H5.n + 1; omega)
   ·exact .int
   ·exact .int
   ·exact (Sl.below ss5 c5).mono (Nat.le_succ _)
   ·exact (Sl.below se5 c5).mono (Nat.le_succ _)
   ·exact .snil)
  have sk : SvK (H5.push (.cells [.pointer (some ⟨f,0,none⟩),.int .i64 (n : Int),.int .i64 ((n - k : Nat) : Int),.slice ay (n - k) cs,.slice a4 E.length cc4,.slice none 0 0] .ex 1)) H5.n f n (n - k) (.slice ay (n - k) cs) (.slice a4 E.length cc4) (.slice none 0 0) (synL (n - k) w) E [] :=
   ⟨cellsOf_new _ _ _ _,k5.2.1.keep (keep_push c5 _),by omega,fun H' x => sl_xv c5 ss5 (Nat.le_refl _) (keep_push c5 _) x,fun H' x => sl_xv c5 se5 (Nat.le_refl _) (keep_push c5 _) x,.inl ⟨0,rfl,rfl⟩⟩
  have kp5 := keep_push c5 (.cells [.pointer (some ⟨f,0,none⟩),.int .i64 (n : Int),.int .i64 ((n - k : Nat) : Int),.slice ay (n - k) cs,.slice a4 E.length cc4,.slice none 0 0] .ex 1)
  have n6 : (H5.push (.cells [.pointer (some ⟨f,0,none⟩),.int .i64 (n : Int),.int .i64 ((n - k : Nat) : Int),.slice ay (n - k) cs,.slice a4 E.length cc4,.slice none 0 0] .ex 1)).n = H5.n + 1 := rfl
  simp [cn5,apart,wnk,fil6,mcells]
  generalize H5.push (.cells [.pointer (some ⟨f,0,none⟩),.int .i64 (n : Int),.int .i64 ((n - k : Nat) : Int),.slice ay (n - k) cs,.slice a4 E.length cc4,.slice none 0 0] .ex 1) = H6 at *
  have g5x : ∀ {H'},Xv H5.n H6 H' → Gr H5 H' := fun x => ⟨by have := x.n; omega,x.cl,fun u ob q => x.m u ob (kp5 u ob q) (by have := (c5 u ob q).1; omega)⟩
  refine (erasures_ok hn hE hEl H6 sk).mono' ?_
  rintro _ H7 c7 _ ⟨rfl,vl7,sk7,x7⟩
  have hGl : (Pl.locs (plX n E)).length = E.length + 1 := by rw [Pl.locs_len]; unfold plX; rw [List.length_map]
  simp
  refine ⟨by kernel_rfl,(search_ok (by omega) (by omega) hGl H7 sk7).mono' ?_⟩
  rintro _ H8 c8 _ ⟨rfl,vl8,sk8,x8⟩
  have hB := srI_b (synL (n - k) w) hGl (n - k - E.length)
  have h00 := srI_0 (synL (n - k) w) (Pl.locs (plX n E)) E.length (n - k - E.length)
  rw [locs_0] at h00
  have x68 := x7.trans x8
  have g8 := g6.trans (g5x x68)
  generalize srI (synL (n - k) w) (Pl.locs (plX n E)) E.length (n - k - E.length) = t8 at *
  have hw0 : SlB H8 v w := Sl.keep hl g8.m
  simp
  refine (smend_ok (by omega) hn (by omega) (by omega) hEl hB.b1 (by have := hB.b2; omega) (plcF_2 h00 hB.b1) w hw v (t8.1 : Nat) H8 sk8 hw0).mono' ?_
  intro r9 H9 c9 _ md9
  cases hmd : mdF n (n - k) (synL (n - k) w) t8.2.2 E w (t8.1 : Nat) with
  | none =>
    rw [hmd] at md9
    obtain ⟨rfl,g9⟩ := md9
    simp [aun]
    exact ⟨rfl,g8.trans g9⟩
  | some w9 =>
    rw [hmd] at md9
    obtain ⟨v9,rfl,n9⟩ := md9
    have hl9 := mdF_len hmd
    have g9 := g8.trans n9.gr
    simp [aun]
    refine (rsright_ok c f n k gv hk hnk hn hp w9 (by omega) v9 H9 (hc.keep g9) n9.sl).mono' ?_
    rintro _ H10 c10 _ ⟨rfl,g10⟩
    by_cases hR9 : rightF (n - k) w9
    ·simp only [hR9,decide_true,if_true]
     simp [aun]
     have n10 := n9.grow g10
     refine (unlikes_ok w w9 (by omega) (by omega) v v9 H10 (Sl.keep hl (g9.trans g10).m) n10.sl).mono' ?_
     rintro vu H11 c11 _ nu
     simp
     exact ⟨v9,vu,rfl,NewB.from g8 (n10.grow nu.gr)⟩
    ·simp only [hR9,decide_false,if_false]
     simp [aun]
     exact ⟨rfl,g9.trans g10⟩
theorem mendf_ok (c f n k : Nat) (gv : Value) (hk : 1 ≤ k) (hnk : k < n) (hn : n ≤ 255) (hp : n - k ≤ 64) (w : List UInt8) (hw : w.length = n) (v ve : Value) (E : List Nat) (hE : ∀ x ∈ E,x < n) (hEa : E.Pairwise (· < ·)) (hEl : E.length ≤ 255) (h : Heap) (hc : CodeK h c f n k gv) (hl : SlB h v w) (hle : Sl ei h ve E) : ACalls Tryz.prog 106 [.pointer (some ⟨c,0,none⟩),v,ve] h (MfR h (mendF n k E w)) := by
 refine acalls_of mix Tryz.func106 k106 n106 (by simp) fun hcl hb => ?_
 simp [c106]
 refine (byf_ok c f n k gv hk hnk hn hp w hw v ve E hE hEa hEl h hc hl hle).mono ?_
 intro r h' m
 cases ho : mendF n k E w with
 | none =>
   rw [ho] at m
   obtain ⟨rfl,g⟩ := m
   simp
   exact ⟨rfl,g⟩
 | some w' =>
   rw [ho] at m
   obtain ⟨vw,vu,rfl,nb⟩ := m
   simp
   exact ⟨vw,vu,rfl,nb⟩
theorem asc_ext : ∀ {a b : List Nat},a.Pairwise (· < ·) → b.Pairwise (· < ·) → (∀ x,x ∈ a ↔ x ∈ b) → a = b
 | [],[],_,_,_ => rfl
 | [],y :: b,_,_,h => by have := (h y).2 (by simp); cases this
 | x :: a,[],_,_,h => by have := (h x).1 (by simp); cases this
 | x :: a,y :: b,ha,hb,h => by
   have ha1 := List.pairwise_cons.1 ha
   have hb1 := List.pairwise_cons.1 hb
   have hxy : x = y := by
    have h1 := (h x).1 (by simp)
    have h2 := (h y).2 (by simp)
    rcases List.mem_cons.1 h1 with q | q
    ·exact q
    ·rcases List.mem_cons.1 h2 with q2 | q2
     ·exact q2.symm
     ·have := hb1.1 x q; have := ha1.1 y q2; omega
   subst hxy
   rw [asc_ext ha1.2 hb1.2 fun z => ?_]
   constructor
   ·intro q
    rcases List.mem_cons.1 ((h z).1 (by simp [q])) with q2 | q2
    ·subst q2; have := ha1.1 z q; omega
    ·exact q2
   ·intro q
    rcases List.mem_cons.1 ((h z).2 (by simp [q])) with q2 | q2
    ·subst q2; have := hb1.1 z q; omega
    ·exact q2
theorem range_asc (n : Nat) : (List.range n).Pairwise (· < ·) := List.pairwise_lt_range
theorem filt_mem {n : Nat} {E : List Nat} (hE : ∀ i ∈ E,i < n) (hEa : E.Pairwise (· < ·)) : (List.range n).filter (fun i => decide (i ∈ E)) = E :=
 asc_ext ((range_asc n).filter _) hEa fun x => by
  rw [List.mem_filter,List.mem_range]
  constructor
  ·rintro ⟨_,h⟩; exact of_decide_eq_true h
  ·intro h; exact ⟨hE x h,decide_eq_true h⟩
theorem al_inj' {n i j : Nat} (hn : n ≤ 255) (hi : i < n) (hj : j < n) (h : Pl.al (n - 1 - i) = Pl.al (n - 1 - j)) : i = j := by
 have := Pl.al_inj h
 omega
theorem plX_mem {n : Nat} {E : List Nat} (hn : n ≤ 255) (hE : ∀ i ∈ E,i < n) {i : Nat} (hi : i < n) : Pl.al (n - 1 - i) ∈ plX n E ↔ i ∈ E := by
 unfold plX
 rw [List.mem_map]
 constructor
 ·rintro ⟨j,hj,h⟩
  rw [← al_inj' hn (hE j hj) hi h]; exact hj
 ·intro h; exact ⟨i,h,rfl⟩
theorem plX_nodup {n : Nat} {E : List Nat} (hn : n ≤ 255) (hE : ∀ i ∈ E,i < n) (hEa : E.Pairwise (· < ·)) : (plX n E).Nodup := by
 unfold plX
 refine List.pairwise_map.2 (List.Pairwise.imp_of_mem (fun {a b} ha hb h q => ?_) hEa)
 have := al_inj' hn (hE a ha) (hE b hb) q
 omega
theorem plcF_locs {n : Nat} {E : List Nat} (hn : n ≤ 255) (hE : ∀ i ∈ E,i < n) (hEa : E.Pairwise (· < ·)) : plcF n (Pl.locs (plX n E)) n = E := by
 unfold plcF
 conv => rhs; rw [← filt_mem hE hEa]
 refine List.filter_congr fun i hi => ?_
 have hin := List.mem_range.1 hi
 unfold plX1
 rw [decide_eq_decide,Pl.locs_vl,← plX_mem hn hE hin]
 have hX := Pl.al_ne (n - 1 - i)
 constructor
 ·intro h
  refine Classical.byContradiction fun q => Pl.prod_ne (plX n E) 1 (by decide) (fun X hX2 h1 => q ?_) h
  have : X = Pl.al (n - 1 - i) := by
   have h3 := Pl.gm_gi hX
   rw [Pl.gm_comm] at h1 h3
   exact Pl.gm_cancel (Pl.gi_ne _) (h1.trans h3.symm)
  rw [← this]; exact hX2
 ·intro h
  exact Pl.prod_zero (Pl.gm_gi hX) (plX n E) 1 (.inl h)
theorem srI_same {s : List UInt8} {n p : Nat} {E : List Nat} (hgap : ∀ r,E.length < r → r ≤ p → gapF (Pl.locs (plX n E)) s r = 0) : ∀ k,E.length + k ≤ p → (srI s (Pl.locs (plX n E)) E.length k).1 = E.length ∧ (srI s (Pl.locs (plX n E)) E.length k).2.2 = Pl.locs (plX n E)
 | 0,_ => ⟨rfl,rfl⟩
 | k + 1,h => by
   obtain ⟨h1,h2⟩ := srI_same hgap k (by omega)
   show (srS s E.length (E.length + 1 + k) (srI s (Pl.locs (plX n E)) E.length k)).1 = _ ∧ (srS s E.length (E.length + 1 + k) (srI s (Pl.locs (plX n E)) E.length k)).2.2 = _
   unfold srS
   rw [h2,if_pos (hgap _ (by omega) (by omega))]
   exact ⟨h1,rfl⟩
theorem sx_cut (f : Nat → UInt8) (m : Nat) : ∀ d,(∀ j,m ≤ j → j < m + d → f j = 0) → Pl.sx (m + d) f = Pl.sx m f
 | 0,_ => rfl
 | d + 1,h => by
   show Pl.sx (m + d) f ^^^ f (m + d) = _
   rw [sx_cut f m d fun j h1 h2 => h j h1 (by omega),h (m + d) (by omega) (by omega)]
   simp
theorem gapF_0 {s : List UInt8} {n p : Nat} {E : List Nat} {L : List (UInt8 × UInt8)} (hL : ∀ q ∈ L,q.1 ∈ plX n E) (hs : ∀ i,i < p → s.getD i 0 = Pl.ps L i) (r : Nat) (h1 : E.length < r) (h2 : r ≤ p) : gapF (Pl.locs (plX n E)) s r = 0 := by
 have hl : (Pl.locs (plX n E)).length = E.length + 1 := by rw [Pl.locs_len]; unfold plX; rw [List.length_map]
 have hX : (plX n E).length = E.length := by unfold plX; rw [List.length_map]
 rw [← Pl.gap0 hL hs (by rw [hX]; exact h1) h2]
 obtain ⟨d,hd⟩ : ∃ d,r = (E.length + 1) + d := ⟨r - (E.length + 1),by omega⟩
 unfold gapF
 rw [hl]
 conv => rhs; rw [show Pl.sx r = Pl.sx ((E.length + 1) + d) by rw [← hd]]
 rw [sx_cut _ (E.length + 1) d fun j hj1 hj2 => by
  rw [Pl.getD_ge (by omega),Pl.gm_comm,Pl.gm_zero]]
 refine Pl.sx_ext fun j hj => ?_
 congr 1
 rw [getD_at]
 congr 1
 omega
def erP (n : Nat) (E : List Nat) (w c : List UInt8) : List (UInt8 × UInt8) := E.map fun i => (Pl.al (n - 1 - i),w[i]! ^^^ c[i]!)
theorem ps_mapf {α : Type} (g : α → UInt8 × UInt8) (i : Nat) (P : α → Bool) (h : ∀ x,P x = false → (g x).2 = 0) : ∀ l : List α,Pl.ps ((l.filter P).map g) i = Pl.ps (l.map g) i
 | [] => rfl
 | x :: l => by
   rw [List.filter_cons,List.map_cons,Pl.ps_cons]
   cases hx : P x
   ·rw [if_neg (by simp),ps_mapf g i P h l,h x hx,Pl.gm_comm,Pl.gm_zero]; simp
   ·rw [if_pos rfl,List.map_cons,Pl.ps_cons,ps_mapf g i P h l]
theorem pr_eq : ∀ (v : List UInt8),Pl.pr v = (List.range v.length).map fun i => (Pl.al (v.length - 1 - i),v[i]!)
 | [] => rfl
 | c :: v => by
   show (Pl.al v.length,c) :: Pl.pr v = _
   rw [pr_eq v,List.length_cons,List.range_succ_eq_map,List.map_cons,List.map_map]
   congr 1
   refine List.map_congr_left fun i hi => ?_
   show _ = (Pl.al (v.length + 1 - 1 - (i + 1)),(c :: v)[i + 1]!)
   have hin := List.mem_range.1 hi
   rw [getElem!_pos v i hin,getElem!_pos (c :: v) (i + 1) (by simpa using hin),show v.length + 1 - 1 - (i + 1) = v.length - 1 - i by omega]
   rfl
theorem ps_er {n : Nat} {E : List Nat} {w c : List UInt8} (hw : w.length = n) (hc : c.length = n) (hE : ∀ i ∈ E,i < n) (hEa : E.Pairwise (· < ·)) (hd : ∀ i,i < n → w[i]! ≠ c[i]! → i ∈ E) (i : Nat) : Pl.ps (Pl.pr (Pl.xl w c)) i = Pl.ps (erP n E w c) i := by
 have hl : (Pl.xl w c).length = n := by rw [Pl.xl_len (by omega)]; exact hw
 rw [pr_eq,hl]
 unfold erP
 conv => rhs; rw [← filt_mem hE hEa]
 have hg : ((List.range n).map fun i => (Pl.al (n - 1 - i),(Pl.xl w c)[i]!)) = (List.range n).map fun i => (Pl.al (n - 1 - i),if i < n then w[i]! ^^^ c[i]! else 0) := by
  refine List.map_congr_left fun k hk => ?_
  have hkn := List.mem_range.1 hk
  rw [if_pos hkn,getElem!_pos _ k (by omega),getElem!_pos w k (by omega),getElem!_pos c k (by omega),xl_getE _ _ k (by omega) (by omega) (by omega)]
 have hg2 : ((List.range n).filter fun i => decide (i ∈ E)).map (fun i => (Pl.al (n - 1 - i),w[i]! ^^^ c[i]!)) = ((List.range n).filter fun i => decide (i ∈ E)).map (fun i => (Pl.al (n - 1 - i),if i < n then w[i]! ^^^ c[i]! else 0)) := by
  refine List.map_congr_left fun k hk => ?_
  have hkn := List.mem_range.1 (List.mem_filter.1 hk).1
  rw [if_pos hkn]
 rw [hg,hg2,ps_mapf _ i (fun i => decide (i ∈ E)) fun k hk => ?_]
 have hk2 := of_decide_eq_false hk
 show (if k < n then w[k]! ^^^ c[k]! else 0) = 0
 split
 ·rename_i hkn
  have : w[k]! = c[k]! := Classical.byContradiction fun q => hk2 (hd k hkn q)
  rw [this]; simp
 ·rfl
theorem syn_er {n p : Nat} {E : List Nat} {w c : List UInt8} (hw : w.length = n) (hc : c.length = n) (hR : rightF p c) (hE : ∀ i ∈ E,i < n) (hEa : E.Pairwise (· < ·)) (hd : ∀ i,i < n → w[i]! ≠ c[i]! → i ∈ E) (i : Nat) (hi : i < p) : (synL p w).getD i 0 = Pl.ps (erP n E w c) i := by
 rw [← ps_er hw hc hE hEa hd,← Pl.ev_pr,Pl.ev_xl _ _ _ (by omega),hR i hi]
 unfold synL
 rw [List.getD_eq_getElem?_getD,List.getElem?_map,List.getElem?_range hi]
 simp
theorem step_get {om de : List UInt8} {n : Nat} : ∀ (l : List Nat) (w : List UInt8),l.Nodup → (∀ i ∈ l,i < w.length) → ∀ j,j < w.length → (l.foldl (mdStep om de n) w)[j]! = if j ∈ l then w[j]! ^^^ (byF om de (Pl.al (n - 1 - j))).1 else w[j]!
 | [],w,_,_,j,_ => by simp
 | i :: l,w,hn,hl,j,hj => by
   have hn1 := List.nodup_cons.1 hn
   have hlen : (mdStep om de n w i).length = w.length := by unfold mdStep; simp
   have hi := hl i (by simp)
   rw [List.foldl_cons,step_get l _ hn1.2 (fun k hk => by rw [hlen]; exact hl k (by simp [hk])) j (by rw [hlen]; exact hj)]
   have hget : (mdStep om de n w i)[j]! = if i = j then w[i]! ^^^ (byF om de (Pl.al (n - 1 - i))).1 else w[j]! := by
    rw [getElem!_pos _ j (by rw [hlen]; exact hj)]
    unfold mdStep
    rw [List.getElem_set]
    split
    ·rfl
    ·rw [getElem!_pos w j hj]
   rw [hget]
   by_cases q : i = j
   ·subst q
    simp [hn1.1]
   ·have q2 : ¬ j = i := fun e => q e.symm
    simp [q,q2]
theorem mdF_er {n p : Nat} (hn : n ≤ 255) {E : List Nat} {w c : List UInt8} (hw : w.length = n) (hc : c.length = n) (hR : rightF p c) (hE : ∀ i ∈ E,i < n) (hEa : E.Pairwise (· < ·)) (hp : E.length ≤ p) (hd : ∀ i,i < n → w[i]! ≠ c[i]! → i ∈ E) :
  mdF n p (synL p w) (Pl.locs (plX n E)) E w (E.length : Nat) = some c := by
 have hs := syn_er hw hc hR hE hEa hd
 have hL : ∀ q ∈ erP n E w c,q.1 ∈ plX n E := fun q hq => by
  obtain ⟨i,hi,rfl⟩ := List.mem_map.1 hq
  exact List.mem_map.2 ⟨i,hi,rfl⟩
 have hfst : (erP n E w c).map Prod.fst = plX n E := by unfold erP plX; rw [List.map_map]; rfl
 have hnd := plX_nodup hn hE hEa
 have hEn : E.Nodup := hEa.imp fun h q => by omega
 have hXl : (plX n E).length = E.length := by unfold plX; rw [List.length_map]
 have hby : ∀ i ∈ E,byF (Pl.omF p (synL p w) (Pl.locs (plX n E))) (Pl.dvF (Pl.locs (plX n E))) (Pl.al (n - 1 - i)) = (w[i]! ^^^ c[i]!,true) := fun i hi => by
  have := Pl.forney hnd (fun X hX => by obtain ⟨j,_,rfl⟩ := List.mem_map.1 hX; exact Pl.al_ne _) hL (by rw [hfst]; exact hnd) (by rw [hXl]; exact hp) hs (X := Pl.al (n - 1 - i)) (Y := w[i]! ^^^ c[i]!) (List.mem_map.2 ⟨i,hi,rfl⟩)
  unfold byF
  rw [if_neg this.1,this.2]
 have hu : ulF E E = 0 := by
  unfold ulF
  rw [List.filter_eq_nil_iff.2 fun i hi => by simp [hi]]; rfl
 unfold mdF
 rw [plcF_locs hn hE hEa,hu,if_neg (by simp; omega),if_pos (show mdOk _ _ n E = true from List.all_eq_true.2 fun i hi => by rw [hby i hi])]
 congr 1
 have hlen : (E.foldl (mdStep (Pl.omF p (synL p w) (Pl.locs (plX n E))) (Pl.dvF (Pl.locs (plX n E))) n) w).length = w.length := by
  have key : ∀ (l : List Nat) (om de w : List UInt8),(l.foldl (mdStep om de n) w).length = w.length := fun l => by
   induction l with
   | nil => intro om de w; rfl
   | cons i l ih => intro om de w; rw [List.foldl_cons,ih]; unfold mdStep; simp
  exact key _ _ _ _
 refine List.ext_getElem (by omega) fun j h1 h2 => ?_
 have := step_get (om := Pl.omF p (synL p w) (Pl.locs (plX n E))) (de := Pl.dvF (Pl.locs (plX n E))) (n := n) E w hEn (fun i hi => by rw [hw]; exact hE i hi) j (by omega)
 rw [getElem!_pos _ j h1] at this
 rw [this,← getElem!_pos c j h2]
 by_cases q : j ∈ E
 ·rw [if_pos q,hby j q,← UInt8.xor_assoc]; simp
 ·rw [if_neg q]
  exact Classical.byContradiction fun q2 => q (hd j (by omega) q2)
theorem right_uniq {n p : Nat} (hn : n ≤ 255) {E : List Nat} {w c : List UInt8} (hw : w.length = n) (hc : c.length = n) (hRw : rightF p w) (hR : rightF p c) (hE : ∀ i ∈ E,i < n) (hEa : E.Pairwise (· < ·)) (hp : E.length ≤ p) (hd : ∀ i,i < n → w[i]! ≠ c[i]! → i ∈ E) : w = c := by
 have hs := syn_er hw hc hR hE hEa hd
 have hfst : (erP n E w c).map Prod.fst = plX n E := by unfold erP plX; rw [List.map_map]; rfl
 have hv := Pl.vand E.length (erP n E w c) (by unfold erP; rw [List.length_map]) (by rw [hfst]; exact plX_nodup hn hE hEa) fun i hi => by
  rw [← hs i (by omega)]
  unfold synL
  rw [List.getD_eq_getElem?_getD,List.getElem?_map,List.getElem?_range (by omega)]
  exact hRw i (by omega)
 refine List.ext_getElem (by omega) fun j h1 h2 => ?_
 rw [← getElem!_pos w j h1,← getElem!_pos c j h2]
 refine Classical.byContradiction fun q => ?_
 have := hv _ (List.mem_map.2 ⟨j,hd j (by omega) q,rfl⟩)
 have h0 : w[j]! ^^^ c[j]! = 0 := this
 exact q (by
  have e : w[j]! ^^^ c[j]! ^^^ c[j]! = 0 ^^^ c[j]! := by rw [h0]
  rw [UInt8.xor_assoc] at e; simpa using e)
theorem mendF_er {n k : Nat} (hn : n ≤ 255) {E : List Nat} {w c : List UInt8} (hw : w.length = n) (hc : c.length = n) (hR : rightF (n - k) c) (hE : ∀ i ∈ E,i < n) (hEa : E.Pairwise (· < ·)) (hp : E.length ≤ n - k) (hd : ∀ i,i < n → w[i]! ≠ c[i]! → i ∈ E) : mendF n k E w = some c := by
 unfold mendF
 rw [if_neg (by omega)]
 by_cases hRw : rightF (n - k) w
 ·rw [if_pos hRw,right_uniq hn hw hc hRw hR hE hEa hp hd]
 ·rw [if_neg hRw]
  have hL : ∀ q ∈ erP n E w c,q.1 ∈ plX n E := fun q hq => by
   obtain ⟨i,hi,rfl⟩ := List.mem_map.1 hq
   exact List.mem_map.2 ⟨i,hi,rfl⟩
  obtain ⟨h1,h2⟩ := srI_same (gapF_0 hL (syn_er hw hc hR hE hEa hd)) (n - k - E.length) (by omega)
  rw [h1,h2,mdF_er hn hw hc hR hE hEa hp hd]
  show (if rightF (n - k) c then some c else none) = some c
  rw [if_pos hR]
end Go.Proofs.YtdnmkenamgfjoaaGreat.arbj
