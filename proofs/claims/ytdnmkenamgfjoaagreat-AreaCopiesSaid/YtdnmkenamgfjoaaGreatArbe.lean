/-
 Contracts.
-/
import Derived.Test.YtdnmkenamgfjoaaGreatArbd
import Derived.IntWalk
import Derived.KernelRfl
set_option linter.unusedSimpArgs false
set_option linter.unusedVariables false
set_option linter.unusedSectionVars false
namespace Go.Proofs.YtdnmkenamgfjoaaGreat.arbe
open Go Go.Ab Go.Proofs Go.RowKit str vers lin1 sha arba arbb arbc arbd
variable [Inhabited TabBox]
variable [Nonempty GF]
variable [Nonempty GE]
set_option maxRecDepth 100000
def c30_0 : AC := sO [oP 29 (bT .lss 28 27)] (.seq (cT 29 .skip (.exit 0)) (.seq (.block 1 (sO [mV 30 28,mV 10 30] (sO [mV 32 0,oP 33 (nC 32),oP 34 (fA 2 33),oP 35 (.load (some 3) (tP 34)),mV 36 1,mV 37 2,mV 38 10,oP 39 (.call 71 [tP 35,tP 36,tP 37,tP 38]),mV 31 39,oP 40 (xR 31 0),oP 41 (xR 31 1),mV 11 40,mV 12 41] (sO [mV 43 0,oP 44 (nC 43),oP 45 (fA 1 44),oP 46 (lN 45),mV 47 11,oP 48 (bK .mul 47 64),oP 49 (.call 72 [tP 46,tP 48,.const (.int .i64 64)]),mV 42 49,oP 50 (xR 42 0),oP 51 (xR 42 1),mV 13 50,mV 14 51] (.seq (sO [mV 52 14,oP 53 (bK .neq 52 0)] (cT 53 (sO [oP 54 (.build [.slice none 0 0,.slice none 0 0] []),mV 55 14,nP (.store 2 (tP 6) (tP 54)),mV 7 55] .ret) .skip)) (.ops [mV 56 9,mV 57 13,oP 58 (.buildS 1 [.string ⟨⟨[]⟩⟩] [(0,1,.tmp 57)]),oP 59 (.app 1 16 9 (tP 56) (tP 58)),mV 9 59])))))) (.ops [oP 60 (bK .add 28 1),mV 28 60])))
def c30 : AC := sO [oP 6 (.alloc [.slice none 0 0,.slice none 0 0]),oP 7 (.mv (kI 0))] (.seq (sO [mV 15 0,mV 16 1,mV 17 2,oP 18 (.call 61 [tP 15,tP 16,tP 17]),mV 8 18] (sO [mV 19 8,oP 20 (bK .neq 19 0)] (cT 20 (sO [oP 21 (.build [.slice none 0 0,.slice none 0 0] []),mV 22 8,nP (.store 2 (tP 6) (tP 21)),mV 7 22] .ret) .skip))) (sO [oP 9 (.mv (.const (.slice none 0 0)))] (.seq (sO [mV 23 0,oP 24 (nC 23),oP 25 (fA 2 24),oP 26 (.load (some 3) (tP 25)),oP 27 (.call 70 [tP 26]),oP 28 (.mv (kI 0))] (.block 0 (.loop c30_0))) (sO [mV 61 0,oP 62 (nC 61),oP 63 (fA 0 62),oP 64 (lN 63),mV 65 9,oP 66 (.call 73 [tP 64,tP 65]),oP 67 (xR 66 0),oP 68 (xR 66 1),nP (.store 2 (tP 6) (tP 67)),mV 7 68] .ret))))
theorem k30 : compR Tryz.prog Tryz.f30 = some (c30,[.c 6 (some 2),.t 7]) := by kernel_rfl
theorem n30 : Tryz.f30.ntmps = 69 := by kernel_rfl
def _root_.Go.Proofs.YtdnmkenamgfjoaaGreat.arbb.DevS.wop (V : DevS) (o : Int) : DevS := { V with ops := o }
theorem _root_.Go.Proofs.YtdnmkenamgfjoaaGreat.arbc.DevU.wop {V : DevS} (u : DevU V) (o : Int) : DevU (V.wop o) := ⟨u.up,u.lf,u.dl,u.wl,u.nl⟩
theorem _root_.Go.Proofs.YtdnmkenamgfjoaaGreat.arbb.DevK.keepM {H H' : Heap} {d x y z : Nat} {V : DevS} (k : DevK H d x y z V) (g : ∀ u ob,H.m u = some ob → u = d ∨ u = x ∨ u = y ∨ u = z → H'.m u = some ob) : DevK H' d x y z V := by
 obtain ⟨mx,ex,cx,hx⟩ := k.cx
 obtain ⟨my,ey,cy,hy⟩ := k.cy
 obtain ⟨mz,ez,cz,hz⟩ := k.cz
 have kc : ∀ u C,u = d ∨ u = x ∨ u = y ∨ u = z → H.cellsOf u = some C → H'.cellsOf u = some C := fun u C hu e => by
  obtain ⟨c,m,e'⟩ := C
  have := g u _ (m_of_cells e) hu
  unfold Heap.cellsOf
  rw [this]
 exact ⟨kc _ _ (.inl rfl) k.cd,⟨mx,ex,kc _ _ (.inr (.inl rfl)) cx,hx⟩,⟨my,ey,kc _ _ (.inr (.inr (.inl rfl))) cy,hy⟩,⟨mz,ez,kc _ _ (.inr (.inr (.inr rfl))) cz,hz⟩,k.ne⟩
theorem _root_.Go.Proofs.YtdnmkenamgfjoaaGreat.arbc.Xd.step {d x y z : Nat} {h H : Heap} {D : DevS} (g : Xd d x y z h H) (k : DevK H d x y z D) (D' : DevS) : Xd d x y z h (H.set d (.cells (devC x y z D') .ex 1)) :=
 g.set (.inl rfl) (cellsOf_lt g.cl k.cd) (fun v hv => by
  have bx1 := cellsOf_lt g.cl (k.cx.choose_spec.choose_spec.1)
  have by1 := cellsOf_lt g.cl (k.cy.choose_spec.choose_spec.1)
  have bz1 := cellsOf_lt g.cl (k.cz.choose_spec.choose_spec.1)
  simp only [devC,List.mem_cons,List.not_mem_nil,or_false] at hv
  rcases hv with rfl | rfl | rfl | rfl | rfl | rfl | rfl | rfl
  ·exact .int
  ·exact .int
  ·exact .int
  ·exact .slice bx1
  ·exact .slice by1
  ·exact .slice bz1
  ·exact .bool
  ·exact .int)
def strF (A : ArB) (V : DevS) (a k : Nat) : List (List UInt8) := (List.range (A.D + A.P)).map fun i => secF V (secN A.D A.P A.S a k i)
theorem strF_len (A : ArB) (V : DevS) (a k : Nat) : (strF A V a k).length = A.D + A.P := by simp [strF]
def FdJ (h : Heap) (X l : List (List UInt8)) (va vw : Value) (H : Heap) : Prop := ∃ nm nn,LAt H 60 nm va X.length (ubs X.flatten) ∧ LAt H 1 nn vw (wrF X l l.length).length ((wrF X l l.length).map ei) ∧
 (∀ x,nm = some x → h.n ≤ x) ∧ (∀ x,nn = some x → h.n ≤ x) ∧ (∀ x,nm = some x → nn ≠ some x)
def ReadA (h : Heap) (l : List (List UInt8)) (o : Option (List (List UInt8))) (r : Value) (h' : Heap) : Prop := match o with
 | none => r = .tuple #[.agg #[.slice none 0 0,.slice none 0 0],.int .i64 8]
 | some X => ∃ va vw,r = .tuple #[.agg #[va,vw],.int .i64 0] ∧ FdJ h X l va vw h'
structure RaS where
 i : Nat
 v : Value
 o : Int
 H : Heap
theorem aread_ok (A : ArB) (V : DevS) (a k : Nat) (ha : a ≤ 2) (hk : k < A.S) (o : Option (List (List UInt8))) (h : Heap) (K : ArK h A V)
  (hR : ∀ (H : Heap) (v : Value),CodK H A.c A.k A.s A.f A.gw A.D A.P A.S → Sl sv H v (strF A V a k) → ACalls Tryz.prog 73 [.pointer (some ⟨A.c,0,none⟩),v] H (ReadR H (strF A V a k) o)) :
  ACalls Tryz.prog 30 [.pointer (some ⟨A.a,0,none⟩),.int .i64 (a : Int),.int .i64 (k : Int)] h fun r h' => ∃ q,ArK h' A (V.wop q) ∧ ReadA h (strF A V a k) o r h' ∧ ArX A h h' := by
 refine acalls_ofR mix Tryz.func30 k30 n30 (by simp) fun hcl hb => ?_
 have hba := cellsOf_lt hcl K.ca
 have hgv : (.agg #[.int .i64 (A.D : Int),.int .i64 (A.P : Int),.int .i64 (A.S : Int)] : Value) = gv A.D A.P A.S := rfl
 obtain ⟨⟨hd1,hd8⟩,⟨hp2,hp6⟩,hn1,hn8⟩ := right_prop.1 K.rt
 have hw : wide A.D A.P A.S = ((A.D + A.P : Nat) : Int) := by unfold wide; rw [if_pos K.rt]; omega
 obtain ⟨l1,l2,l3,l4,l5⟩ := K.lo
 have hU := K.du
 have hsz := K.sz
 have hdl := hU.dl
 have hall : allS (A.D : Int) A.P A.S ≤ 354 := allS_le
 have c0 : (h.push (.cells [.slice none 0 0,.slice none 0 0] .ex 1)).Closed := closed_push hcl (fun x hx => by simp at hx; subst hx; exact .snil)
 have f0 := cellsOf_new h [.slice none 0 0,.slice none 0 0] .ex 1
 have g0 : Gr h (h.push (.cells [.slice none 0 0,.slice none 0 0] .ex 1)) := ⟨Nat.le_succ _,c0,keep_push hcl _⟩
 have n0 : (h.push (.cells [.slice none 0 0,.slice none 0 0] .ex 1)).n = h.n + 1 := rfl
 simp [c30]
 generalize h.push (.cells [.slice none 0 0,.slice none 0 0] .ex 1) = H0 at *
 have K0 := K.keep g0
 refine (there_ok A V a k H0 K0).eqK ?_
 rw [thereF_in ha hk]
 have ca0 := K0.ca
 simp [ca0,apart,acut_area,hgv]
 refine (wide_ok A.D A.P A.S H0).eqK ?_
 rw [hw]
 simp [-Int.natCast_add]
 obtain ⟨T,hT⟩ : ∃ T,strF A V a k = T := ⟨_,rfl⟩
 have hTl : T.length = A.D + A.P := by rw [← hT,strF_len]
 rw [hT] at hR ⊢
 refine awp_loop_of (α := RaS) (fun z => z.i ≤ A.D + A.P ∧ DevK z.H A.d A.x A.y A.z (V.wop z.o) ∧ (∃ nm,LAt z.H 1 nm z.v z.i ((T.take z.i).map sv) ∧ ∀ u,nm = some u → h.n + 1 ≤ u) ∧ z.H.cellsOf h.n = some ([.slice none 0 0,.slice none 0 0],.ex,1) ∧ ArX A h z.H ∧ h.n + 1 ≤ z.H.n)
  (fun z => [(0,.pointer (some ⟨A.a,0,none⟩)),(1,.int .i64 (a : Int)),(2,.int .i64 (k : Int)),(6,.pointer (some ⟨h.n,0,none⟩)),(9,z.v),(27,.int .i64 ((A.D + A.P : Nat) : Int)),(28,.int .i64 (z.i : Int))]) (fun z => z.H) (fun z => A.D + A.P - z.i) ⟨0,.slice none 0 0,V.ops,H0⟩
  ⟨Nat.zero_le _,K0.dv,⟨none,.inl ⟨rfl,rfl,rfl,rfl⟩,fun _ e => by cases e⟩,f0,Xd.of g0,by show h.n + 1 ≤ H0.n; omega⟩ ⟨g0.n,Nat.le_refl _,fun _ _ e => e,c0⟩ (by simp; exact ⟨.ptr (by show A.a < _; omega),.int,.int,.ptr (by show h.n < _; omega),.snil,.int,.int⟩) ?_
 rintro ⟨i,v,q,H⟩ ⟨hi,kd,⟨nm,lT,xT⟩,fH,gH,nH⟩
 dsimp only at hi kd lT fH gH nH ⊢
 have KH := K.keepX gH kd (hU.wop q) rfl
 have caH := KH.ca
 by_cases hlt : i < A.D + A.P
 ·have hi' : (i : Int) < ((A.D + A.P : Nat) : Int) := by omega
  have w4 := w64n (i := i) (by omega)
  have hse := sectorR_in K.rt a k i ha hk hlt
  have hnl := (secN_lt K.rt ha hk hlt).1
  have hTi : T[i]'(by omega) = secF V (secN A.D A.P A.S a k i) := by subst hT; simp [strF]
  obtain ⟨n,hn⟩ : ∃ n,secN A.D A.P A.S a k i = n := ⟨_,rfl⟩
  rw [hn] at hse hnl hTi
  have w5 : IntKind.i64.wrap ((n : Int) * 64) = ((64 * n : Nat) : Int) := wI (by omega)
  simp [c30_0, hi', caH, apart, acut_area, hgv, -Int.natCast_add]
  refine (sector_ok A.D A.P A.S a k i H).eqK ?_
  rw [hse]
  simp [caH,apart,w5,-Int.natCast_mul,-Int.natCast_add]
  refine (fread_ok A.d A.x A.y A.z (V.wop q) (hU.wop q) (64 * n) 64 (by show 64 * n + 64 ≤ V.data.length; omega) H kd).eqK ?_
  have hrd : (V.wop q).read (64 * n) 64 = secF V n := rfl
  rw [hrd,← hTi]
  have gS := gH.step kd (V.wop q).step
  have kS : DevK (H.set A.d (.cells (devC A.x A.y A.z (V.wop q).step) .ex 1)) A.d A.x A.y A.z (V.wop (IntKind.i64.wrap (q + 1))) := kd.set (D' := (V.wop q).step) rfl rfl rfl
  have lS := lT.up (H := H.set A.d (.cells (devC A.x A.y A.z (V.wop q).step) .ex 1)) fun u e ob e2 => by
   have := xT u e
   rw [set_m,if_neg (by omega)]; exact e2
  have fS : (H.set A.d (.cells (devC A.x A.y A.z (V.wop q).step) .ex 1)).cellsOf h.n = some ([.slice none 0 0,.slice none 0 0],.ex,1) := by rw [cells_setJ _ (by omega)]; exact fH
  have nS : (H.set A.d (.cells (devC A.x A.y A.z (V.wop q).step) .ex 1)).n = H.n := rfl
  generalize H.set A.d (.cells (devC A.x A.y A.z (V.wop q).step) .ex 1) = HS at *
  obtain ⟨t,ht⟩ : ∃ t,T[i]'(by omega) = t := ⟨_,rfl⟩
  rw [ht]
  have hsv : (.string (bs t) : Value) = sv t := rfl
  obtain ⟨a3,e3,v3,H3,happ3,lA,fr3,n3,c3⟩ := lat_push1 (t := 9) (bytes := 16) gS.cl lS [sv t] 1 (by simp) (fun k x hx => by simp at hx; subst hx; exact .string) (by omega)
  have hfst3 : afirst (HS.push (.cells [sv t] .ex 1)) 1 1 (.slice (some ⟨HS.n,0,none⟩) 1 1) = some [sv t] := by
   have := cellsOf_new HS [sv t] .ex 1
   simp [afirst,this,acut]
  have fili : afill [.string (bs [])] [(0,1,.string (bs t))] = some [sv t] := rfl
  have hms : (T.take i).map sv ++ [sv t] = (T.take (i + 1)).map sv := by rw [List.take_succ_eq_append_getElem (by omega),List.map_append,ht]; rfl
  rw [hms] at lA
  have fN : H3.cellsOf h.n = some ([.slice none 0 0,.slice none 0 0],.ex,1) := by
   have := fr3 h.n _ (m_of_cells fS) (fun q2 => by have := xT _ q2; omega)
   unfold Heap.cellsOf; rw [this]
  have kN := kS.keepM (H' := H3) fun u ob e hu => fr3 u ob e (fun q2 => by have := xT u q2; omega)
  have gN : ArX A h H3 := ⟨by have := gS.n; omega,c3,fun u ob e h1 h2 h3 h4 => fr3 u ob (gS.m u ob e h1 h2 h3 h4) (fun q2 => by have := xT u q2; have := (hcl u ob e).1; omega)⟩
  subst e3
  simp [bs_lit,fili,alen,hfst3,happ3,w4,-Int.natCast_add]
  exact ⟨⟨i + 1,v3,_,H3⟩,by show A.D + A.P - (i + 1) < A.D + A.P - i; omega,⟨by show i + 1 ≤ A.D + A.P; omega,kN,⟨some (HS.n + 1),by dsimp only; simpa using lA,fun u e => by have := Option.some.inj e; omega⟩,fN,gN,by show h.n + 1 ≤ H3.n; omega⟩,⟨gN.n,Nat.le_refl _,fun _ _ e => e,c3⟩,.ptr (by show A.a < H3.n; omega),.int,.int,.ptr (by show h.n < H3.n; omega),⟨rfl,lat_bel c3 lA⟩,.int,rfl,.int⟩
 ·have hie : i = A.D + A.P := by omega
  subst hie
  rw [List.take_of_length_le (by omega)] at lT
  have sT : Sl sv H v T := by
   rcases lT with ⟨_,q1,q2,_⟩ | ⟨x,md,e,_,q1,h3,h4,_⟩
   ·omega
   ·exact .inr ⟨x,0,_,_,md,e,by rw [q1,hTl],h3,by omega,fun _ => by rw [List.length_map]; omega,fun i hi => by simp [hi]⟩
  simp [c30_0,caH,apart]
  refine (hR H v (KH.cod gH.cl) sT).mono' ?_
  intro r H2 c2 _ hr
  have hm2 : ∀ u v : Value,mcells (.agg #[u,v]) = some [u,v] := fun _ _ => rfl
  have hp2 : ∀ u v : Value,aput [.slice none 0 0,.slice none 0 0] 0 [u,v] = [u,v] := fun _ _ => rfl
  have hac2 : ∀ u v : Value,acut [u,v] 0 2 = some [u,v] := fun _ _ => rfl
  have goS : ∀ (u w : Value) (g2 : Gr H H2),VBelow H2.n u → VBelow H2.n w → ArX A h (H2.set h.n (.cells [u,w] .ex 1)) ∧ DevK (H2.set h.n (.cells [u,w] .ex 1)) A.d A.x A.y A.z (V.wop q) := fun u w g2 bu bw => by
   have hn2 := g2.n
   refine ⟨⟨by show h.n ≤ H2.n; omega,closed_set c2 (by omega) (fun x hx => by simp at hx; rcases hx with rfl | rfl <;> assumption),fun y ob e h1 h2 h3 h4 => ?_⟩,?_⟩
   ·have := (hcl y ob e).1
    rw [set_m,if_neg (by omega)]
    exact g2.m y ob (gH.m y ob e h1 h2 h3 h4)
   ·refine kd.keepM fun y ob e hy => ?_
    rw [set_m,if_neg (by omega)]
    exact g2.m y ob e
  cases o with
  | none =>
    obtain ⟨rfl,g2⟩ := hr
    have f2 := cellsOf_keep g2.m fH
    obtain ⟨gF,kF⟩ := goS (.slice none 0 0) (.slice none 0 0) g2 .snil .snil
    have f5 := cells_setJ' H2 h.n [.slice none 0 0,.slice none 0 0] .ex 1
    simp [f2,hm2,hp2,f5,apart,hac2]
    exact ⟨⟨q,K.keepX gF kF (hU.wop q) rfl⟩,rfl,gF⟩
  | some X =>
    obtain ⟨va,vw,rfl,nx,nn,lx,ln,xx,xn,xd,g2⟩ := hr
    have f2 := cellsOf_keep g2.m fH
    have bx := lat_bel c2 lx
    have bn := lat_bel c2 ln
    obtain ⟨gF,kF⟩ := goS va vw g2 bx bn
    have f5 := cells_setJ' H2 h.n [va,vw] .ex 1
    simp [f2,hm2,hp2,f5,apart,hac2]
    have hHn := gH.n
    refine ⟨⟨q,K.keepX gF kF (hU.wop q) rfl⟩,⟨va,vw,rfl,nx,nn,lx.up fun u e ob e2 => ?_,ln.up fun u e ob e2 => ?_,fun u e => by have := xx u e; omega,fun u e => by have := xn u e; omega,xd⟩,gF⟩
    ·have := xx u e
     rw [set_m,if_neg (by omega)]; exact e2
    ·have := xn u e
     rw [set_m,if_neg (by omega)]; exact e2
def c102 : AC := sO [oP 4 (.mv (kI 0)),oP 5 (.mv (.const .nilIface))] (sO [mV 6 0,oP 7 (.call 134 [tP 6])] (sO [mV 8 0,mV 9 0,oP 10 (nC 9),oP 11 (fA 1 10),oP 12 (lN 11),mV 13 1,oP 14 (.app 1 1 5 (tP 12) (tP 13)),oP 15 (nC 8),oP 16 (fA 1 15),nP (.store 1 (tP 16) (tP 14))] (sO [mV 17 1,oP 18 (lS 17),mV 4 18,oP 5 (.mv (.const .nilIface))] .ret)))
theorem k102 : compF Tryz.prog Tryz.f102 = some (c102,[4,5]) := by kernel_rfl
theorem n102 : Tryz.f102.ntmps = 19 := by kernel_rfl
def c67_0 : AC := sO [oP 9 (bT .lss 8 7)] (.seq (cT 9 .skip (.exit 0)) (.seq (.block 1 (sO [oP 10 (iA 60 6 8),oP 11 (.load (some 60) (tP 10)),oP 5 (.alloc (zl .u8 60)),nP (.store 60 (tP 5) (tP 11))] (.ops [oP 12 (.slA 60 1 (tP 5) none none none),oP 13 (.call 102 [tP 3,tP 12])]))) (.ops [oP 14 (bK .add 8 1),mV 8 14])))
def c67 : AC := sO [oP 2 (.mv (.const (.string ⟨⟨[]⟩⟩)))] (sO [oP 3 (.allocT 183 [.pointer none,.slice none 0 0])] (.seq (sO [mV 6 0,oP 7 (lS 6),oP 8 (.mv (kI 0))] (.block 0 (.loop c67_0))) (sO [oP 15 (.call 103 [tP 3]),mV 2 15] .ret)))
theorem k67 : compF Tryz.prog Tryz.f67 = some (c67,[2]) := by kernel_rfl
theorem n67 : Tryz.f67.ntmps = 16 := by kernel_rfl
structure BwK (H : Heap) (x : Nat) (nm : Option Nat) (v : Value) (l : List UInt8) : Prop where
 cx : ∃ ad,H.cellsOf x = some ([ad,v],.exT BT,1) ∧ (ad = .pointer none ∨ ad = .pointer (some ⟨x,0,none⟩))
 la : (nm = none ∧ v = .slice none 0 0 ∧ l = []) ∨ ∃ u,nm = some u ∧ v = .slice (some ⟨u,0,none⟩) l.length l.length ∧ H.cellsOf u = some (ubs l,.loose 5,1)
 ne : nm ≠ some x
theorem BwK.lat {H : Heap} {x : Nat} {nm : Option Nat} {v : Value} {l : List UInt8} (k : BwK H x nm v l) : LAt H 1 nm v l.length (ubs l) := by
 rcases k.la with ⟨h1,h2,h3⟩ | ⟨u,h1,h2,h3⟩
 ·exact .inl ⟨h1,h2,by rw [h3]; rfl,by rw [h3]; rfl⟩
 ·exact .inr ⟨u,_,_,h1,h2,h3,by rw [ubs_len,Nat.mul_one],by simp,fun _ => rfl⟩
theorem bw_app {H : Heap} {nm : Option Nat} {v : Value} {l s : List UInt8} (la : (nm = none ∧ v = .slice none 0 0 ∧ l = []) ∨ ∃ u,nm = some u ∧ v = .slice (some ⟨u,0,none⟩) l.length l.length ∧ H.cellsOf u = some (ubs l,.loose 5,1)) (hs : 0 < s.length) (hsm : l.length + s.length ≤ 1000000) (hc : H.Closed) :
  ∃ a H2,v = .slice a l.length l.length ∧ aapp H 5 1 1 a l.length l.length (ubs s) s.length = some (.slice (some ⟨H.n,0,none⟩) (l.length + s.length) (l.length + s.length),H2) ∧ H2.cellsOf H.n = some (ubs (l ++ s),.loose 5,1) ∧ (∀ u ob,H.m u = some ob → nm ≠ some u → H2.m u = some ob) ∧ H2.n = H.n + 1 ∧ H2.Closed := by
 rcases la with ⟨rfl,rfl,rfl⟩ | ⟨u,rfl,rfl,hu⟩
 ·refine ⟨none,H.push (.cells (ubs s) (.loose 5) 1),rfl,?_,by simpa using cellsOf_new H (ubs s) (.loose 5) 1,fun u ob e _ => keep_push hc _ u ob e,rfl,closed_push hc ubs_bel⟩
  unfold aapp
  rw [if_pos ⟨by simp; omega,by rw [ubs_len,Nat.mul_one]⟩]
  simp [show s.length ≠ 0 by omega]
 ·have hg : (BMode.loose 5).grown 5 = .loose 5 := by decide
  refine ⟨some ⟨u,0,none⟩,(H.kill u).push (.cells (ubs l ++ ubs s) (.loose 5) 1),rfl,?_,?_,fun y ob e hn => ?_,rfl,closed_push (fun y ob e => ?_) (fun y hy => ?_)⟩
  ·have hcut : acut (ubs l) 0 (l.length * 1) = some (ubs l) := by rw [Nat.mul_one]; exact acut_full (ubs_len l)
   unfold aapp
   dsimp only
   rw [if_pos ⟨by omega,by rw [ubs_len,Nat.mul_one]⟩,hu]
   simp only [if_true]
   rw [hcut]
   simp only [BMode.isLoose,if_true]
   rw [if_neg (by omega),if_pos (by rw [ubs_len]; omega),hg]
  ·rw [ubs_app]; exact cellsOf_new (H.kill u) _ _ _
  ·have hy := (hc y ob e).1
   rw [push_m,kill_n,if_neg (by omega),kill_m,if_neg (fun q => hn (by rw [q]))]
   exact e
  ·rw [kill_m] at e
   split at e
   ·cases e
   ·exact hc y ob e
  ·rw [← ubs_app] at hy; exact ubs_bel y hy
theorem bwrite_ok (x : Nat) (nm : Option Nat) (v : Value) (l s : List UInt8) (hs : s ≠ []) (hsm : l.length + s.length ≤ 1000000) (pv : Value) (h : Heap) (k : BwK h x nm v l) (hp : ∀ o,SlB (h.set x o) pv s) :
  ACalls Tryz.prog 102 [.pointer (some ⟨x, 0, none⟩), pv] h fun r h' => ∃ nm' v', BwK h' x nm' v' (l ++ s) ∧ (∀ u ob, h.m u = some ob → u ≠ x → nm ≠ some u → h'.m u = some ob) ∧ h.n ≤ h'.n ∧ (∀ u, nm' = some u → h.n ≤ u) := by
 refine acalls_of mix Tryz.func102 k102 n102 (by simp) fun hcl hb => ?_
 obtain ⟨ad,cx,had⟩ := k.cx
 have bv := lat_bel hcl k.lat
 have bx := cellsOf_lt hcl cx
 have hpos : 0 < s.length := List.length_pos_iff.2 hs
 simp [c102]
 refine (copyCheck_ok x ad v h cx had bv).eqK ?_
 have hp1 := hp (.cells [.pointer (some ⟨x,0,none⟩),v] (.exT BT) 1)
 have c1 : (h.set x (.cells [.pointer (some ⟨x,0,none⟩),v] (.exT BT) 1)).Closed := closed_set hcl bx (fun y hy => by
  simp at hy
  rcases hy with rfl | rfl
  ·exact .ptr (by show x < h.n; omega)
  ·exact bv)
 have f1 := cells_setJ' h x [.pointer (some ⟨x,0,none⟩),v] (.exT BT) 1
 have l1 : (nm = none ∧ v = .slice none 0 0 ∧ l = []) ∨ ∃ u,nm = some u ∧ v = .slice (some ⟨u,0,none⟩) l.length l.length ∧ (h.set x (.cells [.pointer (some ⟨x,0,none⟩),v] (.exT BT) 1)).cellsOf u = some (ubs l,.loose 5,1) := by
  rcases k.la with q | ⟨u,h1,h2,h3⟩
  ·exact .inl q
  ·exact .inr ⟨u,h1,h2,by rw [cells_setJ _ (fun q => k.ne (by rw [h1,q]))]; exact h3⟩
 have m1 : ∀ u ob,h.m u = some ob → u ≠ x → (h.set x (.cells [.pointer (some ⟨x,0,none⟩),v] (.exT BT) 1)).m u = some ob := fun u ob e hu => by rw [set_m,if_neg hu]; exact e
 have n1 : (h.set x (.cells [.pointer (some ⟨x,0,none⟩),v] (.exT BT) 1)).n = h.n := rfl
 generalize h.set x (.cells [.pointer (some ⟨x,0,none⟩),v] (.exT BT) 1) = H1 at *
 have hfst := sl_firstJ hp1 hpos
 have hus : s.map eb = ubs s := rfl
 rw [hus] at hfst
 obtain ⟨a,H2,rfl,happ,l2,k2,n2,c2⟩ := bw_app (s := s) l1 hpos hsm c1
 obtain ⟨ap,cp,rfl⟩ := Sl.form hp1
 have f2 : H2.cellsOf x = some ([.pointer (some ⟨x,0,none⟩),.slice a l.length l.length],.exT BT,1) := by
  have := k2 x _ (m_of_cells f1) (fun q => k.ne (by rw [q]))
  unfold Heap.cellsOf; rw [this]
 have hpx : ∀ w z,aput [.pointer (some ⟨x,0,none⟩),z] 1 [w] = [.pointer (some ⟨x,0,none⟩),w] := fun w z => rfl
 have hmc : mcells (.slice (some ⟨H1.n,0,none⟩) (l.length + s.length) (l.length + s.length)) = some [.slice (some ⟨H1.n,0,none⟩) (l.length + s.length) (l.length + s.length)] := rfl
 simp [f1,apart,alen,hfst,happ,f2,hmc,hpx]
 refine ⟨some H1.n,⟨_,⟨⟨_,cells_setJ' _ _ _ _ _,.inr rfl⟩,?_,fun q => by have := Option.some.inj q; omega⟩⟩,fun u ob e hu hn => ?_,by rw [n2]; omega,fun u e => by have := Option.some.inj e; omega⟩
 ·exact .inr ⟨H1.n,rfl,by rw [List.length_append],by rw [cells_setJ _ (by omega)]; exact l2⟩
 ·rw [set_m,if_neg hu]
  exact k2 u ob (m1 u ob e hu) hn
theorem bwstr_ok (x : Nat) (nm : Option Nat) (v : Value) (l : List UInt8) (hl0 : l ≠ []) (hn6 : l.length ≤ 1000000) (h : Heap) (k : BwK h x nm v l) :
  ACalls Tryz.prog 103 [.pointer (some ⟨x,0,none⟩)] h fun v h' => v = .string (bs l) ∧ h'.n = h.n ∧ (∀ y,nm ≠ some y → h'.m y = h.m y) := by
 obtain ⟨⟨ad,hx,had⟩,la,ne⟩ := k
 have hlp : 0 < l.length := List.length_pos_iff.2 hl0
 rcases la with ⟨_,_,q⟩ | ⟨u,rfl,rfl,hb0⟩
 ·exact absurd q hl0
 refine acalls_of mix Tryz.func103 k103 n103 (by simp) fun hcl hb => ?_
 have hl1 : ¬ (l.length : Int) = 0 := by omega
 have hl2 : (l.length : Int) ≤ 9223372036854775807 := by omega
 have hl3 : ¬ l.length = 0 := by omega
 have hcut : acut (ubs l) 0 l.length = some (ubs l) := acut_full (ubs_len l)
 have hab : abytes (ubs l) = some l := abytes_ubs l
 have hbm : (⟨l.toArray⟩ : ByteArray) = bs l := bs_mk l
 obtain ⟨N,hN⟩ : ∃ N,l.length = N + 1 := ⟨l.length - 1,by omega⟩
 rw [hN] at hlp hl1 hl2 hl3 hcut hx
 generalize hU : ubs l = U at *
 simp [c103,hx,apart,hlp,hl1,hl2,hl0,hl3,hb0,hcut,hab,hbm,-Int.natCast_add]
 intro y hy
 rw [kill_m,if_neg (fun q => hy q.symm)]
structure JoS where
 i : Nat
 nm : Option Nat
 v : Value
 H : Heap
theorem tjoin_ok (v : Value) (L : List (List UInt8)) (hL0 : 0 < L.length) (hL : L.length ≤ 1000) (h : Heap) (hl : BlS h v L) :
  ACalls Tryz.prog 67 [v] h fun r h' => r = .string (bs L.flatten) ∧ h' = h := by
 refine ACalls.same .string (acalls_of mix Tryz.func67 k67 n67 (by simp) fun hcl hb => ?_)
 have bl := hl.below hcl
 have h60 := hl.1
 obtain ⟨a,cc,rfl⟩ := hl.form
 have c0 : (h.push (.cells [.pointer none,.slice none 0 0] (.exT BT) 1)).Closed := closed_push hcl (fun x hx => by
  simp at hx
  rcases hx with rfl | rfl
  ·exact .pnil
  ·exact .snil)
 have f0 := cellsOf_new h [.pointer none,.slice none 0 0] (.exT BT) 1
 have g0 : Gr h (h.push (.cells [.pointer none,.slice none 0 0] (.exT BT) 1)) := ⟨Nat.le_succ _,c0,keep_push hcl _⟩
 have n0 : (h.push (.cells [.pointer none,.slice none 0 0] (.exT BT) 1)).n = h.n + 1 := rfl
 have hBT : BT = 183 := rfl
 simp [c67,← hBT]
 generalize h.push (.cells [.pointer none,.slice none 0 0] (.exT BT) 1) = H0 at *
 refine awp_loop_of (α := JoS) (fun z => z.i ≤ L.length ∧ BwK z.H h.n z.nm z.v (L.take z.i).flatten ∧ (∀ u,z.nm = some u → h.n + 1 ≤ u) ∧ Gr h z.H ∧ h.n + 1 ≤ z.H.n) (fun z => [(3,.pointer (some ⟨h.n,0,none⟩)),(6,.slice a L.length cc),(7,.int .i64 L.length),(8,.int .i64 (z.i : Int))]) (fun z => z.H) (fun z => L.length - z.i) ⟨0,none,.slice none 0 0,H0⟩
  ⟨Nat.zero_le _,⟨⟨_,f0,.inl rfl⟩,.inl ⟨rfl,rfl,rfl⟩,by simp⟩,(fun _ e => by cases e),g0,by show h.n + 1 ≤ H0.n; omega⟩ ⟨g0.n,Nat.le_refl _,fun _ _ e => e,c0⟩ (by simp; exact ⟨.ptr (by show h.n < _; omega),bl.mono g0.n,.int,.int⟩) ?_
 rintro ⟨i,nm,v,H⟩ ⟨hi,kb,xn,gH,nH⟩
 dsimp only at hi kb xn gH nH ⊢
 have hfl : (L.take i).flatten.length = i * 60 := by rw [flat60_len (fun x hx => h60 x (List.mem_of_mem_take hx)),List.length_take]; congr 1; omega
 by_cases hlt : i < L.length
 ·have hi' : (i : Int) < (L.length : Int) := by omega
  have w4 := w64n (i := i) (by omega)
  obtain ⟨b1,o1,c1,m1,e1,rfl,_,hc1,hcut⟩ := (hl.keep gH.m).at hlt
  obtain ⟨X,hX⟩ : ∃ X,L[i] = X := ⟨_,rfl⟩
  have hx60 : X.length = 60 := by rw [← hX]; exact h60 _ (List.getElem_mem hlt)
  rw [hX] at hcut
  have f1 := cellsOf_new H (zl .u8 60) .ex 1
  have f2 := cellsOf_new H (ubs X) .ex 1
  have gX : Gr H (H.push (.cells (ubs X) .ex 1)) := (Gr.refl gH.cl).pushB _ _ _
  have hab : abounds 60 60 none none none = some (0,60,60) := rfl
  have k2 : BwK (H.push (.cells (ubs X) .ex 1)) h.n nm v (L.take i).flatten := by
   obtain ⟨ad,q1,q2⟩ := kb.cx
   refine ⟨⟨ad,cellsOf_keep gX.m q1,q2⟩,?_,kb.ne⟩
   rcases kb.la with q | ⟨u,q3,q4,q5⟩
   ·exact .inl q
   ·exact .inr ⟨u,q3,q4,cellsOf_keep gX.m q5⟩
  have hac2 : (.agg (ubs X).toArray : Value) = agB X := rfl
  simp [c67_0, hi', aidx_of hlt, hc1, apart, hcut, f1, hac2, m_agB, ubs_len, hx60, zl_len, put60 hx60, set_push, f2, hab]
  refine (bwrite_ok h.n nm v (L.take i).flatten X (by intro q; rw [q] at hx60; simp at hx60) (by omega) (.slice (some ⟨H.n,0,none⟩) 60 60) _ k2 (fun o => ?_)).mono' ?_
  ·refine .inr ⟨H.n,0,60,ubs X,.ex,1,by rw [hx60],?_,by omega,fun _ => by rw [ubs_len]; omega,fun j hj => by rw [Nat.zero_add]; exact ubs_get hj⟩
   rw [cells_setJ _ (by omega)]; exact f2
  rintro r H3 c3 _ ⟨nm3,v3,k3,m3,n3,x3⟩
  have hts : (L.take i).flatten ++ X = (L.take (i + 1)).flatten := by rw [List.take_succ_eq_append_getElem hlt,List.flatten_append,hX]; simp
  rw [hts] at k3
  have hnp : (H.push (.cells (ubs X) .ex 1)).n = H.n + 1 := rfl
  have g3 : Gr h H3 := ⟨by have := gH.n; omega,c3,fun u ob e => by
   have hu := (hcl u ob e).1
   exact m3 u ob (gX.m u ob (gH.m u ob e)) (by omega) (fun q => by have := xn u q; omega)⟩
  simp [w4,-Int.natCast_add]
  exact ⟨⟨i + 1,nm3,v3,H3⟩,by show L.length - (i + 1) < L.length - i; omega,⟨by show i + 1 ≤ L.length; omega,k3,fun u e => by have := x3 u e; omega,g3,by show h.n + 1 ≤ H3.n; omega⟩,⟨g3.n,Nat.le_refl _,fun _ _ e => e,c3⟩,.ptr (by show h.n < H3.n; omega),bl.mono g3.n,.int,rfl,.int⟩
 ·have hie : i = L.length := by omega
  subst hie
  rw [List.take_length] at kb hfl
  simp [c67_0]
  refine (bwstr_ok h.n nm v L.flatten (fun q => by rw [q] at hfl; simp at hfl; omega) (by omega) H kb).mono ?_
  rintro _ H4 ⟨rfl,n4,m4⟩
  simp
  refine ⟨by have := gH.n; omega,fun u ob e => ?_⟩
  rw [m4 u (fun q => by have := xn u q; have := (hcl u ob e).1; omega)]
  exact gH.m u ob e
def padT (t : List UInt8) : List UInt8 := t.take 60 ++ List.replicate (60 - t.length) 0
def splitT : List UInt8 → Nat → List (List UInt8)
 | _,0 => []
 | t,n + 1 => padT t :: splitT (t.drop 60) n
theorem padT_len (t : List UInt8) : (padT t).length = 60 := by unfold padT; simp; omega
theorem splitT_len : ∀ (t : List UInt8) (n : Nat),(splitT t n).length = n
 | _,0 => rfl
 | t,n + 1 => by show (splitT _ n).length + 1 = _; rw [splitT_len]
theorem splitT_60 : ∀ (t : List UInt8) (n : Nat),∀ x ∈ splitT t n,x.length = 60
 | _,0,x,hx => by cases hx
 | t,n + 1,x,hx => by
   rcases List.mem_cons.1 hx with rfl | hx
   ·exact padT_len t
   ·exact splitT_60 _ n x hx
def spK (t : List UInt8) (n i : Nat) : List (List UInt8) := splitT t i ++ List.replicate (n - i) (List.replicate 60 0)
def c97_0 : AC := sO [oP 14 (bT .lss 13 12)] (.seq (cT 14 .skip (.exit 0)) (.seq (.block 1 (sO [mV 15 13,mV 6 15] (.ops [mV 16 0,mV 17 5,mV 18 6,oP 19 (iA 60 17 18),oP 20 (.slA 60 1 (tP 19) none none none),mV 21 0,oP 22 (.copy 1 (tP 20) (tP 21)),oP 23 (.slS (tP 16) (some (tP 22)) none),mV 0 23]))) (.ops [oP 24 (bK .add 13 1),mV 13 24])))
def c97 : AC := sO [oP 4 (.mv (.const (.slice none 0 0)))] (sO [mV 7 1,oP 8 (.mx [tP 7,.const (.int .i64 0)]),oP 9 (.mn [tP 8,.const (.int .i64 64)]),oP 10 (.mkSl (zl .u8 60) 60 (tP 9) (tP 9)),mV 5 10] (.seq (sO [mV 11 5,oP 12 (lS 11),oP 13 (.mv (kI 0))] (.block 0 (.loop c97_0))) (sO [mV 25 5,mV 4 25] .ret)))
theorem k97 : compF Tryz.prog Tryz.f97 = some (c97,[4]) := by kernel_rfl
theorem n97 : Tryz.f97.ntmps = 26 := by kernel_rfl
theorem splitT_snoc : ∀ (t : List UInt8) (i : Nat),splitT t (i + 1) = splitT t i ++ [padT (t.drop (60 * i))]
 | t,0 => by simp [splitT]
 | t,i + 1 => by
   show padT t :: splitT (t.drop 60) (i + 1) = padT t :: splitT (t.drop 60) i ++ _
   rw [splitT_snoc (t.drop 60) i,List.drop_drop]
   have : 60 + 60 * i = 60 * (i + 1) := by omega
   rw [this]; rfl
theorem spK_60 (t : List UInt8) (n i : Nat) : ∀ x ∈ spK t n i,x.length = 60 := fun x hx => by
 unfold spK at hx
 rcases List.mem_append.1 hx with h | h
 ·exact splitT_60 t i x h
 ·rw [List.eq_of_mem_replicate h]; rfl
theorem spK_len (t : List UInt8) (n i : Nat) (hi : i ≤ n) : (spK t n i).length = n := by
 unfold spK
 rw [List.length_append,splitT_len,List.length_replicate]; omega
theorem zeros_flat (m : Nat) : (List.replicate m (List.replicate 60 (0 : UInt8))).flatten = List.replicate (m * 60) 0 := by
 induction m with
 | zero => rfl
 | succ m ih =>
   rw [List.replicate_succ,List.flatten_cons,ih,List.replicate_append_replicate]
   congr 1
   omega
theorem spK_step (t : List UInt8) (n i : Nat) (hi : i < n) : putB (spK t n i).flatten (i * 60) ((t.drop (60 * i)).take 60) = (spK t n (i + 1)).flatten := by
 unfold spK
 rw [List.flatten_append,List.flatten_append,zeros_flat,zeros_flat,splitT_snoc,List.flatten_append]
 have hA : (splitT t i).flatten.length = i * 60 := by rw [flat60_len (splitT_60 t i),splitT_len]
 obtain ⟨Y,hY⟩ : ∃ Y,t.drop (60 * i) = Y := ⟨_,rfl⟩
 rw [hY]
 unfold putB padT
 rw [List.take_append_of_le_length (by omega),List.take_of_length_le (by omega),List.drop_append,List.drop_of_length_le (by rw [hA]; simp),hA]
 simp only [List.flatten_cons,List.flatten_nil,List.append_nil,List.nil_append,List.append_assoc]
 congr 2
 rw [List.drop_replicate,List.replicate_append_replicate]
 congr 1
 rw [List.length_take]
 omega
theorem zl_flat : ∀ m,(List.replicate m (zl .u8 60)).flatten = ubs (List.replicate m (List.replicate 60 0)).flatten
 | 0 => rfl
 | m + 1 => by rw [List.replicate_succ,List.replicate_succ,List.flatten_cons,List.flatten_cons,ubs_app,zl_flat m,← ubs_rep]; rfl
theorem tsplit_ok (t : List UInt8) (ht : t.length ≤ 1000000) (n : Nat) (hn : n ≤ 64) (h : Heap) :
  ACalls Tryz.prog 97 [.string (bs t),.int .i64 (n : Int)] h fun r h' => r = .slice (some ⟨h.n,0,none⟩) n n ∧ h' = h.push (.cells (ubs (splitT t n).flatten) .ex 1) := by
 refine acalls_of mix Tryz.func97 k97 n97 (by simp) fun hcl hb => ?_
 have m1 : amax2 (.int .i64 (n : Int)) (.int .i64 0) = some (.int .i64 (n : Int)) := by
  unfold amax2
  have : max (n : Int) 0 = n := by omega
  simp [this]
 have m2 : amin2 (.int .i64 (n : Int)) (.int .i64 64) = some (.int .i64 (n : Int)) := by
  unfold amin2
  have : min (n : Int) 64 = n := by omega
  simp [this]
 have hwm : (n : Int) * 61 ≤ 1099511627776 := by omega
 have hz : (List.replicate n (zl .u8 60)).flatten = ubs (spK t n 0).flatten := by
  unfold spK
  rw [show splitT t 0 = [] from rfl,List.nil_append,Nat.sub_zero]
  exact zl_flat n
 simp [c97,afold,m1,m2,hwm,hz]
 obtain ⟨HA,hHA⟩ : ∃ HA : Nat → Heap,HA = fun q => h.push (.cells (ubs (spK t n q).flatten) .ex 1) := ⟨_,rfl⟩
 have hHc : ∀ q,(HA q).Closed := fun q => by rw [hHA]; exact closed_push hcl ubs_bel
 have hHn : ∀ q,(HA q).n = h.n + 1 := fun q => by rw [hHA]; rfl
 have hHx : ∀ q,(HA q).cellsOf h.n = some (ubs (spK t n q).flatten,.ex,1) := fun q => by rw [hHA]; exact cellsOf_new _ _ _ _
 have hH0 : h.push (.cells (ubs (spK t n 0).flatten) .ex 1) = HA 0 := by rw [hHA]
 rw [hH0]
 refine awp_loop_of (α := Nat) (fun q => q ≤ n) (fun q => [(0,.string (bs (t.drop (60 * q)))),(5,.slice (some ⟨h.n,0,none⟩) n n),(11,.slice (some ⟨h.n,0,none⟩) n n),(12,.int .i64 (n : Int)),(13,.int .i64 (q : Int))]) HA (fun q => n - q) 0
  (Nat.zero_le _) ⟨by rw [hHn]; omega,Nat.le_refl _,fun _ _ e => e,hHc 0⟩ (by simp [hHn]; exact ⟨.string,.slice (by show h.n < _; omega),.int,.int⟩) ?_
 intro q hq
 by_cases hlt : q < n
 ·have hi' : (q : Int) < (n : Int) := by omega
  have w4 := w64n (i := q) (by omega)
  have hab : abounds 60 60 none none none = some (0,60,60) := rfl
  have hsl := spK_len t n q hq
  have hfl := flat60_len (spK_60 t n q)
  have hst := spK_step t n q hlt
  have hdd : t.drop (60 * (q + 1)) = (t.drop (60 * q)).drop 60 := by rw [List.drop_drop]; congr 1
  obtain ⟨Y,hY⟩ : ∃ Y,t.drop (60 * q) = Y := ⟨_,rfl⟩
  rw [hY] at hst hdd ⊢
  have hYl : Y.length ≤ 1000000 := by rw [← hY,List.length_drop]; omega
  have hal : alen (.string (bs Y)) = some Y.length := by show some (bs Y).size = _; rw [bs_size]
  have hmt : Y.take (min Y.length 60) = Y.take 60 := by
   by_cases h6 : Y.length ≤ 60
   ·rw [Nat.min_eq_left h6,List.take_of_length_le (Nat.le_refl _),List.take_of_length_le h6]
   ·rw [Nat.min_eq_right (by omega)]
  have hfst : afirst (HA q) 1 (min Y.length 60) (.string (bs Y)) = some (ubs (Y.take 60)) := by
   show some ((((bs Y).data.toList).take (min Y.length 60)).map fun b : UInt8 => Value.int .u8 b.toNat) = _
   rw [bs_data,hmt]; rfl
  have hput : aput (ubs (spK t n q).flatten) (q * 60) (ubs (Y.take 60)) = ubs (spK t n (q + 1)).flatten := by rw [aput_ubs,hst]
  have hset : (HA q).set h.n (.cells (ubs (spK t n (q + 1)).flatten) .ex 1) = HA (q + 1) := by rw [hHA]; exact set_push _ _ _
  have hle : q * 60 + min 60 Y.length ≤ (spK t n q).flatten.length := by rw [hfl,hsl]; omega
  have hab2 : abounds Y.length Y.length (some (.int .i64 ((min Y.length 60 : Nat) : Int))) none none = some (min Y.length 60,Y.length,Y.length) := abounds_lo (by omega) (Nat.le_refl _)
  have hex : (bs Y).extract (min Y.length 60) Y.length = bs (Y.drop 60) := by
   rw [bs_extract,List.take_of_length_le (Nat.le_refl _)]
   congr 1
   by_cases h6 : Y.length ≤ 60
   ·rw [Nat.min_eq_left h6,List.drop_of_length_le (Nat.le_refl _),List.drop_of_length_le h6]
   ·rw [Nat.min_eq_right (by omega)]
  obtain ⟨mm,hmm⟩ : ∃ mm,min Y.length 60 = mm := ⟨_,rfl⟩
  rw [hmm] at hfst hab2 hex
  simp only [c97_0,s_seq,s_ops]
  simp [hi', aidx_of hlt, hHx, hab, hal, hmm, hfst, hput, hset, ubs_len, hle, bs_size, hab2, hex, w4, -Int.natCast_add, -List.length_flatten]
  exact ⟨q + 1,by omega,by omega,⟨by rw [hHn]; omega,Nat.le_refl _,fun _ _ e => e,hHc _⟩,⟨by rw [hdd],.string⟩,.slice (by show h.n < _; rw [hHn]; omega),.int,rfl,.int⟩
 ·have hqe : q = n := by omega
  subst hqe
  have hfin : spK t q q = splitT t q := by unfold spK; simp
  simp [c97_0]
  rw [hHA]
  dsimp only
  rw [hfin]
def c96 : AC := sO [oP 1 (.box (tP 0)),oP 2 (.mv (.const (.string ⟨⟨[]⟩⟩))),oP 3 (.mv (kI 0))] (.seq (sO [oP 8 (.load (some 36) (tP 1)),oP 9 (.call 127 [tP 8]),oP 10 (.un .not (tP 9))] (cT 10 (sO [oP 2 (.mv (.const (.string ⟨⟨[]⟩⟩))),oP 3 (.mv (kI 1))] .ret) .skip)) (sO [oP 12 (fA 0 1),oP 13 (.slA 3 1 (tP 12) none none none),oP 14 (.call 128 [.const (.int .i64 2),tP 13]),mV 11 14,oP 15 (xR 11 0),oP 16 (xR 11 1),mV 4 15,mV 5 16] (sO [oP 18 (fA 3 1),oP 19 (lN 18),oP 20 (.buildS 1 [.int .i64 0] [(0,1,.tmp 19)]),oP 21 (.call 128 [.const (.int .i64 4),tP 20]),mV 17 21,oP 22 (xR 17 0),oP 23 (xR 17 1),mV 6 22,mV 7 23] (sO [mV 24 4,oP 25 (.bin .add (.const (.string ⟨⟨[84,82,73,80]⟩⟩)) (tP 24)),mV 26 6,oP 27 (bT .add 25 26),oP 28 (fA 4 1),oP 29 (.slA 32 1 (tP 28) none none none),oP 30 (.toStr (tP 29)),oP 31 (bT .add 27 30),oP 32 (.bin .add (tP 31) (.const (.string ⟨⟨[0,0]⟩⟩))),mV 2 32,oP 3 (.mv (kI 0))] .ret))))
theorem k96 : compF Tryz.prog Tryz.f96 = some (c96,[2,3]) := by kernel_rfl
theorem n96 : Tryz.f96.ntmps = 33 := by kernel_rfl
def c68 : AC := sO [oP 2 (.alloc z36),oP 3 (.mv (kI 0))] (.seq (sO [mV 9 0,oP 10 (.lenS true (tP 9)),oP 11 (bK .lss 10 48)] (cT 11 (sO [oP 12 (.build z36 []),nP (.store 36 (tP 2) (tP 12)),oP 3 (.mv (kI 13))] .ret) .skip)) (sO [oP 4 (.alloc z36)] (sO [mV 14 0,oP 15 (.slS (tP 14) (some (kI 4)) none),oP 16 (.buildS 4 [.int .i64 0,.int .i64 0,.int .i64 0,.int .i64 0] [(0,1,.const (.int .i64 2)),(1,1,.const (.int .i64 2)),(2,1,.const (.int .i64 2)),(3,1,.const (.int .i64 4))]),oP 17 (.call 104 [tP 15,tP 16]),mV 13 17,oP 18 (xR 13 0),oP 19 (xR 13 1),mV 5 18,mV 6 19] (sO [oP 20 (fA 0 4),oP 21 (.slA 3 1 (tP 20) none none none),mV 22 5,oP 23 (.copy 1 (tP 21) (tP 22))] (sO [mV 24 5,oP 25 (.iAddrS 1 (tP 24) (kI 3)),oP 26 (lN 25),oP 27 (fA 3 4),nP (.store 1 (tP 27) (tP 26))] (.seq (.draw [([oP 28 (fA 4 4),oP 29 (.slA 32 1 (tP 28) none none none),mV 30 0,oP 31 (.slS (tP 30) (some (kI 14)) none)],[oP 32 (.copy 1 (tP 29) (tP 31))],[]),([],[],[])]) (.seq (sO [oP 34 (.load (some 36) (tP 4)),oP 35 (.call 96 [tP 34]),mV 33 35,oP 36 (xR 33 0),oP 37 (xR 33 1),mV 7 36,mV 8 37] (sO [mV 38 8,oP 39 (bK .neq 38 0),mV 40 39,gP 41 40 false (.mv (tP 7)),gP 42 40 false (.mv (tP 0)),gP 43 40 false (.slS (tP 42) none (some (kI 48))),gP 44 40 false (bT .neq 41 43),oP 45 (pT 40 44)] (cT 45 (sO [oP 46 (.build z36 []),nP (.store 36 (tP 2) (tP 46)),oP 3 (.mv (kI 6))] .ret) .skip))) (sO [oP 47 (.load (some 36) (tP 4)),nP (.store 36 (tP 2) (tP 47)),oP 3 (.mv (kI 0))] .ret))))))))
theorem k68 : compR Tryz.prog Tryz.f68 = some (c68,[.c 2 (some 36),.t 3]) := by kernel_rfl
theorem n68 : Tryz.f68.ntmps = 48 := by kernel_rfl
def c69 : AC := sO [oP 2 (.box (tP 0)),oP 4 (.mv kF)] (.seq (.draw [([oP 5 (fA 3 2),oP 6 (lN 5),mV 7 1,oP 8 (.lenS true (tP 7)),oP 9 (bT .eql 6 8),mV 10 9,gP 11 10 true (fA 4 2),gP 12 10 true (.load (some 32) (tP 11)),gP 13 10 true (.mv (tP 1))],[gP 14 10 true (.buildS 1 [.string ⟨⟨[]⟩⟩] [(0,1,.tmp 13)])],[gP 12 10 true (.load (some 32) (tP 11))]),([],[gP 15 10 true (.call 64 [tP 14])],[gP 12 10 true (.load (some 32) (tP 11))]),([gP 16 10 true (.eqa false (ckl 32) (tP 12) (tP 15)),oP 17 (pF 10 16),mV 4 17],[],[])]) .ret)
theorem k69 : compF Tryz.prog Tryz.f69 = some (c69,[4]) := by kernel_rfl
theorem n69 : Tryz.f69.ntmps = 18 := by kernel_rfl
theorem putStr (n : Nat) (l : List Int) (hf : ∀ k ∈ l,fits n k) : bytesOfInts (l.flatMap (beB n)) = bs (l.flatMap fun k => bN n k.toNat) := by
 unfold bytesOfInts bs
 congr 2
 rw [List.map_flatMap]
 induction l with
 | nil => rfl
 | cons k r ih =>
   rw [List.flatMap_cons,List.flatMap_cons,ih fun y hy => hf y (by simp [hy])]
   congr 1
   obtain ⟨x,rfl⟩ : ∃ x : Nat,k = x := ⟨k.toNat,by have := (hf k (by simp)).1; omega⟩
   rw [Int.toNat_natCast]
   exact beB_bN x n
theorem bytes_len (n : Nat) (l : List Int) : (l.flatMap fun k => bN n k.toNat).length = l.length * n := by
 induction l with
 | nil => simp
 | cons x r ih => rw [List.flatMap_cons,List.length_append,ih,bN_len,List.length_cons]; rw [Nat.add_mul]; omega
def putH (x : Hd) : List UInt8 := [84,82,73,80] ++ (x.vs.flatMap fun k => bN 2 k.toNat) ++ bN 4 x.n.toNat ++ x.hs ++ [0,0]
theorem sl_vs {H : Heap} {b : Nat} {x : Hd} {m : BMode} (hb : H.cellsOf b = some (hc x,m,1)) : Sl cI H (.slice (some ⟨b,0,none⟩) 3 3) x.vs :=
 .inr ⟨b,0,3,hc x,m,1,rfl,hb,Nat.le_refl _,fun _ => by simp [hc,Hd.vs],fun i hi => by
  rw [Nat.zero_add,hcj x i hi]
  rw [List.getD,List.getElem?_eq_getElem hi]; rfl⟩
theorem sl_1 (H : Heap) (n : Int) : Sl cI (H.push (.cells [.int .i64 n] .ex 1)) (.slice (some ⟨H.n,0,none⟩) 1 1) [n] :=
 .inr ⟨H.n,0,1,[.int .i64 n],.ex,1,rfl,cellsOf_new _ _ _ _,Nat.le_refl _,fun _ => by simp,fun i hi => by
  have : i = 0 := by simpa using hi
  subst this; rfl⟩
theorem fits2 {k : Int} (h : rng k) : fits 2 k := by
 obtain ⟨m,rfl⟩ : ∃ m : Nat,k = m := ⟨k.toNat,by have := h.1; omega⟩
 exact fits_lt.2 (by have := h.2; show m < 65536; omega)
theorem fits4 {k : Int} (h : 0 ≤ k ∧ k ≤ 16777215) : fits 4 k := by
 obtain ⟨m,rfl⟩ : ∃ m : Nat,k = m := ⟨k.toNat,by have := h.1; omega⟩
 exact fits_lt.2 (by have := h.2; show m < 4294967296; omega)
theorem vs_rng {x : Hd} (h : rightH x) : ∀ k ∈ x.vs,rng k := fun k hk => by
 obtain ⟨i,hi,rfl⟩ := List.mem_iff_getElem.1 hk
 have := h.1 i hi
 rw [List.getD,List.getElem?_eq_getElem hi] at this
 exact this
theorem out2 {x : Hd} (h : rightH x) : putOut 2 x.vs = .tuple #[.string (bs (x.vs.flatMap fun k => bN 2 k.toNat)),.int .i64 0] := by
 have hf : ∀ k ∈ x.vs,fits 2 k := fun k hk => fits2 (vs_rng h k hk)
 unfold putOut
 rw [if_neg (by omega)]
 have e : (2 : Int).toNat = 2 := rfl
 rw [e,if_pos hf,putStr 2 _ hf]
theorem out4 {x : Hd} (h : rightH x) : putOut 4 [x.n] = .tuple #[.string (bs (bN 4 x.n.toNat)),.int .i64 0] := by
 have hf : ∀ k ∈ [x.n],fits 4 k := fun k hk => by simp at hk; rw [hk]; exact fits4 h.2
 unfold putOut
 rw [if_neg (by omega)]
 have e : (4 : Int).toNat = 4 := rfl
 rw [e,if_pos hf,putStr 4 _ hf]
 simp
def putV (x : Hd) : Value := if rightH x then .tuple #[.string (bs (putH x)),.int .i64 0] else .tuple #[.string (bs []),.int .i64 1]
theorem putV_below {n : Nat} {x : Hd} : VBelow n (putV x) := by unfold putV; split <;> exact vb_tuple2 .string .int
theorem hput_ok (x : Hd) (hx : x.hs.length = 32) (h : Heap) : ACalls Tryz.prog 96 [hv x] h fun v h' => v = putV x ∧ h' = h := by
 refine ACalls.same putV_below (acalls_of mix Tryz.func96 k96 n96 (by simp) fun hcl hb => ?_)
 have hc1 : (h.push (.cells (hc x) .ex 1)).Closed := closed_push hcl hc_bel
 have hext := (Heap.Ext.refl h).push hcl (.cells (hc x) .ex 1)
 have hlen : (hc x).length = 36 := by simp [hc,ubs_len,hx]
 have c36 := acut_full hlen
 have c137 := hc_cut32 x hx
 have h32 : (ubs x.hs).length = 32 := by rw [ubs_len,hx]
 simp [c96,m_hv,cellsOf_new,cellsOf_at,apart,c36]
 have hag : Value.agg (hc x).toArray = hv x := rfl
 rw [hag]
 refine (hright_ok x _).mono ?_
 rintro _ h9 ⟨rfl,e⟩
 rw [e]
 clear e h9
 by_cases hR : rightH x
 case neg =>
  simp [aun,hR,putV]
  exact ⟨rfl,hext⟩
 have ab3 : abounds 3 3 none none none = some (0,3,3) := rfl
 have ab32 : abounds 32 32 none none none = some (0,32,32) := rfl
 simp [aun,hR,ab3]
 refine (put_ok 2 x.vs _ _ (sl_vs (cellsOf_new _ _ _ _)) (by simp [Hd.vs])).mono ?_
 rintro _ h9 ⟨rfl,e⟩
 rw [e]
 clear e h9
 rw [out2 hR]
 have fil : afill [.int .i64 0] [(0,1,.int .i64 x.n)] = some [.int .i64 x.n] := rfl
 have g3 := hc3 x
 simp [cellsOf_new,apart,g3,fil]
 refine (put_ok 4 [x.n] _ _ (sl_1 _ _) (by simp)).mono ?_
 rintro _ h9 ⟨rfl,e⟩
 rw [e]
 clear e h9
 rw [out4 hR]
 have hf : ∀ o,afirst ((h.push (.cells (hc x) .ex 1)).push o) 1 32 (.slice (some ⟨h.n,4,none⟩) 32 32) = some (ubs x.hs) := fun o => by
  simp [afirst,cellsOf_ne,cellsOf_new,c137]
 have l1 : (x.vs.flatMap fun k => bN 2 k.toNat).length = 6 := by rw [bytes_len]; rfl
 have l2 : (bN 4 x.n.toNat).length = 4 := bN_len _ _
 have hP : putV x = .tuple #[.string (bs (putH x)),.int .i64 0] := if_pos hR
 have hPd : putH x = [84,82,73,80] ++ (x.vs.flatMap fun k => bN 2 k.toNat) ++ bN 4 x.n.toNat ++ x.hs ++ [0,0] := rfl
 rw [hP,hPd]
 generalize (x.vs.flatMap fun k => bN 2 k.toNat) = L1 at *
 generalize bN 4 x.n.toNat = L2 at *
 simp [bs_lit,bs_append,bs_size,l1,l2,ab32,hf,abytes_ubs,bs_mk,hx]
 exact hext.push hcl _
theorem hcb (x : Hd) (j : Nat) (hj : j < 32) (hx : x.hs.length = 32) : (hc x)[4 + j]? = some (.int .u8 ((x.hs.getD j 0).toNat : Int)) := by
 unfold hc
 rw [List.getElem?_append_right (by simp),show 4 + j - ([Value.int .i64 x.a,.int .i64 x.b,.int .i64 x.c,.int .i64 x.n] : List Value).length = j by simp]
 unfold ubs
 rw [List.getElem?_map,List.getD,List.getElem?_eq_getElem (by omega)]
 rfl
def parseH (s : List UInt8) : Hd := ⟨(tkN ((s.drop 4).take 2) : Int),(tkN ((s.drop 6).take 2) : Int),(tkN ((s.drop 8).take 2) : Int),(tkN ((s.drop 10).take 4) : Int),(s.drop 14).take 32⟩
def getH (s : List UInt8) : Hd × Int := if s.length < 48 then (zH,13) else if rightH (parseH s) ∧ putH (parseH s) = s.take 48 then (parseH s,0) else (zH,6)
theorem take_head {s : List UInt8} (hs : ¬ s.length < 48) : takeR (s.drop 4) [2,2,2,4] = ([(parseH s).a,(parseH s).b,(parseH s).c,(parseH s).n],0) := by
 unfold takeR
 have e1 : bad [2,2,2,4] = false := by decide
 have e2 : sumN (nats [2,2,2,4]) = 10 := by decide
 have e3 : nats [2,2,2,4] = [2,2,2,4] := by decide
 rw [e1,e2,e3,List.length_drop]
 rw [if_neg (by decide),if_neg (by omega)]
 simp only [tkL,parseH,List.drop_drop]
theorem parse_len {s : List UInt8} (hs : ¬ s.length < 48) : (parseH s).hs.length = 32 := by
 show ((s.drop 14).take 32).length = 32
 rw [List.length_take,List.length_drop]
 omega
theorem fst4 {H : Heap} {v : Value} {a b c n : Int} (hl : Sl cI H v [a,b,c,n]) : afirst H 1 3 v = some [.int .i64 a,.int .i64 b,.int .i64 c] ∧ ∃ b1 o1 c1 m1 e1 cap,v = .slice (some ⟨b1,o1,none⟩) 4 cap ∧ H.cellsOf b1 = some (c1,m1,e1) ∧ c1[o1 + 3]? = some (.int .i64 n) ∧ c1[o1]? = some (.int .i64 a) ∧ c1[o1 + 1]? = some (.int .i64 b) ∧ c1[o1 + 2]? = some (.int .i64 c) := by
 rcases hl with ⟨c,_,h2⟩ | ⟨b1,o,cap,c1,m,e,rfl,hc,h1,h2,h3⟩
 ·cases h2
 ·have := h2 (by simp)
  have q0 := h3 0 (by simp)
  have q1 := h3 1 (by simp)
  have q2 := h3 2 (by simp)
  have q3 := h3 3 (by simp)
  simp at q0 q1 q2 q3 this
  refine ⟨?_,b1,o,c1,m,e,cap,rfl,hc,q3,q0,q1,q2⟩
  simp only [afirst,hc,if_true,Nat.mul_one]
  unfold acut
  rw [if_pos (by omega)]
  simp only [Option.some.injEq]
  refine List.ext_getElem? fun i => ?_
  rw [List.getElem?_take]
  split
  ·rename_i hi
   rw [List.getElem?_drop]
   rcases (show i = 0 ∨ i = 1 ∨ i = 2 by omega) with rfl | rfl | rfl
   ·rw [Nat.add_zero,q0]; rfl
   ·rw [q1]; rfl
   ·rw [q2]; rfl
  ·rw [List.getElem?_eq_none (by simp; omega)]
theorem z36_bel {n : Nat} : ∀ v ∈ z36,VBelow n v := fun v hv => by rw [z36_eq] at hv; exact hc_bel v hv
theorem z36_hi {i : Nat} {n : Int} (h : z36[i]? = some (.int .i64 n)) : i < 4 ∧ n = 0 := by
 unfold z36 at h
 by_cases hi : i < 4
 ·refine ⟨hi,?_⟩
  match i,hi with
  | 0,_ => simp at h; exact h.symm
  | 1,_ => simp at h; exact h.symm
  | 2,_ => simp at h; exact h.symm
  | 3,_ => simp at h; exact h.symm
 ·rw [List.getElem?_append_right (by simp; omega)] at h
  have : (Value.int .i64 n) ∈ zl .u8 32 := List.mem_of_getElem? h
  have := List.eq_of_mem_replicate this
  simp at this
theorem copy3 {a b c : Int} : aput z36 0 [.int .i64 a,.int .i64 b,.int .i64 c] = hc ⟨a,b,c,0,z32⟩ := by
 rw [z36_eq]
 rfl
theorem store3 {a b c n : Int} {l : List UInt8} : aput (hc ⟨a,b,c,0,l⟩) 3 [.int .i64 n] = hc ⟨a,b,c,n,l⟩ := rfl
theorem copy32 {a b c n : Int} {l l' : List UInt8} (h : l.length = 32) (h' : l'.length = 32) : aput (hc ⟨a,b,c,n,l⟩) 4 (ubs l') = hc ⟨a,b,c,n,l'⟩ := by
 unfold aput hc
 rw [ubs_len, h', List.drop_eq_nil_of_le (by simp [ubs_len, h]), List.append_nil]
 rfl
theorem strFirst2 (H : Heap) (U : List UInt8) (n : Nat) : afirst H 1 n (.string (bs U)) = some (ubs (U.take n)) := by
 simp [afirst,bs_data,ubs]
 rfl
theorem hget_ok (s : List UInt8) (hs40 : s.length ≤ 1000000) (h : Heap) : ACalls Tryz.prog 68 [.string (bs s)] h fun v h' => v = .tuple #[hv (getH s).1,.int .i64 (getH s).2] ∧ h' = h := by
 refine ACalls.same (vb_tuple2 hv_below .int) (acalls_ofR mix Tryz.func68 k68 n68 (by simp) fun hcl hb => ?_)
 have hlen : ∀ x : Hd,x.hs.length = 32 → (hc x).length = 36 := fun x hx => by simp [hc,ubs_len,hx]
 have hz := z36_len
 have hbsz := bs_size s
 have hZl : (hc zH).length = 36 := hlen zH z32_len
 have hpz : ∀ x : Hd,x.hs.length = 32 → aput z36 0 (hc x) = hc x := fun x hx => aput_all _ _ (by rw [hlen x hx,z36_len])
 have fil : afill z36 [] = some (hc zH) := by rw [← z36_eq]; rfl
 have hpZ := hpz zH z32_len
 have c36Z := acut_full hZl
 by_cases hsh : s.length < 48
 ·have hG : getH s = (zH,13) := if_pos hsh
  have hsh' : (s.length : Int) < 48 := by omega
  rw [hG]
  simp [c68, hbsz, hsh', fil, m_hc, hZl, hpZ, set_at, cellsOf_at, hz, apart, c36Z]
  exact ⟨rfl,(Heap.Ext.refl h).push hcl _⟩
 have hsh' : ¬ (s.length : Int) < 48 := by omega
 have abl : abounds s.length s.length (some (.int .i64 4)) none none = some (4,s.length,s.length) := abounds_lo (l := 4) (by omega) (Nat.le_refl _)
 have fil4 : afill [.int .i64 0,.int .i64 0,.int .i64 0,.int .i64 0] [(0,1,.int .i64 2),(1,1,.int .i64 2),(2,1,.int .i64 2),(3,1,.int .i64 4)] = some ([2,2,2,4].map cI) := rfl
 have hcZ1 : (h.push (.cells z36 .ex 1)).Closed := closed_push hcl z36_bel
 have hcZ2 : ((h.push (.cells z36 .ex 1)).push (.cells z36 .ex 1)).Closed := closed_push hcZ1 z36_bel
 have hdt : (s.take s.length).drop 4 = s.drop 4 := by rw [List.take_length]
 simp only [c68,s_seq,s_ops]
 simp [hbsz, hsh', abl, fil4, bs_extract, hdt]
 have f1 : ((h.push (.cells z36 .ex 1)).push (.cells z36 .ex 1)).cellsOf h.n = some (z36,.ex,1) := by rw [cellsOf_ne (by show ¬ h.n = h.n + 1; omega)]; exact cellsOf_new _ _ _ _
 have f2 : ((h.push (.cells z36 .ex 1)).push (.cells z36 .ex 1)).cellsOf (h.n + 1) = some (z36,.ex,1) := cellsOf_new _ _ _ _
 have hextZ := ((Heap.Ext.refl h).push hcl (.cells z36 .ex 1)).push hcl (.cells z36 .ex 1)
 have hZn : ((h.push (.cells z36 .ex 1)).push (.cells z36 .ex 1)).n = h.n + 1 + 1 := rfl
 generalize hZ : (h.push (.cells z36 .ex 1)).push (.cells z36 .ex 1) = Z at *
 have sl4 : Sl cI (Z.push (.cells ([2,2,2,4].map cI) .ex 1)) (.slice (some ⟨Z.n,0,none⟩) 4 4) [2,2,2,4] :=
  .inr ⟨Z.n,0,4,_,.ex,1,rfl,cellsOf_new _ _ _ _,Nat.le_refl _,fun _ => by simp,fun i hi => by
   rw [Nat.zero_add,List.getElem?_map,List.getElem?_eq_getElem hi]; rfl⟩
 rw [hZn] at sl4
 have hin0 : ∀ b ob,Z.m b = some ob → (Z.push (.cells ([2,2,2,4].map cI) .ex 1)).m b = some ob := fun b ob e => by rw [push_m,if_neg (by have := (hcZ2 b ob e).1; omega)]; exact e
 refine (take_ok (s.drop 4) [2,2,2,4] _ _ sl4 (by simp) (by rw [List.length_drop]; omega)).mono' ?_
 rintro _ H1 hcl1 bv1 ⟨⟨o,rfl,hlo⟩,hs1⟩
 rw [take_head hsh] at hlo ⊢
 have hps := parse_len hsh
 have hPe : parseH s = ⟨(parseH s).a,(parseH s).b,(parseH s).c,(parseH s).n,(parseH s).hs⟩ := rfl
 have hPh : (parseH s).hs = (s.drop 14).take 32 := rfl
 have hGd : getH s = if rightH (parseH s) ∧ putH (parseH s) = s.take 48 then (parseH s,0) else (zH,6) := if_neg hsh
 rw [hGd]
 generalize hPP : parseH s = P at *
 obtain ⟨hf3,b1,o1,cs1,m1,e1,cap1,rfl,hb1,q3,q0,q1,q2⟩ := fst4 hlo
 have hinZ : ∀ b ob,Z.m b = some ob → H1.m b = some ob := fun b ob e => hs1.sub b ob (hin0 b ob e)
 have g1 : H1.cellsOf h.n = some (z36,.ex,1) := cellsOf_keep hinZ f1
 have g2 : H1.cellsOf (h.n + 1) = some (z36,.ex,1) := cellsOf_keep hinZ f2
 have hn1 : h.n + 1 + 1 ≤ H1.n := by have := hs1.hi; have q : Z.n + 1 ≤ H1.n := this; omega
 have hb1' : ∃ cs' m' e', (H1.set (h.n + 1) (.cells (hc ⟨P.a, P.b, P.c, 0, z32⟩) .ex 1)).cellsOf b1 = some (cs', m', e') ∧ cs'[o1 + 3]? = some (.int .i64 P.n) := by
  by_cases hbb : b1 = h.n + 1
  ·subst hbb
   rw [g2] at hb1
   simp only [Option.some.injEq,Prod.mk.injEq] at hb1
   obtain ⟨rfl,rfl,rfl⟩ := hb1
   have r3 := z36_hi q3
   have r0 := z36_hi q0
   have r1 := z36_hi q1
   have r2 := z36_hi q2
   have ho : o1 = 0 := by omega
   refine ⟨_,_,_,cellsOf_set _ _ _ _ _,?_⟩
   rw [ho,r3.2]
   rfl
  ·exact ⟨cs1,m1,e1,by rw [cellsOf_set_ne hbb]; exact hb1,q3⟩
 obtain ⟨cs', m', e', hb1', q3'⟩ := hb1'
 have ab3 : abounds 3 3 none none none = some (0,3,3) := rfl
 have ab32 : abounds 32 32 none none none = some (0,32,32) := rfl
 have ab14 : abounds s.length s.length (some (.int .i64 14)) none none = some (14,s.length,s.length) := abounds_lo (l := 14) (by omega) (Nat.le_refl _)
 have i3 : aidx (.int .i64 3) 4 = some 3 := rfl
 have hl36 : ∀ l : List UInt8,l.length = 32 → ∀ a b c n,(hc ⟨a,b,c,n,l⟩).length = 36 := fun l hl a b c n => hlen _ hl
 have hr32 : z32.length = 32 := z32_len
 have hdt14 : (s.take s.length).drop 14 = s.drop 14 := by rw [List.take_length]
 have hmin : min (s.length - 14) 32 = 32 := by omega
 have hsf := strFirst2 (H1.set (h.n + 1) (.cells (hc ⟨P.a,P.b,P.c,P.n,z32⟩) .ex 1)) (s.drop 14) 32
 rw [← hPh] at hsf
 have hbs14 : (bs (s.drop 14)).size = s.length - 14 := by rw [bs_size,List.length_drop]
 have hub : (ubs P.hs).length = 32 := by rw [ubs_len,hps]
 have halen : alen (.slice (some ⟨b1,o1,none⟩) 4 cap1) = some 4 := rfl
 have halen2 : alen (.string (bs (s.drop 14))) = some (s.length - 14) := by rw [← hbs14]; rfl
 have hcp := copy32 (a := P.a) (b := P.b) (c := P.c) (n := P.n) hr32 hps
 rw [← hPe] at hcp
 simp [ab3, halen, hf3, g2, hz, copy3, hb1', apart, q3', mcells, i3, cellsOf_set, hl36 _ hr32, store3, set_set, ab14, hbsz, bs_extract, hdt14, halen2, hmin, ab32, hsf, hub, hcp]
 have hP36 : (hc P).length = 36 := hlen P hps
 have c36P := acut_full hP36
 have hpP := hpz P hps
 have hagP : Value.agg (hc P).toArray = hv P := rfl
 have hE1 : h.Ext H1 := ⟨by omega,fun b ob e => hinZ b ob (hextZ.m b ob e)⟩
 have hE : ∀ o o', h.Ext ((H1.set (h.n + 1) o).set h.n o') := fun o o' => Heap.Ext.setNew (Heap.Ext.setNew hE1 hcl (by omega) _) hcl (Nat.le_refl _) _
 have ab48 : abounds s.length s.length none (some (.int .i64 48)) none = some (0,48,s.length) := abounds_hi (k := 48) (by omega)
 have hne : ¬ h.n = h.n + 1 := by omega
 simp [c36P,hagP]
 refine (hput_ok P hps _).mono ?_
 rintro _ h9 ⟨rfl,e⟩
 rw [e]
 clear e h9
 by_cases hR : rightH P
 ·have hV : putV P = .tuple #[.string (bs (putH P)),.int .i64 0] := if_pos hR
  rw [hV]
  by_cases hEq : putH P = s.take 48
  ·have hd : decide (bs (putH P) = bs (s.take 48)) = true := decide_eq_true (by rw [hEq])
   simp [hR,hEq,ab48,hbsz,bs_extract,c36P,m_hc,hP36,g1,cellsOf_set_ne,hne,hz,hpP,cellsOf_set,apart]
   exact ⟨rfl,hE _ _⟩
  ·have hd : decide (bs (putH P) = bs (s.take 48)) = false := decide_eq_false (by rw [bs_inj]; exact hEq)
   simp [hR,hEq,ab48,hbsz,bs_extract,hd,bs_inj,fil,m_hc,hZl,g1,cellsOf_set_ne,hne,hz,hpZ,cellsOf_set,apart,c36Z]
   exact ⟨rfl,hE _ _⟩
 ·have hV : putV P = .tuple #[.string (bs []),.int .i64 1] := if_neg hR
  rw [hV]
  simp [hR,fil,m_hc,hZl,g1,cellsOf_set_ne,hne,hz,hpZ,cellsOf_set,apart,c36Z]
  exact ⟨rfl,hE _ _⟩
theorem ubs_eqL : ∀ a b : List UInt8,a.length = b.length → aeqL (ckl a.length) (ubs a) (ubs b) = some (decide (a = b))
 | [],[],_ => rfl
 | [],_ :: _,h => by simp at h
 | _ :: _,[],h => by simp at h
 | x :: a,y :: b,h => by
   have ih := ubs_eqL a b (by simpa using h)
   show (match aeqC .i (.int .u8 (x.toNat : Int)) (.int .u8 (y.toNat : Int)),aeqL (ckl a.length) (ubs a) (ubs b) with | some a,some b => some (a && b) | _,_ => none) = _
   rw [ih]
   have h1 : ((x.toNat : Int) = (y.toNat : Int)) ↔ x = y := ⟨fun q => UInt8.toNat_inj.1 (by omega),fun q => by rw [q]⟩
   simp only [aeqC,if_true,Option.some.injEq,h1]
   by_cases h2 : x = y <;> by_cases h3 : a = b <;> simp [h2,h3]
theorem eq_32 {a b : List UInt8} (ha : a.length = 32) (hb : b.length = 32) : aeqL (ckl 32) (ubs a) (ubs b) = some (decide (a = b)) := by
 have := ubs_eqL a b (by rw [ha,hb])
 rw [ha] at this; exact this
theorem cellsOf_at' {h : Heap} {c : List Value} {m : BMode} {e : Nat} : (h.push (.cells c m e)).cellsOf h.n = some (c,m,e) := cellsOf_new _ _ _ _
theorem matches_ok (x : Hd) (hx : x.hs.length = 32) (img : List UInt8) (hi : img.length ≤ 10000000) (h : Heap) : ACalls Tryz.prog 69 [hv x,.string (bs img)] h fun v h' => v = .bool (decide (x.n = img.length) && decide (x.hs = shaB img)) ∧ h' = h := by
 refine ACalls.same .bool (acalls_of mix Tryz.func69 k69 n69 (by simp) fun hcl hb => ?_)
 have hbsz := bs_size img
 have h3 := hc3 x
 have h32 := hc_cut32 x hx
 have fil : afill [.string (bs [])] [(0,1,.string (bs img))] = some [.string (bs img)] := rfl
 simp only [c69,s_seq,s_ops]
 by_cases hl : x.n = img.length
 ·simp [m_hv, cellsOf_at', apart, h3, hbsz, hl, h32, bs_lit, fil]
  have hb1 : ¬ h.n = h.n + 1 := by omega
  simp [cellsOf_ne, cellsOf_at', hb1, apart, h32]
  refine (sum_ok [img] _ _ (sl_str _ img) (by simp; omega) (by simp)).mono ?_
  rintro _ h9 ⟨rfl,e⟩
  rw [e]
  clear e h9
  have hf : [img].flatten = img := by simp
  rw [hf]
  have heq := eq_32 hx (shaB_len img)
  simp [cellsOf_ne, cellsOf_at', hb1, apart, h32, heq]
  exact ((Heap.Ext.refl h).push hcl _).push hcl _
 ·simp [m_hv, cellsOf_at', apart, h3, hbsz, hl]
  exact (Heap.Ext.refl h).push hcl _
def c12 : AC := sO [oP 1 (.box (tP 0)),oP 2 (.mv (kI 0))] (.seq (sO [oP 3 (.load (some 3) (tP 1)),oP 4 (.call 47 [tP 3]),oP 5 (.un .not (tP 4))] (cT 5 (sO [oP 2 (.mv (kI 0))] .ret) .skip)) (sO [oP 6 (fA 0 1),oP 7 (lN 6),oP 8 (.bin .mul (kI 60) (tP 7)),oP 9 (fA 2 1),oP 10 (lN 9),oP 11 (bT .mul 8 10),oP 12 (bK .sub 11 48),oP 13 (.mx [tP 12,.const (.int .i64 0)]),mV 2 13] .ret))
theorem k12 : compF Tryz.prog Tryz.f12 = some (c12,[2]) := by kernel_rfl
theorem n12 : Tryz.f12.ntmps = 14 := by kernel_rfl
def c62 : AC := sO [oP 3 (.box (tP 0)),oP 4 (.box (tP 1)),oP 6 (.mv (.const (.slice none 0 0))),oP 7 (.mv (kI 0))] (sO [oP 11 (.load (some 36) (tP 4)),oP 12 (.call 96 [tP 11]),mV 10 12,oP 13 (xR 10 0),oP 14 (xR 10 1),mV 8 13,mV 9 14] (.seq (.block 0 (sO [oP 16 (.load (some 3) (tP 3)),oP 17 (.call 47 [tP 16]),oP 18 (.un .not (tP 17)),mV 19 18,gP 20 19 false (.mv (tP 9)),gP 21 19 false (bK .neq 20 0),oP 22 (pT 19 21),mV 23 22,gP 24 23 false (fA 3 4),gP 25 23 false (lN 24),gP 26 23 false (.mv (tP 2)),gP 27 23 false (.lenS true (tP 26)),gP 28 23 false (bT .neq 25 27),oP 29 (pT 23 28),mV 15 29] (cT 15 (sO [oP 6 (.mv (.const (.slice none 0 0))),oP 7 (.mv (kI 1))] .ret) (sO [mV 31 2,oP 32 (.lenS true (tP 31)),oP 33 (.load (some 3) (tP 3)),oP 34 (.call 12 [tP 33]),oP 35 (bT .gtr 32 34),mV 30 35] (cT 30 (sO [oP 6 (.mv (.const (.slice none 0 0))),oP 7 (.mv (kI 12))] .ret) .skip))))) (sO [mV 36 8,mV 37 2,oP 38 (bT .add 36 37),oP 39 (fA 0 3),oP 40 (lN 39),oP 41 (fA 2 3),oP 42 (lN 41),oP 43 (bT .mul 40 42),oP 44 (.call 97 [tP 38,tP 43]),mV 6 44,oP 7 (.mv (kI 0))] .ret)))
theorem k62 : compF Tryz.prog Tryz.f62 = some (c62,[6,7]) := by kernel_rfl
theorem n62 : Tryz.f62.ntmps = 45 := by kernel_rfl
def roomF (d p s : Int) : Int := if right d p s then max (60 * (d * s) - 48) 0 else 0
theorem gvm (d p s : Int) : mcells (gv d p s) = some [.int .i64 d,.int .i64 p,.int .i64 s] := rfl
theorem gva (d p s : Int) : (.agg #[.int .i64 d,.int .i64 p,.int .i64 s] : Value) = gv d p s := rfl
theorem gvc (a b c : Value) : acut [a,b,c] 0 3 = some [a,b,c] := rfl
theorem groom_ok (d p s : Int) (h : Heap) : ACalls Tryz.prog 12 [gv d p s] h fun v h' => v = .int .i64 (roomF d p s) ∧ h' = h := by
 refine ACalls.same .int (acalls_of mix Tryz.func12 k12 n12 (by simp) fun hcl hb => ?_)
 have f1 := cellsOf_new h [.int .i64 d,.int .i64 p,.int .i64 s] .ex 1
 have e1 := (Heap.Ext.refl h).push hcl (.cells [.int .i64 d,.int .i64 p,.int .i64 s] .ex 1)
 simp [c12,gvm,f1,apart,gvc,gva]
 generalize h.push (.cells [.int .i64 d,.int .i64 p,.int .i64 s] .ex 1) = H1 at *
 refine (rightG_ok d p s H1).eqK ?_
 unfold roomF
 by_cases hr : right d p s = true
 ·obtain ⟨⟨hd1,hd8⟩,⟨hp2,hp6⟩,hs1,hs8⟩ := right_prop.1 hr
  have hb1 := mulb (a := d) (b := s) (m := 8) (n := 8) (by omega) hd8 (by omega) hs8
  have w1 : IntKind.i64.wrap (60 * d) = 60 * d := IntWalk.i64_in _ (by omega)
  have w2 : IntKind.i64.wrap (60 * d * s) = 60 * (d * s) := by rw [Int.mul_assoc,IntWalk.i64_in _ (by omega)]
  have w3 : IntKind.i64.wrap (60 * (d * s) - 48) = 60 * (d * s) - 48 := IntWalk.i64_in _ (by omega)
  have mx : amax2 (.int .i64 (60 * (d * s) - 48)) (.int .i64 0) = some (.int .i64 (max (60 * (d * s) - 48) 0)) := by unfold amax2; simp
  simp [hr,aun,f1,apart,w1,w2,w3,afold,mx]
  exact e1
 ·simp [hr,aun]
  exact e1
theorem putH_len {x : Hd} (hx : x.hs.length = 32) : (putH x).length = 48 := by
 unfold putH
 rw [List.length_append,List.length_append,List.length_append,List.length_append,bytes_len,bN_len,hx]
 rfl
def txE (d p s : Int) (x : Hd) (n : Nat) : Int := if right d p s = true ∧ rightH x ∧ x.n = n then (if roomF d p s < n then 12 else 0) else 1
def txL (d p s : Int) (x : Hd) (img : List UInt8) : List (List UInt8) := if txE d p s x img.length = 0 then splitT (putH x ++ img) (d * s).toNat else []
def NewK (h H : Heap) (v : Value) (L : List (List UInt8)) : Prop := (∀ x ∈ L,x.length = 60) ∧ (∃ nm,LAt H 60 nm v L.length (ubs L.flatten) ∧ ∀ x,nm = some x → h.n ≤ x) ∧ Gr h H
theorem atext_ok (d p s : Int) (x : Hd) (hx : x.hs.length = 32) (img : List UInt8) (hi : img.length ≤ 100000) (h : Heap) :
  ACalls Tryz.prog 62 [gv d p s,hv x,.string (bs img)] h fun r h' => ∃ v,r = .tuple #[v,.int .i64 (txE d p s x img.length)] ∧ NewK h h' v (txL d p s x img) := by
 refine acalls_of mix Tryz.func62 k62 n62 (by simp) fun hcl hb => ?_
 have hlen : (hc x).length = 36 := by simp [hc,ubs_len,hx]
 have c1 : (h.push (.cells [.int .i64 d,.int .i64 p,.int .i64 s] .ex 1)).Closed := closed_push hcl (fun x hx => by simp at hx; rcases hx with rfl | rfl | rfl <;> exact .int)
 have g1 : Gr h (h.push (.cells [.int .i64 d,.int .i64 p,.int .i64 s] .ex 1)) := ⟨Nat.le_succ _,c1,keep_push hcl _⟩
 have f1 := cellsOf_new h [.int .i64 d,.int .i64 p,.int .i64 s] .ex 1
 have n1 : (h.push (.cells [.int .i64 d,.int .i64 p,.int .i64 s] .ex 1)).n = h.n + 1 := rfl
 simp [c62,gvm,m_hv]
 generalize h.push (.cells [.int .i64 d,.int .i64 p,.int .i64 s] .ex 1) = H1 at *
 have c2 : (H1.push (.cells (hc x) .ex 1)).Closed := closed_push c1 hc_bel
 have g2 : Gr h (H1.push (.cells (hc x) .ex 1)) := g1.trans ⟨Nat.le_succ _,c2,keep_push c1 _⟩
 have f2 := cellsOf_keep (keep_push c1 (.cells (hc x) .ex 1)) f1
 have k2 := cellsOf_new H1 (hc x) .ex 1
 rw [n1] at k2
 generalize H1.push (.cells (hc x) .ex 1) = H2 at *
 have c36 := acut_full hlen
 have hva : (.agg (hc x).toArray : Value) = hv x := rfl
 have h3 := hc3 x
 simp [k2,apart,c36,hva]
 refine (hput_ok x hx H2).eqK ?_
 have fin : ∀ e : Int,e ≠ 0 → txE d p s x img.length = e → NewK h H2 (.slice none 0 0) (txL d p s x img) := fun e he q => by
  have : txL d p s x img = [] := by unfold txL; rw [if_neg (by rw [q]; exact he)]
  rw [this]
  exact ⟨(fun _ hx => by cases hx),⟨none,.inl ⟨rfl,rfl,rfl,rfl⟩,fun _ e => by cases e⟩,g2⟩
 unfold putV
 by_cases hR : rightH x
 ·simp only [hR,if_true]
  simp [f2,apart,gvc,gva]
  refine (rightG_ok d p s H2).eqK ?_
  by_cases hr : right d p s = true
  ·by_cases hn : x.n = img.length
   ·simp [hr,aun,k2,apart,h3,hn,bs_size,f2,gvc,gva]
    refine (groom_ok d p s H2).eqK ?_
    by_cases hlt : roomF d p s < (img.length : Int)
    ·have hE : txE d p s x img.length = 12 := by unfold txE; rw [if_pos ⟨hr,hR,hn⟩,if_pos hlt]
     rw [hE]
     simp [hlt]
     exact fin 12 (by decide) hE
    ·have hE : txE d p s x img.length = 0 := by unfold txE; rw [if_pos ⟨hr,hR,hn⟩,if_neg hlt]
     have hT : txL d p s x img = splitT (putH x ++ img) (d * s).toNat := by unfold txL; rw [if_pos hE]
     rw [hE,hT]
     obtain ⟨⟨hd1,hd8⟩,⟨hp2,hp6⟩,hs1,hs8⟩ := right_prop.1 hr
     have hb1 := mulb (a := d) (b := s) (m := 8) (n := 8) (by omega) hd8 (by omega) hs8
     have w1 : IntKind.i64.wrap (d * s) = (((d * s).toNat : Nat) : Int) := wI (by omega)
     have hpl : (putH x).length = 48 := putH_len hx
     have hz : (bs (putH x)).size + (bs img).size ≤ 9223372036854775807 := by rw [bs_size,bs_size]; omega
     have hz2 : (putH x).length + img.length ≤ 9223372036854775807 := by omega
     obtain ⟨N,hN⟩ : ∃ N,(d * s).toNat = N := ⟨_,rfl⟩
     have hN64 : N ≤ 64 := by omega
     rw [hN] at w1 ⊢
     simp [hlt,hz,hz2,bs_size,bs_append,f2,apart,w1]
     refine (tsplit_ok (putH x ++ img) (by rw [List.length_append]; omega) N hN64 H2).eqK ?_
     simp
     have h60 := splitT_60 (putH x ++ img) N
     have c3 : (H2.push (.cells (ubs (splitT (putH x ++ img) N).flatten) .ex 1)).Closed := closed_push g2.cl ubs_bel
     refine ⟨h60,⟨some H2.n,.inr ⟨H2.n,.ex,1,rfl,by rw [splitT_len],cellsOf_new _ _ _ _,by rw [ubs_len,flat60_len h60],by simp,fun q => by simp [BMode.isLoose] at q⟩,fun x e => by have := Option.some.inj e; have := g2.n; omega⟩,g2.trans ⟨Nat.le_succ _,c3,keep_push g2.cl _⟩⟩
   ·have hE : txE d p s x img.length = 1 := by unfold txE; rw [if_neg (fun q => hn q.2.2)]
    rw [hE]
    simp [hr,aun,k2,apart,h3,hn,bs_size]
    exact fin 1 (by decide) hE
  ·have hE : txE d p s x img.length = 1 := by unfold txE; rw [if_neg (fun q => hr q.1)]
   rw [hE]
   simp [hr,aun]
   exact fin 1 (by decide) hE
 ·have hE : txE d p s x img.length = 1 := by unfold txE; rw [if_neg (fun q => hR q.2.1)]
  rw [hE]
  simp only [hR,if_false]
  simp [f2,apart,gvc,gva]
  refine (rightG_ok d p s H2).eqK ?_
  cases hr : right d p s
  ·simp [aun]
   exact fin 1 (by decide) hE
  ·simp [aun]
   exact fin 1 (by decide) hE
def c26_0 : AC := sO [oP 39 (bT .lss 38 37)] (.seq (cT 39 .skip (.exit 0)) (.seq (.block 1 (sO [mV 40 38,mV 12 40] (.seq (sO [mV 41 0,mV 42 1,mV 43 12,mV 44 10,mV 45 0,oP 46 (nC 45),oP 47 (fA 2 46),oP 48 (fA 0 47),oP 49 (lN 48),oP 50 (.slV 60 (tP 44) none (some (tP 49)) none),oP 51 (.call 63 [tP 41,tP 42,tP 43,tP 50]),mV 13 51] (sO [mV 52 13,oP 53 (bK .neq 52 0)] (cT 53 (sO [mV 54 13,mV 8 54] .ret) .skip))) (.ops [mV 55 10,mV 56 0,oP 57 (nC 56),oP 58 (fA 2 57),oP 59 (fA 0 58),oP 60 (lN 59),oP 61 (.slV 60 (tP 55) (some (tP 60)) none none),mV 10 61])))) (.ops [oP 62 (bK .add 38 1),mV 38 62])))
def c26 : AC := sO [oP 6 (.box (tP 2)),oP 8 (.mv (kI 0))] (.seq (sO [mV 14 0,mV 15 1,oP 16 (.call 61 [tP 14,tP 15,.const (.int .i64 0)]),mV 9 16] (sO [mV 17 9,oP 18 (bK .neq 17 0)] (cT 18 (sO [mV 19 9,mV 8 19] .ret) .skip))) (.seq (.draw [([mV 21 0,oP 22 (nC 21),oP 23 (fA 2 22),oP 24 (.load (some 3) (tP 23)),oP 25 (.load (some 36) (tP 6)),mV 26 3],[oP 27 (.call 62 [tP 24,tP 25,tP 26])],[]),([mV 20 27,oP 28 (xR 20 0),oP 29 (xR 20 1),mV 10 28,mV 11 29],[],[])]) (.seq (sO [mV 30 11,oP 31 (bK .neq 30 0)] (cT 31 (sO [mV 32 11,mV 8 32] .ret) .skip)) (.seq (sO [mV 33 0,oP 34 (nC 33),oP 35 (fA 2 34),oP 36 (fA 2 35),oP 37 (lN 36),oP 38 (.mv (kI 0))] (.block 0 (.loop c26_0))) (sO [oP 8 (.mv (kI 0))] .ret)))))
theorem k26 : compF Tryz.prog Tryz.f26 = some (c26,[8]) := by kernel_rfl
theorem n26 : Tryz.f26.ntmps = 63 := by kernel_rfl
structure Filled (A : ArB) (V V' : DevS) (a : Nat) (T : List (List UInt8)) (j : Nat) : Prop where
 lk : V'.lock = V.lock
 at' : ∀ k i,k < j → i < A.D + A.P → secF V' (secN A.D A.P A.S a k i) = (secs A ((T.drop (k * A.D)).take A.D))[i]!
 no : ∀ m,m < V.lock.length → (∀ k i,k < j → i < A.D + A.P → m ≠ secN A.D A.P A.S a k i) → secF V' m = secF V m
theorem secN_inj2 {D P S a k k' i i' : Nat} (hk : k < S) (hk' : k' < S) (h : secN D P S a k i = secN D P S a k' i') : k = k' ∧ i = i' := by
 unfold secN at h
 have h1 : i * S + k = i' * S + k' := by omega
 have e1 : (i * S + k) % S = k := by rw [Nat.mul_comm i S,Nat.mul_add_mod,Nat.mod_eq_of_lt hk]
 have e2 : (i' * S + k') % S = k' := by rw [Nat.mul_comm i' S,Nat.mul_add_mod,Nat.mod_eq_of_lt hk']
 have hkk : k = k' := by
  have q : (i * S + k) % S = (i' * S + k') % S := by rw [h1]
  rw [e1,e2] at q; exact q
 subst hkk
 exact ⟨rfl,Nat.eq_of_mul_eq_mul_right (show 0 < S by omega) (show i * S = i' * S by omega)⟩
theorem Filled.zero (A : ArB) (V : DevS) (a : Nat) (T : List (List UInt8)) : Filled A V V a T 0 := ⟨rfl,fun k i hk => by omega,fun _ _ _ => rfl⟩
theorem Filled.succ {A : ArB} {V V1 V2 : DevS} {a j : Nat} {T : List (List UInt8)} (hj : j < A.S) (hlt : ∀ k i,k < A.S → i < A.D + A.P → secN A.D A.P A.S a k i < V.lock.length) (w : Filled A V V1 a T j) (l : Wrote A V1 V2 a j (secs A ((T.drop (j * A.D)).take A.D)) (A.D + A.P)) : Filled A V V2 a T (j + 1) := by
 refine ⟨l.lk.trans w.lk,fun k i hk hi => ?_,fun m hm h => ?_⟩
 ·by_cases q : k = j
  ·subst q; exact l.at' i hi
  ·rw [l.no _ (by rw [w.lk]; exact hlt k i (by omega) hi) (fun i' _ e => q (secN_inj2 (by omega) hj e).1)]
   exact w.at' k i (by omega) hi
 ·rw [l.no m (by rw [w.lk]; exact hm) (fun i hi => h j i (by omega) hi)]
  exact w.no m hm fun k i hk hi => h k i (by omega) hi
theorem fill_ok (A : ArB) (V : DevS) (a : Nat) (ha : a ≤ 2) (x : Hd) (hx : x.hs.length = 32) (img : List UInt8) (hi : img.length ≤ 100000) (hE : txE A.D A.P A.S x img.length = 0) (h : Heap) (K : ArK h A V) (hlk : ∀ k i,k < A.S → i < A.D + A.P → V.lock[secN A.D A.P A.S a k i]! = false) :
  ACalls Tryz.prog 26 [.pointer (some ⟨A.a, 0, none⟩), .int .i64 (a : Int), hv x, .string (bs img)] h fun r h' => r = .int .i64 0 ∧ ∃ V', ArK h' A V' ∧ Filled A V V' a (txL A.D A.P A.S x img) A.S ∧ ArX A h h' := by
 refine acalls_of mix Tryz.func26 k26 n26 (by simp) fun hcl hb => ?_
 obtain ⟨⟨hd1,hd8⟩,⟨hp2,hp6⟩,hn1,hn8⟩ := right_prop.1 K.rt
 have hlen : (hc x).length = 36 := by simp [hc,ubs_len,hx]
 have c36 := acut_full hlen
 have hva : (.agg (hc x).toArray : Value) = hv x := rfl
 have hba := cellsOf_lt hcl K.ca
 obtain ⟨l1,l2,l3,l4,l5⟩ := K.lo
 have hsz := K.sz
 have c1 : (h.push (.cells (hc x) .ex 1)).Closed := closed_push hcl hc_bel
 have g1 : Gr h (h.push (.cells (hc x) .ex 1)) := ⟨Nat.le_succ _,c1,keep_push hcl _⟩
 have f1 := cellsOf_new h (hc x) .ex 1
 have n1 : (h.push (.cells (hc x) .ex 1)).n = h.n + 1 := rfl
 simp [c26,m_hv]
 generalize h.push (.cells (hc x) .ex 1) = H1 at *
 have K1 := K.keep g1
 have t0 := there_ok A V a 0 H1 K1
 rw [show thereF A.S a 0 = true from thereF_in (k := 0) ha (by omega)] at t0
 refine t0.eqK ?_
 have ca1 := K1.ca
 simp [ca1,apart,acut_area,gva,f1,c36,hva]
 refine (atext_ok A.D A.P A.S x hx img hi H1).mono' ?_
 rintro _ H2 c2 _ ⟨v,rfl,n2⟩
 rw [hE]
 have g2 := n2.2.2
 have g12 := g1.trans g2
 have K2 := K.keep g12
 have ca2 := K2.ca
 have hTl : (txL A.D A.P A.S x img).length = A.D * A.S := by
  unfold txL
  rw [if_pos hE,splitT_len]
  have : ((A.D : Int) * A.S) = ((A.D * A.S : Nat) : Int) := by push_cast; rfl
  rw [this]; rfl
 obtain ⟨h60,⟨nm,lT,xT⟩,_⟩ := n2
 obtain ⟨T,hT⟩ : ∃ T,txL A.D A.P A.S x img = T := ⟨_,rfl⟩
 rw [hT] at hTl h60 lT ⊢
 have hDS : 1 ≤ A.D * A.S := Nat.mul_pos (by omega) (by omega)
 obtain ⟨u,md,es,rfl,rfl,hu,hul,hro,hes⟩ : ∃ u md e,nm = some u ∧ v = .slice (some ⟨u,0,none⟩) T.length T.length ∧ H2.cellsOf u = some (ubs T.flatten,md,e) ∧ (ubs T.flatten).length = T.length * 60 ∧ md ≠ .ro ∧ (md.isLoose = true → e = 60) := by
  rcases lT with ⟨_,_,q,_⟩ | q
  ·omega
  ·exact q
 have hun : h.n + 1 ≤ u := by have := xT u rfl; rw [n1] at this; omega
 have bu := cellsOf_lt c2 hu
 have g2n := g12.n
 simp [ca2,apart]
 have hall : ∀ k i,k < A.S → i < A.D + A.P → secN A.D A.P A.S a k i < V.lock.length := fun k i hk hi => by have := (secN_lt K.rt ha hk hi).1; omega
 have hTD : T.length ≤ 64 := by
  have : A.D * A.S ≤ 8 * 8 := Nat.mul_le_mul (by omega) (by omega)
  omega
 have hsl0 : (.slice (some ⟨u,0,none⟩) T.length T.length : Value) = .slice (some ⟨u,0 * A.D * 60,none⟩) (T.length - 0 * A.D) (T.length - 0 * A.D) := by simp
 rw [hsl0]
 refine awp_loop_of (α := LaS) (fun z => z.j ≤ A.S ∧ ArK z.H A z.V ∧ Filled A V z.V a T z.j ∧ z.H.cellsOf u = some (ubs T.flatten,md,es) ∧ ArX A h z.H ∧ h.n + 1 ≤ z.H.n) (fun z => [(0,.pointer (some ⟨A.a,0,none⟩)),(1,.int .i64 (a : Int)),(10,.slice (some ⟨u,z.j * A.D * 60,none⟩) (T.length - z.j * A.D) (T.length - z.j * A.D)),(37,.int .i64 (A.S : Int)),(38,.int .i64 (z.j : Int))]) (fun z => z.H) (fun z => A.S - z.j) ⟨0,V,H2⟩
  ⟨Nat.zero_le _,K2,Filled.zero A V a T,hu,Xd.of g12,by show h.n + 1 ≤ H2.n; omega⟩ ⟨g2n,Nat.le_refl _,fun _ _ e => e,c2⟩ (by simp; exact ⟨.ptr (by show A.a < _; omega),.int,.slice bu,.int,.int⟩) ?_
 rintro ⟨j,V2,H⟩ ⟨hj,K3,w3,u3,g3,n3⟩
 dsimp only at hj K3 w3 u3 g3 n3 ⊢
 have ca3 := K3.ca
 by_cases hlt : j < A.S
 ·have hi' : (j : Int) < (A.S : Int) := by omega
  have w4 := w64n (i := j) (by omega)
  have hjD : (j + 1) * A.D ≤ T.length := by rw [hTl,Nat.mul_comm A.D]; exact Nat.mul_le_mul_right _ hlt
  have hjD2 : (j + 1) * A.D = j * A.D + A.D := by rw [Nat.add_mul,Nat.one_mul]
  obtain ⟨N,hN⟩ : ∃ N,T.length - j * A.D = N := ⟨_,rfl⟩
  have hND : A.D ≤ N := by omega
  have hab : abounds N N none (some (.int .i64 (A.D : Int))) none = some (0,A.D,N) := abounds_hi hND
  have hab2 : abounds N N (some (.int .i64 (A.D : Int))) none none = some (A.D,N,N) := abounds_lo hND (Nat.le_refl _)
  have hml : (md.isLoose = true → es = 60) = True := eq_true hes
  obtain ⟨B,hB⟩ : ∃ B,(T.drop (j * A.D)).take A.D = B := ⟨_,rfl⟩
  have hBl : B.length = A.D := by rw [← hB,List.length_take,List.length_drop]; omega
  have hBg : ∀ i (hi : i < B.length),T[j * A.D + i]? = some B[i] := fun i hi => by
   subst hB
   rw [List.getElem_take,List.getElem_drop,List.getElem?_eq_getElem]
  have hbl : ∀ H : Heap,H.cellsOf u = some (ubs T.flatten,md,es) → ∀ cp,BlS H (.slice (some ⟨u,j * A.D * 60,none⟩) A.D cp) B := fun H hH cp => by
   refine ⟨fun y hy => h60 y ?_,.inr ⟨u,j * A.D * 60,cp,_,_,_,by rw [hBl],hH,fun i hi => ?_⟩⟩
   ·rw [← hB] at hy
    exact List.mem_of_mem_drop (List.mem_of_mem_take hy)
   ·have hti : j * A.D + i < T.length := by rw [hBl] at hi; omega
    have := flat_cut h60 (j * A.D + i) hti
    rw [← Nat.add_mul,this]
    congr 2
    have q := hBg i hi
    rw [List.getElem?_eq_getElem hti] at q
    exact Option.some.inj q
  rw [hN]
  simp [c26_0, hi', ca3, apart, hab, u3, hml, -Int.natCast_add]
  refine (awrite_ok A V2 a j ha hlt B hBl _ H K3 (hbl H u3 N) (fun i hi => by rw [w3.lk]; exact hlk j i hlt hi)).mono' ?_
  rintro _ H4 c4 _ ⟨rfl, V4, K4, w4', g4⟩
  rw [← hB] at w4'
  have w5 := w3.succ hlt hall w4'
  have ca4 := K4.ca
  have u4 : H4.cellsOf u = some (ubs T.flatten,md,es) := by
   have := g4.m u _ (m_of_cells u3) (by omega) (by omega) (by omega) (by omega)
   unfold Heap.cellsOf; rw [this]
  have g34 := Xd.trans g3 g4
  have bu4 := cellsOf_lt c4 u4
  have n4 := g4.n
  simp [ca4,apart,hab2,u4,hml,w4,-Int.natCast_add]
  refine ⟨⟨j + 1,V4,H4⟩,by show A.S - (j + 1) < A.S - j; omega,⟨by show j + 1 ≤ A.S; omega,K4,w5,u4,g34,by show h.n + 1 ≤ H4.n; omega⟩,⟨g34.n,Nat.le_refl _,fun _ _ e => e,c4⟩,.ptr (by show A.a < H4.n; omega),.int,?_,.int,rfl,.int⟩
  have e1 : T.length - (j + 1) * A.D = N - A.D := by omega
  have e2 : j * A.D * 60 + A.D * 60 = (j + 1) * A.D * 60 := by rw [hjD2,Nat.add_mul]
  exact ⟨by simp [e1,e2],.slice bu4⟩
 ·have hje : j = A.S := by omega
  subst hje
  simp [c26_0]
  exact ⟨V2,K3,w3,g3⟩
def c29_0 : AC := sO [oP 30 (bT .lss 29 28)] (.seq (cT 30 .skip (.exit 0)) (.seq (.block 1 (sO [mV 31 29,mV 11 31] (sO [mV 33 0,mV 34 1,mV 35 11,oP 36 (.call 30 [tP 33,tP 34,tP 35]),mV 32 36,oP 37 (xR 32 0),oP 38 (xR 32 1),oP 12 (.alloc [.slice none 0 0,.slice none 0 0]),nP (.store 2 (tP 12) (tP 37)),mV 13 38] (.seq (sO [mV 39 13,oP 40 (bK .neq 39 0)] (cT 40 (sO [oP 41 (.build z36 []),mV 42 13,nP (.store 36 (tP 4) (tP 41)),oP 5 (.mv (.const (.string ⟨⟨[]⟩⟩))),oP 6 (.mv (kI 0)),mV 7 42] .ret) .skip)) (.seq (.draw [([mV 43 9,oP 44 (fA 0 12),oP 45 (lN 44),mV 46 0,oP 47 (nC 46),oP 48 (fA 2 47),oP 49 (fA 0 48),oP 50 (lN 49),oP 51 (.slV 60 (tP 45) none (some (tP 50)) none)],[oP 52 (.call 67 [tP 51])],[]),([oP 53 (bT .add 43 52)],[mV 9 53],[]),([],[],[])]) (.ops [mV 54 10,oP 55 (fA 1 12),oP 56 (lN 55),oP 57 (lS 56),oP 58 (bT .add 54 57),mV 10 58])))))) (.ops [oP 59 (bK .add 29 1),mV 29 59])))
def c29 : AC := sO [oP 4 (.alloc z36),oP 5 (.mv (.const (.string ⟨⟨[]⟩⟩))),oP 6 (.mv (kI 0)),oP 7 (.mv (kI 0))] (.seq (sO [mV 17 0,mV 18 1,oP 19 (.call 61 [tP 17,tP 18,.const (.int .i64 0)]),mV 8 19] (sO [mV 20 8,oP 21 (bK .neq 20 0)] (cT 21 (sO [oP 22 (.build z36 []),mV 23 8,nP (.store 36 (tP 4) (tP 22)),oP 5 (.mv (.const (.string ⟨⟨[]⟩⟩))),oP 6 (.mv (kI 0)),mV 7 23] .ret) .skip))) (sO [oP 9 (.mv (.const (.string ⟨⟨[]⟩⟩))),oP 10 (.mv (kI 0))] (.seq (sO [mV 24 0,oP 25 (nC 24),oP 26 (fA 2 25),oP 27 (fA 2 26),oP 28 (lN 27),oP 29 (.mv (kI 0))] (.block 0 (.loop c29_0))) (sO [mV 61 9,oP 62 (.call 68 [tP 61]),mV 60 62,oP 63 (xR 60 0),oP 64 (xR 60 1),oP 14 (.alloc z36),nP (.store 36 (tP 14) (tP 63)),mV 15 64] (.seq (.block 2 (sO [mV 66 15,oP 67 (bK .neq 66 0),mV 65 67] (cT 65 (sO [oP 68 (.build z36 []),mV 69 15,nP (.store 36 (tP 4) (tP 68)),oP 5 (.mv (.const (.string ⟨⟨[]⟩⟩))),oP 6 (.mv (kI 0)),mV 7 69] .ret) (.seq (.draw [([oP 71 (fA 3 14),oP 72 (lN 71),mV 73 0,oP 74 (nC 73),oP 75 (fA 2 74),oP 76 (.load (some 3) (tP 75))],[oP 77 (.call 12 [tP 76])],[oP 72 (lN 71)]),([oP 78 (bT .gtr 72 77),mV 70 78],[],[])]) (cT 70 (sO [oP 79 (.build z36 []),nP (.store 36 (tP 4) (tP 79)),oP 5 (.mv (.const (.string ⟨⟨[]⟩⟩))),oP 6 (.mv (kI 0)),oP 7 (.mv (kI 12))] .ret) .skip))))) (sO [mV 80 9,oP 81 (fA 3 14),oP 82 (lN 81),oP 83 (.bin .add (kI 48) (tP 82)),oP 84 (.slS (tP 80) (some (kI 48)) (some (tP 83))),mV 16 84] (.seq (sO [oP 85 (.load (some 36) (tP 14)),mV 86 16,oP 87 (.call 69 [tP 85,tP 86]),oP 88 (.un .not (tP 87))] (cT 88 (sO [oP 89 (.build z36 []),nP (.store 36 (tP 4) (tP 89)),oP 5 (.mv (.const (.string ⟨⟨[]⟩⟩))),oP 6 (.mv (kI 0)),oP 7 (.mv (kI 7))] .ret) .skip)) (sO [oP 90 (.load (some 36) (tP 14)),mV 91 16,mV 92 10,nP (.store 36 (tP 4) (tP 90)),mV 5 91,mV 6 92,oP 7 (.mv (kI 0))] .ret))))))))
theorem k29 : compR Tryz.prog Tryz.f29 = some (c29,[.c 4 (some 36),.t 5,.t 6,.t 7]) := by kernel_rfl
theorem n29 : Tryz.f29.ntmps = 93 := by kernel_rfl
def ldT (A : ArB) (X : Nat → List (List UInt8)) : Nat → List UInt8
 | 0 => []
 | k + 1 => ldT A X k ++ ((X k).take A.D).flatten
def ldW (A : ArB) (V : DevS) (a : Nat) (X : Nat → List (List UInt8)) : Nat → Nat
 | 0 => 0
 | k + 1 => ldW A V a X k + (wrF (X k) (strF A V a k) (A.D + A.P)).length
theorem wrF_len (X l : List (List UInt8)) (i : Nat) : (wrF X l i).length ≤ i := Nat.le_trans (List.length_filter_le _ _) (by simp)
theorem ldW_le (A : ArB) (V : DevS) (a : Nat) (X : Nat → List (List UInt8)) : ∀ k,ldW A V a X k ≤ k * (A.D + A.P)
 | 0 => by simp [ldW]
 | k + 1 => by
   have := ldW_le A V a X k
   have h2 := wrF_len (X k) (strF A V a k) (A.D + A.P)
   show ldW A V a X k + _ ≤ _
   rw [Nat.add_mul,Nat.one_mul]; omega
theorem ldT_len (A : ArB) (X : Nat → List (List UInt8)) (n : Nat) (hX : ∀ k,k < n → (X k).length = A.D + A.P ∧ ∀ x ∈ X k,x.length = 60) : ∀ k,k ≤ n → (ldT A X k).length = k * (A.D * 60)
 | 0,_ => by simp [ldT]
 | k + 1,hk => by
   show (ldT A X k ++ ((X k).take A.D).flatten).length = _
   obtain ⟨h1,h2⟩ := hX k (by omega)
   rw [List.length_append,ldT_len A X n hX k (by omega),flat60_len (fun x hx => h2 x (List.mem_of_mem_take hx)),List.length_take,h1,Nat.add_mul,Nat.one_mul,Nat.min_eq_left (by omega)]
structure LdS where
 k : Nat
 q : Int
 H : Heap
theorem load_ok (A : ArB) (V : DevS) (a : Nat) (ha : a ≤ 2) (X : Nat → List (List UInt8)) (hX : ∀ k,k < A.S → (X k).length = A.D + A.P ∧ ∀ x ∈ X k,x.length = 60) (x : Hd) (hx : x.hs.length = 32) (img : List UInt8) (hg : getH (ldT A X A.S) = (x,0)) (hn : x.n = img.length) (hroom : x.n ≤ roomF A.D A.P A.S) (him : ((ldT A X A.S).drop 48).take img.length = img) (hsh : x.hs = shaB img) (h : Heap) (K : ArK h A V)
  (hR : ∀ k,k < A.S → ∀ (H : Heap) (v : Value),CodK H A.c A.k A.s A.f A.gw A.D A.P A.S → Sl sv H v (strF A V a k) → ACalls Tryz.prog 73 [.pointer (some ⟨A.c,0,none⟩),v] H (ReadR H (strF A V a k) (some (X k)))) :
  ACalls Tryz.prog 29 [.pointer (some ⟨A.a,0,none⟩),.int .i64 (a : Int)] h fun r h' => r = .tuple #[hv x,.string (bs img),.int .i64 (ldW A V a X A.S : Nat),.int .i64 0] ∧ ∃ q,ArK h' A (V.wop q) ∧ ArX A h h' := by
 refine acalls_ofR mix Tryz.func29 k29 n29 (by simp) fun hcl hb => ?_
 obtain ⟨⟨hd1,hd8⟩,⟨hp2,hp6⟩,hn1,hn8⟩ := right_prop.1 K.rt
 have hba := cellsOf_lt hcl K.ca
 obtain ⟨l1,l2,l3,l4,l5⟩ := K.lo
 have hU := K.du
 have c1 : (h.push (.cells z36 .ex 1)).Closed := closed_push hcl z36_bel
 have g1 : Gr h (h.push (.cells z36 .ex 1)) := ⟨Nat.le_succ _,c1,keep_push hcl _⟩
 have f1 := cellsOf_new h z36 .ex 1
 have n1 : (h.push (.cells z36 .ex 1)).n = h.n + 1 := rfl
 simp only [c29,s_seq,s_ops]
 simp
 generalize h.push (.cells z36 .ex 1) = H1 at *
 have K1 := K.keep g1
 have t0 := there_ok A V a 0 H1 K1
 rw [show thereF A.S a 0 = true from thereF_in (k := 0) ha (by omega)] at t0
 refine t0.eqK ?_
 have ca1 := K1.ca
 simp [ca1,apart]
 have h64 : 60 * (A.D * A.S) ≤ 3840 := by
  have : A.D * A.S ≤ 8 * 8 := Nat.mul_le_mul (by omega) (by omega)
  omega
 have hTl := ldT_len A X A.S hX
 have hTb : ∀ k,k ≤ A.S → (ldT A X k).length ≤ 3840 := fun k hk => by
  rw [hTl k hk]
  have : k * (A.D * 60) ≤ A.S * (A.D * 60) := Nat.mul_le_mul_right _ hk
  have e : A.S * (A.D * 60) = 60 * (A.D * A.S) := by rw [Nat.mul_comm A.D A.S,Nat.mul_comm 60,Nat.mul_assoc]
  omega
 have hWb : ∀ k,k ≤ A.S → ldW A V a X k ≤ 112 := fun k hk => by
  have h1 := ldW_le A V a X k
  have h2 : k * (A.D + A.P) ≤ 8 * 14 := Nat.mul_le_mul (by omega) (by omega)
  omega
 refine awp_loop_of (α := LdS) (fun z => z.k ≤ A.S ∧ DevK z.H A.d A.x A.y A.z (V.wop z.q) ∧ z.H.cellsOf h.n = some (z36,.ex,1) ∧ ArX A h z.H ∧ h.n + 1 ≤ z.H.n) (fun z => [(0,.pointer (some ⟨A.a,0,none⟩)),(1,.int .i64 (a : Int)),(4,.pointer (some ⟨h.n,0,none⟩)),(9,.string (bs (ldT A X z.k))),(10,.int .i64 ((ldW A V a X z.k : Nat) : Int)),(28,.int .i64 (A.S : Int)),(29,.int .i64 (z.k : Int))]) (fun z => z.H) (fun z => A.S - z.k) ⟨0,V.ops,H1⟩
  ⟨Nat.zero_le _,K1.dv,f1,Xd.of g1,by show h.n + 1 ≤ H1.n; omega⟩ ⟨g1.n,Nat.le_refl _,fun _ _ e => e,c1⟩ (by simp [ldT,ldW]; and_intros <;> first | exact .int | exact .string | rfl | exact .ptr (by show A.a < _; omega) | exact .ptr (by show h.n < _; omega)) ?_
 rintro ⟨k,q,H⟩ ⟨hk,kd,fH,gH,nH⟩
 dsimp only at hk kd fH gH nH ⊢
 have KH := K.keepX gH kd (hU.wop q) rfl
 have caH := KH.ca
 by_cases hlt : k < A.S
 ·have hi' : (k : Int) < (A.S : Int) := by omega
  have w4 := w64n (i := k) (by omega)
  obtain ⟨hXl,hX60⟩ := hX k hlt
  simp [c29_0, hi', -Int.natCast_add]
  refine (aread_ok A (V.wop q) a k ha hlt (some (X k)) H KH (hR k hlt)).mono' ?_
  rintro r H2 c2 _ ⟨q2,K2,hr,g2⟩
  obtain ⟨va,vw,rfl,nx,nn,lx,ln,xx,xn,xd⟩ := hr
  obtain ⟨u,md,es,rfl,rfl,hu,hul,hro,hes⟩ : ∃ u md e,nx = some u ∧ va = .slice (some ⟨u,0,none⟩) (X k).length (X k).length ∧ H2.cellsOf u = some (ubs (X k).flatten,md,e) ∧ (ubs (X k).flatten).length = (X k).length * 60 ∧ md ≠ .ro ∧ (md.isLoose = true → e = 60) := by
   rcases lx with ⟨_,_,q,_⟩ | q
   ·omega
   ·exact q
  have hsl : (strF A (V.wop q) a k).length = A.D + A.P := strF_len _ _ _ _
  rw [hsl] at ln
  have hst : strF A (V.wop q) a k = strF A V a k := rfl
  rw [hst] at ln
  obtain ⟨aw,rfl⟩ := LAt.form ln
  have bw := lat_bel c2 ln
  have bu := cellsOf_lt c2 hu
  have hm2 : ∀ u v : Value,mcells (.agg #[u,v]) = some [u,v] := fun _ _ => rfl
  have hp2 : ∀ u v : Value,aput [.slice none 0 0,.slice none 0 0] 0 [u,v] = [u,v] := fun _ _ => rfl
  have c3 : (H2.push (.cells [.slice (some ⟨u,0,none⟩) (X k).length (X k).length,.slice aw (wrF (X k) (strF A V a k) (A.D + A.P)).length (wrF (X k) (strF A V a k) (A.D + A.P)).length] .ex 1)).Closed := closed_push c2 (fun y hy => by
   simp at hy
   rcases hy with rfl | rfl
   ·exact .slice (by show u < _; omega)
   ·exact bw.mono (Nat.le_succ _))
  have g3 : Gr H2 (H2.push (.cells [.slice (some ⟨u,0,none⟩) (X k).length (X k).length,.slice aw (wrF (X k) (strF A V a k) (A.D + A.P)).length (wrF (X k) (strF A V a k) (A.D + A.P)).length] .ex 1)) := ⟨Nat.le_succ _,c3,keep_push c2 _⟩
  have fz := cellsOf_new H2 [.slice none 0 0,.slice none 0 0] .ex 1
  have f3 := cellsOf_new H2 [.slice (some ⟨u,0,none⟩) (X k).length (X k).length,.slice aw (wrF (X k) (strF A V a k) (A.D + A.P)).length (wrF (X k) (strF A V a k) (A.D + A.P)).length] .ex 1
  have n3 : (H2.push (.cells [.slice (some ⟨u,0,none⟩) (X k).length (X k).length,.slice aw (wrF (X k) (strF A V a k) (A.D + A.P)).length (wrF (X k) (strF A V a k) (A.D + A.P)).length] .ex 1)).n = H2.n + 1 := rfl
  simp [fz,hm2,hp2,set_push]
  generalize H2.push (.cells [.slice (some ⟨u,0,none⟩) (X k).length (X k).length,.slice aw (wrF (X k) (strF A V a k) (A.D + A.P)).length (wrF (X k) (strF A V a k) (A.D + A.P)).length] .ex 1) = H3 at *
  have K3 := K2.keep g3
  have ca3 := K3.ca
  have u3 := cellsOf_keep g3.m hu
  have hml : (md.isLoose = true → es = 60) = True := eq_true hes
  have hab : abounds (X k).length (X k).length none (some (.int .i64 (A.D : Int))) none = some (0,A.D,(X k).length) := abounds_hi (by omega)
  have hBl : ((X k).take A.D).length = A.D := by rw [List.length_take]; omega
  have hbl : ∀ cp,BlS H3 (.slice (some ⟨u,0,none⟩) A.D cp) ((X k).take A.D) := fun cp => ⟨fun y hy => hX60 y (List.mem_of_mem_take hy),.inr ⟨u,0,cp,_,_,_,by rw [hBl],u3,fun i hi => by
   rw [Nat.zero_add,List.getElem_take]
   exact flat_cut hX60 i (by rw [hBl] at hi; omega)⟩⟩
  simp [f3,apart,ca3,hab,u3,hml]
  refine (tjoin_ok _ ((X k).take A.D) (by omega) (by omega) H3 (hbl _)).eqK ?_
  have hz1 := hTb k (by omega)
  have hz2 := hTb (k + 1) (by omega)
  have hT1 : ldT A X (k + 1) = ldT A X k ++ ((X k).take A.D).flatten := rfl
  rw [hT1,List.length_append] at hz2
  have hW1 : ldW A V a X (k + 1) = ldW A V a X k + (wrF (X k) (strF A V a k) (A.D + A.P)).length := rfl
  have hwb := hWb (k + 1) (by omega)
  have w5 : IntKind.i64.wrap (((ldW A V a X k : Nat) : Int) + ((wrF (X k) (strF A V a k) (A.D + A.P)).length : Int)) = ((ldW A V a X (k + 1) : Nat) : Int) := by rw [IntWalk.i64_in _ (by omega),hW1]; omega
  have hz3 : (bs (ldT A X k)).size + (bs ((X k).take A.D).flatten).size ≤ 9223372036854775807 := by rw [bs_size,bs_size]; omega
  simp [hz3,bs_append,f3,apart,w5,w4,-Int.natCast_add]
  have k3 := K3.dv
  have fH3 : H3.cellsOf h.n = some (z36,.ex,1) := by
   have := g2.m h.n _ (m_of_cells fH) (by omega) (by omega) (by omega) (by omega)
   refine cellsOf_keep g3.m ?_
   unfold Heap.cellsOf; rw [this]
  have gN := Xd.trans gH (Xd.trans g2 (Xd.of g3))
  have n2 := g2.n
  refine ⟨⟨k + 1,q2,H3⟩,by show A.S - (k + 1) < A.S - k; omega,⟨by show k + 1 ≤ A.S; omega,k3,fH3,gN,by show h.n + 1 ≤ H3.n; omega⟩,⟨gN.n,Nat.le_refl _,fun _ _ e => e,c3⟩,.ptr (by show A.a < H3.n; omega),.int,.ptr (by show h.n < H3.n; omega),⟨by rw [hT1],.string⟩,⟨rfl,.int⟩,.int,rfl,.int⟩
 ·have hke : k = A.S := by omega
  subst hke
  simp [c29_0]
  have hTA := hTb A.S (Nat.le_refl _)
  obtain ⟨T,hT⟩ : ∃ T,ldT A X A.S = T := ⟨_,rfl⟩
  rw [hT] at hg him hTA ⊢
  refine (hget_ok T (by omega) H).eqK ?_
  rw [hg]
  have hlen : (hc x).length = 36 := by simp [hc,ubs_len,hx]
  have c36 := acut_full hlen
  have hva : (.agg (hc x).toArray : Value) = hv x := rfl
  have hz36 : z36.length = 36 := by rw [z36_eq]; simp [hc,ubs_len,zH,z32]
  have hpx : aput z36 0 (hc x) = hc x := by
   unfold aput
   rw [hlen,List.drop_eq_nil_of_le (by rw [hz36]; omega)]
   simp
  have fz := cellsOf_new H z36 .ex 1
  have fx := cellsOf_new H (hc x) .ex 1
  have h3 := hc3 x
  have cN : (H.push (.cells (hc x) .ex 1)).Closed := closed_push gH.cl hc_bel
  have gN : Gr H (H.push (.cells (hc x) .ex 1)) := ⟨Nat.le_succ _,cN,keep_push gH.cl _⟩
  have nN : (H.push (.cells (hc x) .ex 1)).n = H.n + 1 := rfl
  simp [fz,m_hv,m_hc,hlen,hz36,hpx,set_push]
  generalize H.push (.cells (hc x) .ex 1) = H4 at *
  have K4 := KH.keep gN
  have ca4 := K4.ca
  simp [fx,apart,h3,ca4,acut_area,gva]
  refine (groom_ok A.D A.P A.S H4).eqK ?_
  have hnr : ¬ roomF A.D A.P A.S < x.n := by omega
  have hi100 : img.length ≤ 3840 := by rw [← him,List.length_take,List.length_drop]; omega
  have hT48 : 48 ≤ T.length := by
   refine Nat.le_of_not_lt fun q => ?_
   unfold getH at hg
   rw [if_pos q] at hg
   exact absurd (congrArg Prod.snd hg) (show ¬ (13 : Int) = 0 by decide)
  have hTi : 48 + img.length ≤ T.length := by
   have := congrArg List.length him
   rw [List.length_take,List.length_drop] at this
   omega
  have w6 : IntKind.i64.wrap (48 + x.n) = ((48 + img.length : Nat) : Int) := wI (by omega)
  have hab : abounds T.length T.length (some (.int .i64 48)) (some (.int .i64 ((48 + img.length : Nat) : Int))) none = some (48,48 + img.length,T.length) := abounds_lohi (l := 48) (by omega) hTi
  have hex : (bs T).extract 48 (48 + img.length) = bs img := by
   rw [bs_extract,List.drop_take,show 48 + img.length - 48 = img.length by omega,him]
  have fH4 : H4.cellsOf h.n = some (z36,.ex,1) := cellsOf_keep gN.m fH
  have hmt := matches_ok x hx img (by omega) H4
  have hmm : (decide (x.n = (img.length : Int)) && decide (x.hs = shaB img)) = true := by simp [hn,hsh]
  simp [fx,apart,h3,ca4,acut_area,gva,hnr,bs_size,w6,hab,hex,c36,hva,-Int.natCast_add]
  refine hmt.eqK ?_
  have hpz : aput z36 0 (hc x) = hc x := hpx
  have f5 := cells_setJ' H4 h.n (hc x) .ex 1
  rw [hmm]
  simp [aun,fx,apart,c36,hva,fH4,m_hv,m_hc,hlen,hz36,hpz,f5]
  have gT := Xd.trans gH (Xd.of gN)
  have nH4 := gN.n
  have gF : ArX A h (H4.set h.n (.cells (hc x) .ex 1)) := ⟨by show h.n ≤ H4.n; omega,closed_set cN (by omega) hc_bel,fun u ob e h1 h2 h3 h4 => by
   have := (hcl u ob e).1
   rw [set_m,if_neg (by omega)]
   exact gT.m u ob e h1 h2 h3 h4⟩
  have kF : DevK (H4.set h.n (.cells (hc x) .ex 1)) A.d A.x A.y A.z (V.wop q) := K4.dv.keepM fun u ob e hu => by
   rw [set_m,if_neg (by omega)]; exact e
  exact ⟨rfl,⟨q,K.keepX gF kF (hU.wop q) rfl⟩,gF⟩
end Go.Proofs.YtdnmkenamgfjoaaGreat.arbe
