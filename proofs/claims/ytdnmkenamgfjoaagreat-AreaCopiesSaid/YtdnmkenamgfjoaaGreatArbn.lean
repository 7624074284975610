/-
 Contracts.
-/
import Derived.Test.YtdnmkenamgfjoaaGreatArbm
import Derived.IntWalk
import Derived.KernelRfl
set_option linter.unusedSimpArgs false
set_option linter.unusedVariables false
set_option linter.unusedSectionVars false
namespace Go.Proofs.YtdnmkenamgfjoaaGreat.arbn
open Go Go.Ab Go.Proofs Go.RowKit str vers lin1 sha arba arbb arbc arbd arbe arbf arbg arbi arbj arbk arbl arbm
variable [Inhabited TabBox]
variable [Nonempty GF]
variable [Nonempty GE]
set_option maxRecDepth 100000
def c37 : AC := sO [oP 4 (.mv (.const (.string ⟨⟨[]⟩⟩)))] (.seq (sO [mV 5 0,oP 6 (.eqv false .ptr (tP 5) (.const (.pointer none))),mV 7 6,gP 8 7 false (.mv (tP 1)),gP 9 7 false (bK .lss 8 0),oP 10 (pT 7 9),mV 11 10,gP 12 11 false (.mv (tP 1)),gP 13 11 false (.mv (tP 0)),gP 14 11 false (nC 13),gP 15 11 false (fA 4 14),gP 16 11 false (lN 15),gP 17 11 false (lS 16),gP 18 11 false (bT .geq 12 17),oP 19 (pT 11 18)] (cT 19 (sO [oP 4 (.mv (.const (.string ⟨⟨[]⟩⟩)))] .ret) .skip)) (sO [mV 20 0,oP 21 (nC 20),oP 22 (fA 3 21),oP 23 (lN 22),mV 24 1,oP 25 (bK .mul 24 64),mV 26 1,oP 27 (bK .add 26 1),oP 28 (bK .mul 27 64),oP 29 (.slV 1 (tP 23) (some (tP 25)) (some (tP 28)) none),oP 30 (.toStr (tP 29)),mV 4 30] .ret))
theorem k37 : compF Tryz.prog Tryz.f37 = some (c37,[4]) := by kernel_rfl
theorem n37 : Tryz.f37.ntmps = 31 := by kernel_rfl
def c39_0 : AC := sO [oP 11 (bT .lss 10 9)] (.seq (cT 11 .skip (.exit 0)) (.seq (.block 1 (sO [oP 12 (iA 1 8 10),oP 13 (lN 12),mV 7 13] (sO [mV 14 0,oP 15 (.eqv true .ptr (tP 14) (.const (.pointer none))),mV 16 15,gP 17 16 true (.mv (tP 7)),gP 18 16 true (bK .geq 17 0),oP 19 (pF 16 18),mV 20 19,gP 21 20 true (.mv (tP 7)),gP 22 20 true (.mv (tP 0)),gP 23 20 true (nC 22),gP 24 20 true (fA 5 23),gP 25 20 true (lN 24),gP 26 20 true (lS 25),gP 27 20 true (bT .lss 21 26),oP 28 (pF 20 27)] (cT 28 (.ops [mV 29 5,mV 30 0,oP 31 (nC 30),oP 32 (fA 5 31),oP 33 (lN 32),mV 34 7,oP 35 (iA 1 33 34),oP 36 (lN 35),oP 37 (bT .add 29 36),mV 5 37]) .skip)))) (.ops [oP 38 (bK .add 10 1),mV 10 38])))
def c39 : AC := sO [oP 4 (.mv (kI 0))] (sO [oP 5 (.mv (kI 0))] (.seq (sO [mV 8 1,oP 9 (lS 8),oP 10 (.mv (kI 0))] (.block 0 (.loop c39_0))) (sO [mV 39 5,mV 4 39] .ret)))
theorem k39 : compF Tryz.prog Tryz.f39 = some (c39,[4]) := by kernel_rfl
theorem n39 : Tryz.f39.ntmps = 40 := by kernel_rfl
def c116_0 : AC := sO [oP 20 (bT .lss 19 18)] (.seq (cT 20 .skip (.exit 0)) (.seq (.block 1 (sO [mV 21 19,mV 9 21] (sO [mV 23 0,oP 24 (nC 23),oP 25 (fA 2 24),oP 26 (.load (some 3) (tP 25)),mV 27 1,mV 28 2,mV 29 9,oP 30 (.call 71 [tP 26,tP 27,tP 28,tP 29]),mV 22 30,oP 31 (xR 22 0),oP 32 (xR 22 1),mV 10 31,mV 11 32] (sO [mV 34 0,oP 35 (nC 34),oP 36 (fA 1 35),oP 37 (lN 36),mV 38 10,oP 39 (bK .mul 38 64),oP 40 (.call 72 [tP 37,tP 39,.const (.int .i64 64)]),mV 33 40,oP 41 (xR 33 0),oP 42 (xR 33 1),mV 12 41,mV 13 42] (.seq (sO [mV 43 13,oP 44 (bK .neq 43 0)] (cT 44 (sO [mV 45 13,oP 6 (.mv (.const (.slice none 0 0))),mV 7 45] .ret) .skip)) (.ops [mV 46 8,mV 47 12,oP 48 (.buildS 1 [.string ⟨⟨[]⟩⟩] [(0,1,.tmp 47)]),oP 49 (.app 1 16 9 (tP 46) (tP 48)),mV 8 49])))))) (.ops [oP 50 (bK .add 19 1),mV 19 50])))
def c116 : AC := sO [oP 6 (.mv (.const (.slice none 0 0))),oP 7 (.mv (kI 0))] (sO [oP 8 (.mv (.const (.slice none 0 0)))] (.seq (sO [mV 14 0,oP 15 (nC 14),oP 16 (fA 2 15),oP 17 (.load (some 3) (tP 16)),oP 18 (.call 70 [tP 17]),oP 19 (.mv (kI 0))] (.block 0 (.loop c116_0))) (sO [mV 51 8,mV 6 51,oP 7 (.mv (kI 0))] .ret)))
theorem k116 : compF Tryz.prog Tryz.f116 = some (c116,[6,7]) := by kernel_rfl
theorem n116 : Tryz.f116.ntmps = 52 := by kernel_rfl
def c117_0 : AC := sO [oP 14 (bT .lss 13 12)] (.seq (cT 14 .skip (.exit 0)) (.seq (.block 1 (sO [mV 15 13,mV 5 15] (.seq (.draw [([mV 16 0,mV 17 5,oP 18 (iA 1 16 17),oP 19 (lN 18),mV 20 1,mV 21 5,oP 22 (iA 1 20 21),oP 23 (lN 22),oP 24 (bT .neq 19 23)],[],[])]) (cT 24 (sO [oP 4 (.mv kF)] .ret) .skip)))) (.ops [oP 25 (bK .add 13 1),mV 13 25])))
def c117 : AC := sO [oP 4 (.mv kF)] (.seq (sO [mV 6 0,oP 7 (lS 6),mV 8 1,oP 9 (lS 8),oP 10 (bT .neq 7 9)] (cT 10 (sO [oP 4 (.mv kF)] .ret) .skip)) (.seq (sO [mV 11 0,oP 12 (lS 11),oP 13 (.mv (kI 0))] (.block 0 (.loop c117_0))) (sO [oP 4 (.mv kT)] .ret)))
theorem k117 : compF Tryz.prog Tryz.f117 = some (c117,[4]) := by kernel_rfl
theorem n117 : Tryz.f117.ntmps = 26 := by kernel_rfl
theorem dump_ok (d x y z : Nat) (D : DevS) (hU : DevU D) (i : Nat) (hi : i < D.lock.length) (h : Heap) (k : DevK h d x y z D) :
  ACalls Tryz.prog 37 [.pointer (some ⟨d,0,none⟩),.int .i64 (i : Int)] h fun r h' => r = .string (bs (secF D i)) ∧ h' = h := by
 refine acalls_of mix Tryz.func37 k37 n37 (by simp) fun hcl hb => ?_
 have hdl := hU.dl
 have hnl := hU.nl
 have hq := ptrq
 have c1 := k.cd
 obtain ⟨mx,ex,cx,hm1,hm2⟩ := k.cx
 have e3 : ∀ p,(devC x y z D)[3]'p = .slice (some ⟨x,0,none⟩) D.data.length D.data.length := fun _ => rfl
 have e4 : ∀ p,(devC x y z D)[4]'p = .slice (some ⟨y,0,none⟩) D.lock.length D.lock.length := fun _ => rfl
 have hl : ∀ E,(devC x y z E).length = 8 := fun _ => rfl
 have g1 : ¬ (i : Int) < 0 := by omega
 have g2 : ¬ (D.lock.length : Int) ≤ (i : Int) := by omega
 have g2' : ¬ D.lock.length ≤ i := by omega
 have w1 : IntKind.i64.wrap ((i : Int) * 64) = ((64 * i : Nat) : Int) := wI (by omega)
 have w2 := w64n (i := i) (by omega)
 have w3 : IntKind.i64.wrap (((i + 1 : Nat) : Int) * 64) = ((64 * i + 64 : Nat) : Int) := wI (by omega)
 have hab : abounds D.data.length D.data.length (some (.int .i64 ((64 * i : Nat) : Int))) (some (.int .i64 ((64 * i + 64 : Nat) : Int))) none = some (64 * i,64 * i + 64,D.data.length) := abounds_lohi (by omega) (by omega)
 have hml : (mx.isLoose = true → ex = 1) = True := eq_true hm2
 have hcut : acut (ubs D.data) (64 * i) 64 = some (ubs (secF D i)) := by
  unfold acut secF DevS.read ubs
  rw [if_pos (by rw [List.length_map]; omega),List.map_take,List.map_drop]
 have hfst : ∀ c,afirst h 1 64 (.slice (some ⟨x,64 * i,none⟩) 64 c) = some (ubs (secF D i)) := fun c => by simp [afirst,cx,hcut]
 simp [c37, hq, c1, apart, hl, e3, e4, g1, g2, g2', w1, w2, w3, hab, cx, hml, hfst, abytes_ubs, bs_mk, -Int.natCast_add, -Int.natCast_mul]
def wearF (W : List Int) (l : List Int) : Int := l.foldl (fun n i => if 0 ≤ i ∧ i < (W.length : Int) then IntKind.i64.wrap (n + W[i.toNat]!) else n) 0
theorem wear_ok (d x y z : Nat) (D : DevS) (l : List Int) (hll : l.length ≤ 1000000) (v : Value) (h : Heap) (k : DevK h d x y z D) (hl : Sl cI h v l) :
  ACalls Tryz.prog 39 [.pointer (some ⟨d,0,none⟩),v] h fun r h' => r = .int .i64 (wearF D.wear l) ∧ h' = h := by
 refine acalls_of mix Tryz.func39 k39 n39 (by simp) fun hcl hb => ?_
 have hq := ptrq
 have c1 := k.cd
 have hd := cellsOf_lt hcl c1
 have bv := hb v (by simp)
 obtain ⟨mz,ez,cz,hz1,hz2⟩ := k.cz
 have e5 : ∀ p,(devC x y z D)[5]'p = .slice (some ⟨z,0,none⟩) D.wear.length D.wear.length := fun _ => rfl
 have hl8 : ∀ E,(devC x y z E).length = 8 := fun _ => rfl
 obtain ⟨aw,cw,rfl⟩ : ∃ aw cw,v = .slice aw l.length cw := by
  rcases hl with ⟨c,rfl,rfl⟩ | ⟨b,o,cap,c,m,e,rfl,_⟩
  ·exact ⟨_,_,rfl⟩
  ·exact ⟨_,_,rfl⟩
 simp [c39]
 refine awp_loop_of (α := Nat) (fun j => j ≤ l.length) (fun j => [(0,.pointer (some ⟨d,0,none⟩)),(5,.int .i64 (wearF D.wear (l.take j))),(8,.slice aw l.length cw),(9,.int .i64 l.length),(10,.int .i64 (j : Int))]) (fun _ => h) (fun j => l.length - j) 0
  (Nat.zero_le _) (Heap.Sub.refl hcl) (by simp; exact ⟨.ptr hd,⟨rfl,.int⟩,bv,.int,.int⟩) ?_
 intro j hj
 by_cases hlt : j < l.length
 ·have hi' : (j : Int) < (l.length : Int) := by omega
  have w4 := w64n (i := j) (by omega)
  obtain ⟨b1,o1,cs,m1,e1,rfl,_,q1,q2⟩ := Sl.at hl hlt
  obtain ⟨o,ho⟩ : ∃ o,l[j] = o := ⟨_,rfl⟩
  rw [ho] at q2
  have q3 : cs[o1 + j]? = some (.int .i64 o) := q2
  have hst : wearF D.wear (l.take (j + 1)) = if 0 ≤ o ∧ o < (D.wear.length : Int) then IntKind.i64.wrap (wearF D.wear (l.take j) + D.wear[o.toNat]!) else wearF D.wear (l.take j) := by
   unfold wearF
   rw [List.take_succ_eq_append_getElem hlt,List.foldl_append,ho]; rfl
  by_cases h0 : 0 ≤ o
  ·by_cases h1 : o < (D.wear.length : Int)
   ·obtain ⟨n,rfl⟩ : ∃ n : Nat,o = n := ⟨o.toNat,by omega⟩
    have hn : n < D.wear.length := by omega
    have hai : aidx (.int .i64 (n : Int)) D.wear.length = some n := aidx_of hn
    have hz : (D.wear.map (Value.int .i64))[n]? = some (.int .i64 D.wear[n]) := by rw [List.getElem?_map,List.getElem?_eq_getElem hn]; rfl
    rw [if_pos ⟨h0,h1⟩,Int.toNat_natCast,getElem!_pos _ n hn] at hst
    simp [c39_0, hi', aidx_of hlt, q1, apart, q3, hq, h0, h1, hn, c1, hl8, e5, hai, cz, hz, w4, ← hst, -Int.natCast_add]
    exact ⟨j + 1,by omega,by omega,Heap.Sub.refl hcl,.ptr hd,⟨rfl,.int⟩,bv,.int,rfl,.int⟩
   ·rw [if_neg (by omega)] at hst
    simp [c39_0, hi', aidx_of hlt, q1, apart, q3, hq, h0, h1, c1, hl8, e5, w4, ← hst, -Int.natCast_add]
    exact ⟨j + 1,by omega,by omega,Heap.Sub.refl hcl,.ptr hd,⟨rfl,.int⟩,bv,.int,rfl,.int⟩
  ·rw [if_neg (by omega)] at hst
   simp [c39_0, hi', aidx_of hlt, q1, apart, q3, hq, h0, c1, hl8, e5, w4, ← hst, -Int.natCast_add]
   exact ⟨j + 1,by omega,by omega,Heap.Sub.refl hcl,.ptr hd,⟨rfl,.int⟩,bv,.int,rfl,.int⟩
 ·have hje : j = l.length := by omega
  subst hje
  rw [List.take_length]
  simp [c39_0]
structure ScI where
 i : Nat
 v : Value
 q : Int
 H : Heap
theorem sectors2_ok (A : ArB) (V : DevS) (a k : Nat) (ha : a ≤ 2) (hk : k < A.S) (h : Heap) (K : ArK h A V) :
  ACalls Tryz.prog 116 [.pointer (some ⟨A.a,0,none⟩),.int .i64 (a : Int),.int .i64 (k : Int)] h fun r h' => ∃ v,r = .tuple #[v,.int .i64 0] ∧ Sl sv h' v (strF A V a k) ∧ ∃ q,ArK h' A (V.wop q) ∧ ArX A h h' := by
 refine acalls_of mix Tryz.func116 k116 n116 (by simp) fun hcl hb => ?_
 have hba := cellsOf_lt hcl K.ca
 have hgv : (.agg #[.int .i64 (A.D : Int),.int .i64 (A.P : Int),.int .i64 (A.S : Int)] : Value) = gv A.D A.P A.S := rfl
 obtain ⟨⟨hd1,hd8⟩,⟨hp2,hp6⟩,hn1,hn8⟩ := right_prop.1 K.rt
 have hw : wide A.D A.P A.S = ((A.D + A.P : Nat) : Int) := by unfold wide; rw [if_pos K.rt]; omega
 obtain ⟨l1,l2,l3,l4,l5⟩ := K.lo
 have hU := K.du
 have hsz := K.sz
 have hdl := hU.dl
 have hall : allS (A.D : Int) A.P A.S ≤ 354 := allS_le
 have ca0 := K.ca
 simp [c116,ca0,apart,acut_area,hgv]
 refine (wide_ok A.D A.P A.S h).eqK ?_
 rw [hw]
 simp [-Int.natCast_add]
 obtain ⟨T,hT⟩ : ∃ T,strF A V a k = T := ⟨_,rfl⟩
 have hTl : T.length = A.D + A.P := by rw [← hT,strF_len]
 rw [hT]
 refine awp_loop_of (α := ScI) (fun z => z.i ≤ A.D + A.P ∧ DevK z.H A.d A.x A.y A.z (V.wop z.q) ∧ (∃ nm,LAt z.H 1 nm z.v z.i ((T.take z.i).map sv) ∧ ∀ u,nm = some u → h.n ≤ u) ∧ ArX A h z.H)
  (fun z => [(0,.pointer (some ⟨A.a,0,none⟩)),(1,.int .i64 (a : Int)),(2,.int .i64 (k : Int)),(6,.slice none 0 0),(7,.int .i64 0),(8,z.v),(18,.int .i64 ((A.D + A.P : Nat) : Int)),(19,.int .i64 (z.i : Int))]) (fun z => z.H) (fun z => A.D + A.P - z.i) ⟨0,.slice none 0 0,V.ops,h⟩
  ⟨Nat.zero_le _,K.dv,⟨none,.inl ⟨rfl,rfl,rfl,rfl⟩,fun _ e => by cases e⟩,Xd.refl hcl⟩ ⟨Nat.le_refl _,Nat.le_refl _,fun _ _ e => e,hcl⟩ (by simp; exact ⟨.ptr (by show A.a < _; omega),.int,.int,.snil,.int,.snil,.int,.int⟩) ?_
 rintro ⟨i,v,q,H⟩ ⟨hi,kd,⟨nm,lT,xT⟩,gH⟩
 dsimp only at hi kd lT gH ⊢
 have KH := K.keepX gH kd (hU.wop q) rfl
 have caH := KH.ca
 have nH := gH.n
 by_cases hlt : i < A.D + A.P
 ·have hi' : (i : Int) < ((A.D + A.P : Nat) : Int) := by omega
  have w4 := w64n (i := i) (by omega)
  have hse := sectorR_in K.rt a k i ha hk hlt
  have hnl := (secN_lt K.rt ha hk hlt).1
  have hTi : T[i]'(by omega) = secF V (secN A.D A.P A.S a k i) := by subst hT; simp [strF]
  obtain ⟨n,hn⟩ : ∃ n,secN A.D A.P A.S a k i = n := ⟨_,rfl⟩
  rw [hn] at hse hnl hTi
  have w5 : IntKind.i64.wrap ((n : Int) * 64) = ((64 * n : Nat) : Int) := wI (by omega)
  simp [c116_0, hi', caH, apart, acut_area, hgv, -Int.natCast_add]
  refine (sector_ok A.D A.P A.S a k i H).eqK ?_
  rw [hse]
  simp [caH,apart,w5,-Int.natCast_mul,-Int.natCast_add]
  refine (fread_ok A.d A.x A.y A.z (V.wop q) (hU.wop q) (64 * n) 64 (by show 64 * n + 64 ≤ V.data.length; omega) H kd).eqK ?_
  have hrd : (V.wop q).read (64 * n) 64 = secF V n := rfl
  rw [hrd,← hTi]
  have gS := gH.step kd (V.wop q).step
  have kS : DevK (H.set A.d (.cells (devC A.x A.y A.z (V.wop q).step) .ex 1)) A.d A.x A.y A.z (V.wop (IntKind.i64.wrap (q + 1))) := kd.set (D' := (V.wop q).step) rfl rfl rfl
  have lS := lT.up (H := H.set A.d (.cells (devC A.x A.y A.z (V.wop q).step) .ex 1)) fun u e ob e2 => by
   have := xT u e
   rw [set_m,if_neg (by omega)]; exact e2
  have nS : (H.set A.d (.cells (devC A.x A.y A.z (V.wop q).step) .ex 1)).n = H.n := rfl
  generalize H.set A.d (.cells (devC A.x A.y A.z (V.wop q).step) .ex 1) = HS at *
  obtain ⟨t,ht⟩ : ∃ t,T[i]'(by omega) = t := ⟨_,rfl⟩
  rw [ht]
  have hsv : (.string (bs t) : Value) = sv t := rfl
  obtain ⟨a3,e3,v3,H3,happ3,lA,fr3,n3,c3⟩ := lat_push1 (t := 9) (bytes := 16) gS.cl lS [sv t] 1 (by simp) (fun k x hx => by simp at hx; subst hx; exact .string) (by omega)
  have hfst3 : afirst (HS.push (.cells [sv t] .ex 1)) 1 1 (.slice (some ⟨HS.n,0,none⟩) 1 1) = some [sv t] := by
   have := cellsOf_new HS [sv t] .ex 1
   simp [afirst,this,acut]
  have fili : afill [.string (bs [])] [(0,1,.string (bs t))] = some [sv t] := rfl
  have hms : (T.take i).map sv ++ [sv t] = (T.take (i + 1)).map sv := by rw [List.take_succ_eq_append_getElem (by omega),List.map_append,ht]; rfl
  rw [hms] at lA
  have kN := kS.keepM (H' := H3) fun u ob e hu => fr3 u ob e (fun q2 => by have := xT u q2; omega)
  have gN : ArX A h H3 := ⟨by have := gS.n; omega,c3,fun u ob e h1 h2 h3 h4 => fr3 u ob (gS.m u ob e h1 h2 h3 h4) (fun q2 => by have := xT u q2; have := (hcl u ob e).1; omega)⟩
  have nN := gN.n
  subst e3
  simp [bs_lit,fili,alen,hfst3,happ3,w4,-Int.natCast_add]
  exact ⟨⟨i + 1,v3,_,H3⟩,by show A.D + A.P - (i + 1) < A.D + A.P - i; omega,⟨by show i + 1 ≤ A.D + A.P; omega,kN,⟨some (HS.n + 1),by dsimp only; simpa using lA,fun u e => by have := Option.some.inj e; omega⟩,gN⟩,⟨gN.n,Nat.le_refl _,fun _ _ e => e,c3⟩,.ptr (by show A.a < H3.n; omega),.int,.int,.snil,.int,⟨rfl,lat_bel c3 lA⟩,.int,rfl,.int⟩
 ·have hie : i = A.D + A.P := by omega
  subst hie
  rw [List.take_of_length_le (by omega)] at lT
  have sT : Sl sv H v T := by
   rw [← hTl] at lT
   exact LAt.sl lT
  simp [c116_0]
  exact ⟨sT,⟨q,KH⟩,gH⟩
theorem equalS_ok (L M : List (List UInt8)) (hL : L.length ≤ 1000000) (v w : Value) (h : Heap) (hl : Sl sv h v L) (hm : Sl sv h w M) :
  ACalls Tryz.prog 117 [v,w] h fun r h' => r = .bool (decide (L = M)) ∧ h' = h := by
 refine acalls_of mix Tryz.func117 k117 n117 (by simp) fun hcl hb => ?_
 have b1 := hb v (by simp)
 have b2 := hb w (by simp)
 obtain ⟨av,cv,rfl⟩ := Sl.form hl
 obtain ⟨aw,cw,rfl⟩ := Sl.form hm
 by_cases hlen : L.length = M.length
 case neg =>
  have hne : ¬ L = M := fun e => hlen (by rw [e])
  have hi : ¬ (L.length : Int) = (M.length : Int) := by omega
  simp [c117,hi,hne,hlen]
 have hi : (L.length : Int) = (M.length : Int) := by omega
 simp [c117,hlen]
 refine awp_loop_of (α := Nat) (fun j => j ≤ L.length ∧ L.take j = M.take j) (fun j => [(0,.slice av L.length cv),(1,.slice aw M.length cw),(4,.bool false),(12,.int .i64 M.length),(13,.int .i64 (j : Int))]) (fun _ => h) (fun j => L.length - j) 0
  ⟨Nat.zero_le _,rfl⟩ (Heap.Sub.refl hcl) (by simp [hlen]; exact ⟨hlen ▸ b1,b2,.bool,.int,.int⟩) ?_
 rintro j ⟨hj,hp⟩
 by_cases hlt : j < L.length
 ·have hltM : j < M.length := by omega
  have hi' : (j : Int) < (M.length : Int) := by omega
  have w4 := w64n (i := j) (by omega)
  obtain ⟨x1,o1,cs,m1,e1,rfl,_,q1,q2⟩ := Sl.at hl hlt
  obtain ⟨x2,o2,cs2,m2,e2,rfl,_,q3,q4⟩ := Sl.at hm hltM
  have q5 : cs[o1 + j]? = some (.string (bs L[j])) := q2
  have q6 : cs2[o2 + j]? = some (.string (bs M[j])) := q4
  by_cases he : L[j] = M[j]
  ·rw [he] at q5
   simp [c117_0, hi', aidx_of hlt, aidx_of hltM, q1, q3, apart, q5, q6, w4, -Int.natCast_add]
   exact ⟨j + 1,by omega,⟨by omega,by rw [List.take_succ_eq_append_getElem hlt,List.take_succ_eq_append_getElem hltM,hp,he]⟩,Heap.Sub.refl hcl,b1,b2,.bool,.int,rfl,.int⟩
  ·have hne : ¬ L = M := fun e => he (by subst e; rfl)
   have hb3 : ¬ bs L[j] = bs M[j] := fun e => he (bs_inj.1 e)
   simp [c117_0, hi', aidx_of hlt, aidx_of hltM, q1, q3, apart, q5, q6, hb3, hne]
 ·have hje : j = L.length := by omega
  subst hje
  rw [List.take_length,hlen,List.take_length] at hp
  simp [c117_0,hlen,hp]
def c84 : AC := sO [oP 8 (.mv kF),oP 9 (.mv (kI 0))] (sO [mV 16 0,mV 17 1,mV 18 3,oP 19 (.call 30 [tP 16,tP 17,tP 18]),mV 15 19,oP 20 (xR 15 0),oP 21 (xR 15 1),oP 10 (.alloc [.slice none 0 0,.slice none 0 0]),nP (.store 2 (tP 10) (tP 20)),mV 11 21] (.seq (sO [mV 22 11,oP 23 (bK .neq 22 0)] (cT 23 (sO [mV 24 11,oP 8 (.mv kF),mV 9 24] .ret) .skip)) (.seq (.draw [([oP 25 (fA 0 10),oP 26 (lN 25),mV 27 0,oP 28 (nC 27),oP 29 (fA 2 28),oP 30 (fA 0 29),oP 31 (lN 30),oP 32 (.slV 60 (tP 26) none (some (tP 31)) none),mV 12 32],[],[])]) (sO [mV 34 0,oP 35 (nC 34),oP 36 (fA 0 35),oP 37 (lN 36),mV 38 12,oP 39 (.call 98 [tP 37,tP 38]),mV 33 39,oP 40 (xR 33 0),oP 41 (xR 33 1),mV 13 40,mV 11 41] (.seq (sO [mV 42 11,oP 43 (bK .neq 42 0)] (cT 43 (sO [mV 44 11,oP 8 (.mv kF),mV 9 44] .ret) .skip)) (sO [mV 46 0,mV 47 2,mV 48 3,oP 49 (.call 116 [tP 46,tP 47,tP 48]),mV 45 49,oP 50 (xR 45 0),oP 51 (xR 45 1),mV 14 50,mV 11 51] (.seq (.block 0 (sO [mV 53 11,oP 54 (bK .neq 53 0),mV 52 54] (cT 52 (sO [mV 55 11,oP 8 (.mv kF),mV 9 55] .ret) (sO [mV 57 14,mV 58 13,oP 59 (.call 117 [tP 57,tP 58]),mV 56 59] (cT 56 (sO [oP 8 (.mv kF),oP 9 (.mv (kI 0))] .ret) .skip))))) (sO [mV 60 0,mV 61 2,mV 62 3,mV 63 12,oP 64 (.call 63 [tP 60,tP 61,tP 62,tP 63]),oP 8 (.mv kT),mV 9 64] .ret))))))))
theorem k84 : compF Tryz.prog Tryz.f84 = some (c84,[8,9]) := by kernel_rfl
theorem n84 : Tryz.f84.ntmps = 65 := by kernel_rfl
def c38_2 : AC := sO [oP 37 (bT .lss 36 35)] (.seq (cT 37 .skip (.exit 2)) (.seq (.block 3 (sO [mV 38 36,mV 12 38] (sO [mV 40 0,mV 41 1,mV 42 2,mV 43 12,oP 44 (.call 84 [tP 40,tP 41,tP 42,tP 43]),mV 39 44,oP 45 (xR 39 0),oP 46 (xR 39 1),mV 13 45,mV 14 46] (.seq (sO [mV 47 14,oP 48 (bK .neq 47 0)] (cT 48 (sO [mV 49 14,oP 6 (.mv (kI 0)),mV 7 49] .ret) .skip)) (sO [mV 50 13] (cT 50 (.ops [mV 51 11,oP 52 (bK .add 51 1),mV 11 52]) .skip)))))) (.ops [oP 53 (bK .add 36 1),mV 36 53])))
def c38_0 : AC := sO [oP 19 (bK .lss 18 2)] (.seq (cT 19 .skip (.exit 0)) (.seq (.block 1 (sO [oP 20 (.iValA 2 1 none (tP 17) (tP 18)),mV 9 20] (sO [mV 21 0,mV 22 9,oP 23 (.call 61 [tP 21,tP 22,.const (.int .i64 0)]),mV 10 23] (sO [mV 24 10,oP 25 (bK .neq 24 0)] (cT 25 (sO [mV 26 10,oP 6 (.mv (kI 0)),mV 7 26] .ret) .skip))))) (.ops [oP 27 (bK .add 18 1),mV 18 27])))
def c38 : AC := sO [oP 6 (.mv (kI 0)),oP 7 (.mv (kI 0))] (.seq (sO [mV 15 1,mV 16 2,oP 17 (.build [.int .i64 0,.int .i64 0] [(0,1,.tmp 15),(1,1,.tmp 16)]),oP 18 (.mv (kI 0))] (.block 0 (.loop c38_0))) (.seq (sO [mV 28 1,mV 29 2,oP 30 (bT .eql 28 29)] (cT 30 (sO [oP 6 (.mv (kI 0)),oP 7 (.mv (kI 1))] .ret) .skip)) (sO [oP 11 (.mv (kI 0))] (.seq (sO [mV 31 0,oP 32 (nC 31),oP 33 (fA 2 32),oP 34 (fA 2 33),oP 35 (lN 34),oP 36 (.mv (kI 0))] (.block 2 (.loop c38_2))) (sO [mV 54 11,mV 6 54,oP 7 (.mv (kI 0))] .ret)))))
theorem k38 : compF Tryz.prog Tryz.f38 = some (c38,[6,7]) := by kernel_rfl
theorem n38 : Tryz.f38.ntmps = 55 := by kernel_rfl
def CpS (A : ArB) (V : DevS) (b k : Nat) (h : Heap) (l : List (List UInt8)) (o : Option (List (List UInt8))) (r : Value) (h' : Heap) : Prop := match o with
 | none => r = .tuple #[.bool false,.int .i64 8] ∧ ∃ q,ArK h' A (V.wop q) ∧ ArX A h h'
 | some X => if l = secs A (X.take A.D) then r = .tuple #[.bool false,.int .i64 0] ∧ ∃ q,ArK h' A (V.wop q) ∧ ArX A h h'
   else r = .tuple #[.bool true, .int .i64 0] ∧ ∃ V', ArK h' A V' ∧ Wrote A V V' b k (secs A (X.take A.D)) (A.D + A.P) ∧ ArX A h h'
theorem astripe_ok (A : ArB) (V : DevS) (a b k : Nat) (ha : a ≤ 2) (hb2 : b ≤ 2) (hk : k < A.S) (h : Heap) (K : ArK h A V) (hlk : ∀ i,i < A.D + A.P → V.lock[secN A.D A.P A.S b k i]! = false) :
  ACalls Tryz.prog 84 [.pointer (some ⟨A.a,0,none⟩),.int .i64 (a : Int),.int .i64 (b : Int),.int .i64 (k : Int)] h (CpS A V b k h (strF A V b k) (rdF A.D A.P (strF A V a k))) := by
 refine acalls_of mix Tryz.func84 k84 n84 (by simp) fun hcl hb => ?_
 obtain ⟨l1,l2,l3,l4,l5⟩ := K.lo
 have hba := cellsOf_lt hcl K.ca
 obtain ⟨⟨hd1,hd8⟩,⟨hp2,hp6⟩,hn1,hn8⟩ := right_prop.1 K.rt
 have hm2 : ∀ u v : Value,mcells (.agg #[u,v]) = some [u,v] := fun _ _ => rfl
 have hp22 : ∀ u v : Value,aput [.slice none 0 0,.slice none 0 0] 0 [u,v] = [u,v] := fun _ _ => rfl
 simp [c84]
 refine (aread_gen A V a k ha hk h K).mono' ?_
 rintro r H2 c2 _ ⟨q,K2,hr,g2⟩
 have n2 := g2.n
 have f20 := cellsOf_new H2 [.slice none 0 0,.slice none 0 0] .ex 1
 cases hrd : rdF A.D A.P (strF A V a k) with
 | none =>
   rw [hrd] at hr
   obtain rfl := hr
   have g3 : Gr H2 (H2.push (.cells [.slice none 0 0,.slice none 0 0] .ex 1)) := ⟨Nat.le_succ _,closed_push c2 (fun x hx => by simp at hx; subst hx; exact .snil),keep_push c2 _⟩
   simp [hm2,hp22,f20,set_push]
   exact ⟨rfl,q,K2.keep g3,Xd.trans g2 (Xd.of g3)⟩
 | some X =>
   rw [hrd] at hr
   obtain ⟨va,vw,rfl,nm,nn,la,lw,na,nw,nx⟩ := hr
   obtain ⟨X1,X2⟩ := rdF_len (strF_len _ _ _ _) (strF_64 A V a k ha hk h K) hrd
   obtain ⟨u,md,es,rfl,rfl,hu,hul,hro,hes⟩ : ∃ u md e,nm = some u ∧ va = .slice (some ⟨u,0,none⟩) X.length X.length ∧ H2.cellsOf u = some (ubs X.flatten,md,e) ∧ (ubs X.flatten).length = X.length * 60 ∧ md ≠ .ro ∧ (md.isLoose = true → e = 60) := by
    rcases la with ⟨_,_,q,_⟩ | q
    ·omega
    ·exact q
   have hnu := na u rfl
   have hml : (md.isLoose = true → es = 60) = True := eq_true hes
   have bva := lat_bel c2 la
   have bvw := lat_bel c2 lw
   have f3 := cellsOf_new H2 [.slice (some ⟨u,0,none⟩) X.length X.length,vw] .ex 1
   have g3 : Gr H2 (H2.push (.cells [.slice (some ⟨u,0,none⟩) X.length X.length,vw] .ex 1)) := ⟨Nat.le_succ _,closed_push c2 (fun x hx => by
    simp at hx
    rcases hx with rfl | rfl
    ·exact bva.mono (Nat.le_succ _)
    ·exact bvw.mono (Nat.le_succ _)),keep_push c2 _⟩
   have hul2 := cellsOf_lt c2 hu
   have gT := Xd.trans g2 (Xd.of g3)
   have KT := K2.keep g3
   have u3 := cellsOf_keep g3.m hu
   have ca3 := KT.ca
   have hab : abounds X.length X.length none (some (.int .i64 (A.D : Int))) none = some (0,A.D,X.length) := abounds_hi (by omega)
   have hBl : (X.take A.D).length = A.D := by rw [List.length_take]; omega
   simp [hm2,hp22,f20,set_push,f3,apart,ca3,hab,u3,hml]
   generalize H2.push (.cells [.slice (some ⟨u,0,none⟩) X.length X.length,vw] .ex 1) = H3 at *
   have n3 := g3.n
   have hbl : ∀ (H : Heap) cp,H.cellsOf u = some (ubs X.flatten,md,es) → BlS H (.slice (some ⟨u,0,none⟩) A.D cp) (X.take A.D) := fun H cp e => ⟨fun y hy => X2 y (List.mem_of_mem_take hy),.inr ⟨u,0,cp,_,_,_,by rw [hBl],e,fun i hi => by
    rw [Nat.zero_add,List.getElem_take]
    exact flat_cut X2 i (by rw [hBl] at hi; omega)⟩⟩
   refine (cenc_ok A.c A.k A.s A.f A.gw A.D A.P A.S KT.rt (X.take A.D) hBl _ H3 (KT.cod gT.cl) (hbl H3 _ u3)).mono' ?_
   rintro _ H4 c4 _ ⟨vr,rfl,ns⟩
   have g4 := ns.gr
   have n4 := g4.n
   have K4 := KT.keep g4
   simp
   refine (sectors2_ok A (V.wop q) b k hb2 hk H4 K4).mono' ?_
   rintro _ H5 c5 _ ⟨v5,rfl,s5,q5,K5,g5⟩
   have n5 := g5.n
   obtain ⟨nm4,la4,na4,_⟩ := ns
   have la5 := la4.up fun x e ob e2 => by
    have := na4 x e
    exact g5.m x ob e2 (by omega) (by omega) (by omega) (by omega)
   have hsc : (secs A (X.take A.D)).length = A.D + A.P := secs_len _ _
   have s4 : Sl sv H5 vr (secs A (X.take A.D)) := LAt.sl la5
   simp
   refine (equalS_ok (strF A V b k) (secs A (X.take A.D)) (by rw [strF_len]; omega) v5 vr H5 s5 s4).eqK ?_
   have gx5 : ArX A h H5 := Xd.trans gT (Xd.trans (Xd.of g4) g5)
   have K5' : ArK H5 A (V.wop q5) := K5
   by_cases he : strF A V b k = secs A (X.take A.D)
   ·simp [he]
    show CpS A V b k h _ _ _ _
    unfold CpS
    dsimp only
    rw [if_pos rfl]
    exact ⟨rfl, q5, K5', gx5⟩
   ·have u5 : H5.cellsOf u = some (ubs X.flatten,md,es) := by
     have e4 := cellsOf_keep g4.m u3
     have := g5.m _ _ (m_of_cells e4) (by omega) (by omega) (by omega) (by omega)
     unfold Heap.cellsOf; rw [this]
    simp [he]
    refine (awrite_ok A (V.wop q5) b k hb2 hk (X.take A.D) hBl _ H5 K5' (hbl H5 _ u5) hlk).mono' ?_
    rintro _ H6 c6 _ ⟨rfl,V6,K6,w6,g6⟩
    simp
    show CpS A V b k h _ _ _ _
    unfold CpS
    dsimp only
    rw [if_neg he]
    exact ⟨rfl, V6, K6, ⟨w6.lk, w6.at', w6.no⟩, Xd.trans gx5 g6⟩
def cpN (A : ArB) (V : DevS) (b : Nat) (B : Nat → List (List UInt8)) (j : Nat) : Nat := ((List.range j).filter fun k => decide (strF A V b k ≠ secs A ((B k).take A.D))).length
structure Cp (A : ArB) (V V' : DevS) (b : Nat) (B : Nat → List (List UInt8)) (j : Nat) : Prop where
 u : DevU V'
 lk : V'.lock = V.lock
 lo : ∀ k,k < j → k < A.S → strF A V' b k = secs A ((B k).take A.D)
 hi : ∀ k,j ≤ k → k < A.S → strF A V' b k = strF A V b k
 no : ∀ m,m < V.lock.length → (∀ k i,k < A.S → i < A.D + A.P → m ≠ secN A.D A.P A.S b k i) → secF V' m = secF V m
 sm : (∀ k,k < j → strF A V b k = secs A ((B k).take A.D)) → ∃ q,V' = V.wop q
theorem _root_.Go.Proofs.YtdnmkenamgfjoaaGreat.arbd.Wrote.str {A : ArB} {V V' : DevS} {b k : Nat} {T : List (List UInt8)} {h : Heap} (K : ArK h A V) (hb : b ≤ 2) (hk : k < A.S) (hT : T.length = A.D + A.P) (w : Wrote A V V' b k T (A.D + A.P)) : strF A V' b k = T ∧ ∀ k', k' < A.S → k' ≠ k → strF A V' b k' = strF A V b k' := by
 refine ⟨List.ext_getElem (by rw [strF_len,hT]) fun i h1 h2 => ?_,fun k' hk' hne => ?_⟩
 ·have hi : i < A.D + A.P := by rw [strF_len] at h1; exact h1
  have := w.at' i hi
  rw [getElem!_pos T i h2] at this
  rw [← this]
  simp [strF]
 ·unfold strF
  refine List.map_congr_left fun i hi => ?_
  have hi' := List.mem_range.1 hi
  exact w.no _ (secN_fit K hb hk' hi') fun i' hi'' e => hne (secN_inj2 hk' hk e).1
theorem cpN_succ (A : ArB) (V : DevS) (b : Nat) (B : Nat → List (List UInt8)) (j : Nat) : cpN A V b B (j + 1) = if strF A V b j = secs A ((B j).take A.D) then cpN A V b B j else cpN A V b B j + 1 := by
 unfold cpN
 rw [range_filter_succ]
 by_cases h : strF A V b j = secs A ((B j).take A.D)
 ·rw [if_neg (by simp [h]),if_pos h]
 ·rw [if_pos (by simp [h]),if_neg h,List.length_append]; rfl
theorem cpN_le (A : ArB) (V : DevS) (b : Nat) (B : Nat → List (List UInt8)) (j : Nat) : cpN A V b B j ≤ j := by
 unfold cpN
 exact Nat.le_trans (List.length_filter_le _ _) (by simp)
theorem Cp.same {A : ArB} {V V1 : DevS} {b : Nat} {B : Nat → List (List UInt8)} {k : Nat} (c : Cp A V V1 b B k) (hk : k < A.S) (h : strF A V b k = secs A ((B k).take A.D)) (q : Int) : Cp A V (V1.wop q) b B (k + 1) :=
 ⟨c.u.wop q,c.lk,fun k' h1 h2 => by
  show strF A V1 b k' = _
  by_cases e : k' = k
  ·rw [e,c.hi k (Nat.le_refl _) hk,h]
  ·exact c.lo k' (by omega) h2,fun k' h1 h2 => c.hi k' (by omega) h2,c.no,fun h1 => by
  obtain ⟨q', e⟩ := c.sm fun k' hk' => h1 k' (by omega)
  exact ⟨q,by rw [e]; rfl⟩⟩
theorem Cp.new {A : ArB} {V V1 V2 : DevS} {b : Nat} {B : Nat → List (List UInt8)} {k : Nat} {H : Heap} (K : ArK H A V1) (c : Cp A V V1 b B k) (hb : b ≤ 2) (hk : k < A.S) (h : ¬ strF A V b k = secs A ((B k).take A.D)) (w : Wrote A V1 V2 b k (secs A ((B k).take A.D)) (A.D + A.P)) (u : DevU V2) : Cp A V V2 b B (k + 1) := by
 obtain ⟨w1,w2⟩ := w.str K hb hk (secs_len _ _)
 refine ⟨u,w.lk.trans c.lk,fun k' h1 h2 => ?_,fun k' h1 h2 => ?_,fun m hm hn => ?_,fun h1 => absurd (h1 k (by omega)) h⟩
 ·by_cases e : k' = k
  ·rw [e,w1]
  ·rw [w2 k' h2 e]; exact c.lo k' (by omega) h2
 ·rw [w2 k' h2 (by omega)]; exact c.hi k' (by omega) h2
 ·rw [w.no m (by rw [c.lk]; exact hm) fun i hi => hn k i hk hi]
  exact c.no m hm hn
structure CyS where
 k : Nat
 V : DevS
 H : Heap
theorem acopy_ok (A : ArB) (V : DevS) (a b : Nat) (ha : a ≤ 2) (hb2 : b ≤ 2) (hab : a ≠ b) (B : Nat → List (List UInt8)) (h : Heap) (K : ArK h A V) (hB : ∀ k,k < A.S → rdF A.D A.P (strF A V a k) = some (B k)) (hlk : ∀ k i,k < A.S → i < A.D + A.P → V.lock[secN A.D A.P A.S b k i]! = false) :
  ACalls Tryz.prog 38 [.pointer (some ⟨A.a, 0, none⟩), .int .i64 (a : Int), .int .i64 (b : Int)] h fun r h' => r = .tuple #[.int .i64 (cpN A V b B A.S), .int .i64 0] ∧ ∃ V', ArK h' A V' ∧ Cp A V V' b B A.S ∧ ArX A h h' := by
 refine acalls_of mix Tryz.func38 k38 n38 (by simp) fun hcl hb => ?_
 obtain ⟨l1,l2,l3,l4,l5⟩ := K.lo
 have hba := cellsOf_lt hcl K.ca
 have hU := K.du
 obtain ⟨⟨hd1,hd8⟩,⟨hp2,hp6⟩,hn1,hn8⟩ := right_prop.1 K.rt
 have fil : afill [.int .i64 0,.int .i64 0] [(0,1,.int .i64 (a : Int)),(1,1,.int .i64 (b : Int))] = some [.int .i64 (a : Int),.int .i64 (b : Int)] := rfl
 have ca := K.ca
 simp [c38,fil]
 refine awp_loop_of (α := Nat) (fun j => j ≤ 2) (fun j => [(0,.pointer (some ⟨A.a,0,none⟩)),(1,.int .i64 (a : Int)),(2,.int .i64 (b : Int)),(17,.agg #[.int .i64 (a : Int),.int .i64 (b : Int)]),(18,.int .i64 (j : Int))]) (fun _ => h) (fun j => 2 - j) 0
  (Nat.zero_le _) (Heap.Sub.refl hcl) (by simp; exact ⟨.ptr (by show A.a < _; omega),.int,.int,(.agg fun i hi => by match i,hi with | 0,_ => exact .int | 1,_ => exact .int),.int⟩) ?_
 intro j hj
 by_cases hlt : j < 2
 ·have i0 : aidx (.int .i64 (j : Int)) 2 = some j := aidx_of hlt
  have w4 := w64n (i := j) (by omega)
  have hi' : (j : Int) < 2 := by omega
  match j,hlt with
  | 0,_ =>
    simp [c38_0,apart,i0]
    refine (there_ok A V a 0 h K).eqK ?_
    rw [show thereF A.S (a : Int) 0 = true from thereF_in (k := 0) ha (by omega)]
    simp
    exact ⟨1,by omega,by omega,Heap.Sub.refl hcl,.ptr (by show A.a < _; omega),.int,.int,(.agg fun i hi => by match i,hi with | 0,_ => exact .int | 1,_ => exact .int),(by decide),.int⟩
  | 1,_ =>
    simp [c38_0,apart,i0]
    refine (there_ok A V b 0 h K).eqK ?_
    rw [show thereF A.S (b : Int) 0 = true from thereF_in (k := 0) hb2 (by omega)]
    simp
    exact ⟨2,by omega,by omega,Heap.Sub.refl hcl,.ptr (by show A.a < _; omega),.int,.int,(.agg fun i hi => by match i,hi with | 0,_ => exact .int | 1,_ => exact .int),(by decide),.int⟩
 ·have hj2 : j = 2 := by omega
  subst hj2
  have hne : ¬ (a : Int) = (b : Int) := by omega
  simp [c38_0,hne,hab,ca,apart]
  refine awp_loop_of (α := CyS) (fun z => z.k ≤ A.S ∧ Cp A V z.V b B z.k ∧ ArK z.H A z.V ∧ ArX A h z.H) (fun z => [(0,.pointer (some ⟨A.a,0,none⟩)),(1,.int .i64 (a : Int)),(2,.int .i64 (b : Int)),(11,.int .i64 ((cpN A V b B z.k : Nat) : Int)),(35,.int .i64 (A.S : Int)),(36,.int .i64 (z.k : Int))]) (fun z => z.H) (fun z => A.S - z.k) ⟨0,V,h⟩
   ⟨Nat.zero_le _,⟨hU,rfl,fun _ h1 _ => absurd h1 (Nat.not_lt_zero _),fun _ _ _ => rfl,fun _ _ _ => rfl,fun _ => ⟨V.ops,rfl⟩⟩,K,Xd.refl hcl⟩ ⟨Nat.le_refl _,Nat.le_refl _,fun _ _ e => e,hcl⟩ (by simp [cpN]; exact ⟨.ptr (by show A.a < _; omega),.int,.int,.int,.int,.int⟩) ?_
  rintro ⟨k,V1,H⟩ ⟨hk,cp,KH,gH⟩
  dsimp only at hk cp KH gH ⊢
  have nH := gH.n
  by_cases hkl : k < A.S
  ·have hi' : (k : Int) < (A.S : Int) := by omega
   have w4 := w64n (i := k) (by omega)
   have hcl2 := cpN_le A V b B k
   have w5 : IntKind.i64.wrap (((cpN A V b B k : Nat) : Int) + 1) = ((cpN A V b B k + 1 : Nat) : Int) := wI (by omega)
   have hst : strF A V1 a k = strF A V a k := by
    unfold strF
    refine List.map_congr_left fun i hi => ?_
    have hi2 := List.mem_range.1 hi
    exact cp.no _ (secN_fit K ha hkl hi2) fun k' i' hk' hi'' => secN_ne hkl hi2 hk' hi'' hab
   have hns := cpN_succ A V b B k
   simp [c38_2, hi', -Int.natCast_add]
   refine (astripe_ok A V1 a b k ha hb2 hkl H KH fun i hi => by rw [cp.lk]; exact hlk k i hkl hi).mono' ?_
   rintro r H2 c2 _ hr
   rw [hst,hB k hkl] at hr
   unfold CpS at hr
   dsimp only at hr
   rw [cp.hi k (Nat.le_refl _) hkl] at hr
   by_cases he : strF A V b k = secs A ((B k).take A.D)
   ·rw [if_pos he] at hr hns
    obtain ⟨rfl,q,K2,g2⟩ := hr
    have gx := Xd.trans gH g2
    have nx := gx.n
    simp [w4,-Int.natCast_add]
    exact ⟨⟨k + 1,V1.wop q,H2⟩,by show A.S - (k + 1) < A.S - k; omega,⟨by show k + 1 ≤ A.S; omega,cp.same hkl he q,K2,gx⟩,⟨nx,Nat.le_refl _,fun _ _ e => e,c2⟩,.ptr (by show A.a < H2.n; omega),.int,.int,⟨by rw [hns],.int⟩,.int,rfl,.int⟩
   ·rw [if_neg he] at hr hns
    obtain ⟨rfl,V2,K2,w2,g2⟩ := hr
    have gx := Xd.trans gH g2
    have nx := gx.n
    simp [w4,w5,-Int.natCast_add]
    exact ⟨⟨k + 1,V2,H2⟩,by show A.S - (k + 1) < A.S - k; omega,⟨by show k + 1 ≤ A.S; omega,cp.new KH hb2 hkl he w2 K2.du,K2,gx⟩,⟨nx,Nat.le_refl _,fun _ _ e => e,c2⟩,.ptr (by show A.a < H2.n; omega),.int,.int,⟨by rw [hns],.int⟩,.int,rfl,.int⟩
  ·have hke : k = A.S := by omega
   subst hke
   simp [c38_2]
   exact ⟨V1,KH,cp,gH⟩
theorem acopy_err (A : ArB) (V : DevS) (a : Nat) (b e : Int) (ha : a ≤ 2) (h : Heap) (K : ArK h A V) (hc : (thereF A.S b 0 = false ∧ e = 2) ∨ (b = (a : Int) ∧ e = 1) ∨ (∃ b' : Nat,b = (b' : Int) ∧ b' ≤ 2 ∧ a ≠ b' ∧ rdF A.D A.P (strF A V a 0) = none ∧ e = 8 ∧ ∀ i,i < A.D + A.P → V.lock[secN A.D A.P A.S b' 0 i]! = false)) :
  ACalls Tryz.prog 38 [.pointer (some ⟨A.a,0,none⟩),.int .i64 (a : Int),.int .i64 b] h fun r h' => r = .tuple #[.int .i64 0,.int .i64 e] ∧ ∃ q,ArK h' A (V.wop q) ∧ ArX A h h' := by
 refine acalls_of mix Tryz.func38 k38 n38 (by simp) fun hcl hb => ?_
 obtain ⟨l1,l2,l3,l4,l5⟩ := K.lo
 have hba := cellsOf_lt hcl K.ca
 obtain ⟨⟨hd1,hd8⟩,⟨hp2,hp6⟩,hn1,hn8⟩ := right_prop.1 K.rt
 have fil : afill [.int .i64 0,.int .i64 0] [(0,1,.int .i64 (a : Int)),(1,1,.int .i64 b)] = some [.int .i64 (a : Int),.int .i64 b] := rfl
 have ca := K.ca
 have fin : ∃ q,ArK h A (V.wop q) ∧ ArX A h h := ⟨V.ops,K,Xd.refl hcl⟩
 simp [c38,fil]
 refine awp_loop_of (α := Nat) (fun j => j ≤ 2 ∧ (j = 2 → thereF A.S b 0 = true)) (fun j => [(0,.pointer (some ⟨A.a,0,none⟩)),(1,.int .i64 (a : Int)),(2,.int .i64 b),(17,.agg #[.int .i64 (a : Int),.int .i64 b]),(18,.int .i64 (j : Int))]) (fun _ => h) (fun j => 2 - j) 0
  ⟨Nat.zero_le _,fun q => by omega⟩ (Heap.Sub.refl hcl) (by simp; exact ⟨.ptr (by show A.a < _; omega),.int,.int,(.agg fun i hi => by match i,hi with | 0,_ => exact .int | 1,_ => exact .int),.int⟩) ?_
 rintro j ⟨hj,ht⟩
 by_cases hlt : j < 2
 ·have i0 : aidx (.int .i64 (j : Int)) 2 = some j := aidx_of hlt
  match j,hlt with
  | 0,_ =>
    simp [c38_0,apart,i0]
    refine (there_ok A V a 0 h K).eqK ?_
    rw [show thereF A.S (a : Int) 0 = true from thereF_in (k := 0) ha (by omega)]
    simp
    exact ⟨1,by omega,⟨by omega,fun q => by omega⟩,Heap.Sub.refl hcl,.ptr (by show A.a < _; omega),.int,.int,(.agg fun i hi => by match i,hi with | 0,_ => exact .int | 1,_ => exact .int),(by decide),.int⟩
  | 1,_ =>
    simp [c38_0,apart,i0]
    refine (there_ok A V b 0 h K).eqK ?_
    cases hto : thereF A.S b 0
    ·have he : e = 2 := by
      rcases hc with ⟨_, q⟩ | ⟨q, _⟩ | ⟨b', q, q2, _⟩
      ·exact q
      ·rw [q,show thereF A.S (a : Int) 0 = true from thereF_in (k := 0) ha (by omega)] at hto; cases hto
      ·rw [q,show thereF A.S (b' : Int) 0 = true from thereF_in (k := 0) q2 (by omega)] at hto; cases hto
     simp [he]
     obtain ⟨q,f1,f2⟩ := fin
     exact ⟨⟨q,f1⟩,f2⟩
    ·simp
     refine ⟨2,by omega,?_⟩
     refine ⟨by omega,Heap.Sub.refl hcl,.ptr (by show A.a < _; omega),.int,.int,(.agg fun i hi => by match i,hi with | 0,_ => exact .int | 1,_ => exact .int),(by decide),.int⟩
 ·have hj2 : j = 2 := by omega
  subst hj2
  have hto := ht rfl
  rcases hc with ⟨q, _⟩ | ⟨rfl, rfl⟩ | ⟨b', rfl, hb2, hab, hrd, rfl, hlk⟩
  ·rw [q] at hto; cases hto
  ·simp [c38_0]
   obtain ⟨q,f1,f2⟩ := fin
   exact ⟨⟨q,f1⟩,f2⟩
  ·have hne : ¬ (a : Int) = (b' : Int) := by omega
   have hS0 : 0 < A.S := by omega
   simp [c38_0,hne,hab,ca,apart]
   refine awp_loop_of (α := Nat) (fun _ => True) (fun _ => [(0,.pointer (some ⟨A.a,0,none⟩)),(1,.int .i64 (a : Int)),(2,.int .i64 (b' : Int)),(11,.int .i64 0),(35,.int .i64 (A.S : Int)),(36,.int .i64 0)]) (fun _ => h) (fun _ => 0) 0
    True.intro (Heap.Sub.refl hcl) (by simp; exact ⟨.ptr (by show A.a < _; omega),.int,.int,.int,.int,.int⟩) ?_
   intro _ _
   have hi' : (0 : Int) < (A.S : Int) := by omega
   simp [c38_2, hi', hS0]
   refine (astripe_ok A V a b' 0 ha hb2 hS0 h K hlk).mono' ?_
   rintro r H2 c2 _ hr
   rw [hrd] at hr
   obtain ⟨rfl,q,K2,g2⟩ := hr
   simp
   exact ⟨⟨q,K2⟩,g2⟩
def c7_6 : AC := .seq (sO [mV 190 26,oP 191 (.load (some 3) (tP 3)),oP 192 (.call 35 [tP 191]),oP 193 (.bin .mul (kI 3) (tP 192)),oP 194 (bT .lss 190 193)] (cT 194 .skip (.exit 6))) (.seq (.block 7 (sO [mV 197 8,mV 198 26,oP 199 (.call 37 [tP 197,tP 198]),mV 200 10,mV 201 26,oP 202 (.call 37 [tP 200,tP 201]),oP 203 (bT .neq 199 202)] (cT 203 (sO [oP 6 (.mv kF)] .ret) .skip))) (.ops [mV 195 26,oP 196 (bK .add 195 1),mV 26 196]))
def c7_4 : AC := .seq (sO [mV 175 25,oP 176 (.load (some 3) (tP 3)),oP 177 (.call 35 [tP 176]),oP 178 (.bin .mul (kI 2) (tP 177)),oP 179 (bT .lss 175 178)] (cT 179 .skip (.exit 4))) (.seq (.block 5 (.ops [mV 182 24,mV 183 8,mV 184 25,oP 185 (.call 37 [tP 183,tP 184]),oP 186 (bT .add 182 185),mV 24 186])) (.ops [mV 180 25,oP 181 (bK .add 180 1),mV 25 181]))
def c7_2 : AC := .seq (sO [mV 150 21,oP 151 (.load (some 3) (tP 3)),oP 152 (.call 35 [tP 151]),oP 153 (.bin .mul (kI 2) (tP 152)),oP 154 (bT .lss 150 153)] (cT 154 .skip (.exit 2))) (.seq (.block 3 (.ops [mV 157 20,mV 158 8,mV 159 21,oP 160 (.call 37 [tP 158,tP 159]),oP 161 (bT .add 157 160),mV 20 161])) (.ops [mV 155 21,oP 156 (bK .add 155 1),mV 21 156]))
def c7_0 : AC := sO [oP 94 (bT .lss 93 92)] (.seq (cT 94 .skip (.exit 0)) (.seq (.block 1 (sO [oP 95 (iA 2 91 93),oP 96 (.load (some 2) (tP 95)),oP 15 (.alloc [.int .i64 0,.int .u8 0]),nP (.store 2 (tP 15) (tP 96))] (sO [oP 98 (.load (some 3) (tP 3)),oP 99 (fA 0 15),oP 100 (lN 99),oP 101 (bK .quo 100 64),oP 102 (.call 28 [tP 98,tP 101]),mV 97 102,oP 103 (xR 97 0),oP 104 (xR 97 1),oP 105 (xR 97 2),oP 106 (xR 97 3),mV 16 103,mV 17 104,mV 18 105,mV 19 106] (.seq (sO [mV 107 19,oP 108 (.un .not (tP 107)),mV 109 108,gP 110 109 false (.mv (tP 16)),gP 111 109 false (bK .neq 110 1),oP 112 (pT 109 111),mV 113 112,gP 114 113 false (fA 0 15),gP 115 113 false (lN 114),gP 116 113 false (bK .lss 115 0),oP 117 (pT 113 116),mV 118 117,gP 119 118 false (.mv (tP 12)),gP 120 118 false (fA 0 15),gP 121 118 false (lN 120),gP 122 118 false (bK .quo 121 64),gP 123 118 false (.look ⟨false,[.i]⟩ (.bool false) (tP 119) (tP 122) false),oP 124 (pT 118 123),mV 125 124,gP 126 125 false (.mv (tP 13)),gP 127 125 false (.mv (tP 17)),gP 128 125 false (.look ⟨false,[.i]⟩ (.int .i64 0) (tP 126) (tP 127) false),gP 129 125 false (fA 1 3),gP 130 125 false (lN 129),gP 131 125 false (bK .quo 130 2),gP 132 125 false (bT .eql 128 131),oP 133 (pT 125 132)] (cT 133 (.exit 1) .skip)) (sO [mV 134 12,oP 135 (fA 0 15),oP 136 (lN 135),oP 137 (bK .quo 136 64),nP (.mupd ⟨false,[.i]⟩ (tP 134) (tP 137) kT)] (sO [mV 138 13,mV 139 17,oP 140 (.look ⟨false,[.i]⟩ (.int .i64 0) (tP 138) (tP 139) false),oP 141 (bK .add 140 1),nP (.mupd ⟨false,[.i]⟩ (tP 138) (tP 139) (tP 141))] (.ops [mV 142 8,oP 143 (fA 0 15),oP 144 (lN 143),oP 145 (fA 1 15),oP 146 (lN 145),oP 147 (.buildS 1 [.int .u8 0] [(0,1,.tmp 146)]),oP 148 (.call 14 [tP 142,tP 144,tP 147])]))))))) (.ops [oP 149 (bK .add 93 1),mV 93 149])))
def c7 : AC := sO [oP 3 (.box (tP 0)),oP 6 (.mv kF)] (.seq (sO [oP 34 (.call 24 []),oP 35 (.un .not (tP 34))] (cT 35 (sO [oP 6 (.mv kF)] .ret) .skip)) (.seq (sO [oP 36 (.load (some 3) (tP 3)),oP 37 (.call 20 [tP 36]),oP 38 (.un .not (tP 37)),mV 39 38,gP 40 39 false (.mv (tP 1)),gP 41 39 false (.lenS true (tP 40)),gP 42 39 false (.load (some 3) (tP 3)),gP 43 39 false (.call 12 [tP 42]),gP 44 39 false (bT .gtr 41 43),oP 45 (pT 39 44),mV 46 45,gP 47 46 false (.mv (tP 1)),gP 48 46 false (.lenS true (tP 47)),gP 49 46 false (bK .gtr 48 5000),oP 50 (pT 46 49),mV 51 50,gP 52 51 false (.mv (tP 2)),gP 53 51 false (lS 52),gP 54 51 false (bK .gtr 53 40),oP 55 (pT 51 54)] (cT 55 (sO [oP 6 (.mv kT)] .ret) .skip)) (sO [oP 57 (.load (some 3) (tP 3)),oP 58 (.call 25 [tP 57]),mV 56 58,oP 59 (xR 56 0),oP 60 (xR 56 1),mV 7 59,mV 8 60] (sO [oP 62 (.load (some 3) (tP 3)),oP 63 (.call 25 [tP 62]),mV 61 63,oP 64 (xR 61 0),oP 65 (xR 61 1),mV 9 64,mV 10 65] (sO [oP 66 (.build [.int .i64 0,.int .i64 0,.int .i64 0] [(0,1,.const (.int .i64 3))]),mV 67 1,oP 68 (.call 27 [tP 66,tP 67]),oP 11 (.alloc z36),nP (.store 36 (tP 11) (tP 68))] (.seq (sO [mV 69 7,oP 70 (.eqv false .ptr (tP 69) (.const (.pointer none))),mV 71 70,gP 72 71 false (.mv (tP 9)),gP 73 71 false (.eqv false .ptr (tP 72) (.const (.pointer none))),oP 74 (pT 71 73),mV 75 74,gP 76 75 false (.mv (tP 7)),gP 77 75 false (.load (some 36) (tP 11)),gP 78 75 false (.mv (tP 1)),gP 79 75 false (.call 26 [tP 76,.const (.int .i64 1),tP 77,tP 78]),gP 80 75 false (bK .neq 79 0),oP 81 (pT 75 80),mV 82 81,gP 83 82 false (.mv (tP 9)),gP 84 82 false (.load (some 36) (tP 11)),gP 85 82 false (.mv (tP 1)),gP 86 82 false (.call 26 [tP 83,.const (.int .i64 2),tP 84,tP 85]),gP 87 82 false (bK .neq 86 0),oP 88 (pT 82 87)] (cT 88 (sO [oP 6 (.mv kF)] .ret) .skip)) (sO [oP 89 (.mkMap),mV 12 89] (sO [oP 90 (.mkMap),mV 13 90] (.seq (sO [mV 91 2,oP 92 (lS 91),oP 93 (.mv (kI 0))] (.block 0 (.loop c7_0))) (sO [oP 20 (.mv (.const (.string ⟨⟨[]⟩⟩)))] (.seq (sO [oP 21 (.mv (kI 0))] (.block 2 (.loop c7_2))) (sO [mV 163 7,oP 164 (.call 38 [tP 163,.const (.int .i64 1),.const (.int .i64 2)]),mV 162 164,oP 165 (xR 162 0),oP 166 (xR 162 1),mV 22 165,mV 23 166] (.seq (sO [mV 167 22,oP 168 (fA 2 3),oP 169 (lN 168),oP 170 (bT .neq 167 169),mV 171 170,gP 172 171 false (.mv (tP 23)),gP 173 171 false (bK .neq 172 0),oP 174 (pT 171 173)] (cT 174 (sO [oP 6 (.mv kF)] .ret) .skip)) (sO [oP 24 (.mv (.const (.string ⟨⟨[]⟩⟩)))] (.seq (sO [oP 25 (.mv (kI 0))] (.block 4 (.loop c7_4))) (.seq (sO [oP 187 (.load (some 3) (tP 3)),oP 188 (.call 35 [tP 187]),oP 189 (.bin .mul (kI 2) (tP 188)),mV 26 189] (.block 6 (.loop c7_6))) (.seq (.draw [([mV 204 8,oP 205 (.load (some 3) (tP 3)),oP 208 (.load (some 3) (tP 3))],[oP 206 (.call 35 [tP 205])],[oP 208 (.load (some 3) (tP 3))]),([oP 207 (.bin .mul (kI 2) (tP 206))],[oP 209 (.call 35 [tP 208])],[]),([oP 210 (.bin .mul (kI 3) (tP 209)),oP 211 (bK .sub 210 1)],[oP 212 (.buildS 3 [.int .i64 0,.int .i64 0,.int .i64 0] [(0,1,.const (.int .i64 0)),(1,1,.tmp 207),(2,1,.tmp 211)])],[]),([],[oP 213 (.call 39 [tP 204,tP 212])],[]),([mV 27 213],[],[])]) (sO [mV 215 7,oP 216 (.call 38 [tP 215,.const (.int .i64 1),.const (.int .i64 2)]),mV 214 216,oP 217 (xR 214 0),oP 218 (xR 214 1),mV 22 217,mV 23 218] (sO [mV 220 7,oP 221 (.call 38 [tP 220,.const (.int .i64 1),.const (.int .i64 1)]),mV 219 221,oP 222 (xR 219 0),oP 223 (xR 219 1),mV 28 222,mV 29 223] (sO [mV 225 7,oP 226 (.call 38 [tP 225,.const (.int .i64 1),.const (.int .i64 3)]),mV 224 226,oP 227 (xR 224 0),oP 228 (xR 224 1),mV 30 227,mV 31 228] (sO [mV 230 7,oP 231 (.call 38 [tP 230,.const (.int .i64 0),.const (.int .i64 2)]),mV 229 231,oP 232 (xR 229 0),oP 233 (xR 229 1),mV 32 232,mV 33 233] (.seq (.draw [([mV 234 24,mV 235 20,oP 236 (bT .eql 234 235),mV 237 236,gP 238 237 true (.mv (tP 22)),gP 239 237 true (bK .eql 238 0),oP 240 (pF 237 239),mV 241 240,gP 242 241 true (.mv (tP 23)),gP 243 241 true (bK .eql 242 0),oP 244 (pF 241 243),mV 245 244,gP 246 245 true (.mv (tP 8)),gP 247 245 true (.load (some 3) (tP 3)),gP 250 245 true (.load (some 3) (tP 3)),gP 256 245 true (.mv (tP 27))],[gP 248 245 true (.call 35 [tP 247])],[gP 250 245 true (.load (some 3) (tP 3))]),([gP 249 245 true (.bin .mul (kI 2) (tP 248))],[gP 251 245 true (.call 35 [tP 250])],[]),([gP 252 245 true (.bin .mul (kI 3) (tP 251)),gP 253 245 true (bK .sub 252 1)],[gP 254 245 true (.buildS 3 [.int .i64 0,.int .i64 0,.int .i64 0] [(0,1,.const (.int .i64 0)),(1,1,.tmp 249),(2,1,.tmp 253)])],[]),([],[gP 255 245 true (.call 39 [tP 246,tP 254])],[]),([gP 257 245 true (bT .eql 255 256),oP 258 (pF 245 257),mV 259 258,gP 260 259 true (.mv (tP 29)),gP 261 259 true (bK .eql 260 1),oP 262 (pF 259 261),mV 263 262,gP 264 263 true (.mv (tP 31)),gP 265 263 true (bK .eql 264 2),oP 266 (pF 263 265),mV 267 266,gP 268 267 true (.mv (tP 33)),gP 269 267 true (bK .eql 268 8),oP 270 (pF 267 269),mV 6 270],[],[])]) .ret))))))))))))))))))))))
theorem k7 : compF Tryz.prog Tryz.f7 = some (c7,[6]) := by kernel_rfl
theorem n7 : Tryz.f7.ntmps = 271 := by kernel_rfl
theorem _root_.Go.Proofs.YtdnmkenamgfjoaaGreat.arbd.ArK.keepF {H H' : Heap} {A : ArB} {V V' : DevS} (k : ArK H A V) (hn : H.n ≤ H'.n) (hc : H'.Closed) (g : ∀ u ob,H.m u = some ob → A.n1 ≤ u → H'.m u = some ob) (k' : DevK H' A.d A.x A.y A.z V') (u : DevU V') (hl : V'.lock.length = V.lock.length) : ArK H' A V' := by
 obtain ⟨l1,l2,l3,l4,l5⟩ := k.lo
 have hfr : Gr (frm H A.n1) (frm H' A.n1) := ⟨hn,fun b o e => hc b o (from_m e).2,fun b o e => by
  obtain ⟨q1,q2⟩ := from_m e
  show (if A.n1 ≤ b then H'.m b else none) = some o
  rw [if_pos q1]
  exact g b o q2 q1⟩
 refine ⟨k.rt, ?_, k.cd.keep hfr, k', k.lo, u, by rw [hl]; exact k.sz⟩
 have := g A.a _ (m_of_cells k.ca) (by omega)
 unfold Heap.cellsOf
 rw [this]
theorem rot_zero {V : DevS} {p : Nat} (hp : p < V.data.length) : V.rot p 0 = V := by
 unfold DevS.rot
 have : V.data.set p (V.data[p]! ^^^ 0) = V.data := by
  refine List.ext_getElem (by simp) fun i h1 h2 => ?_
  rw [List.getElem_set]
  split
  ·rename_i e; subst e; rw [getElem!_pos _ p hp]; simp
  ·rfl
 rw [this]
def catF (V : DevS) : Nat → List UInt8
 | 0 => []
 | n + 1 => catF V n ++ secF V n
theorem catF_len {V : DevS} (u : DevU V) : ∀ n,n ≤ V.lock.length → (catF V n).length = 64 * n
 | 0,_ => rfl
 | n + 1,h => by
   show (catF V n ++ secF V n).length = _
   rw [List.length_append,catF_len u n (by omega),secF_len u (by omega)]; omega
theorem catF_ext {V V' : DevS} : ∀ n,(∀ m,m < n → secF V m = secF V' m) → catF V n = catF V' n
 | 0,_ => rfl
 | n + 1,h => by
   show catF V n ++ secF V n = catF V' n ++ secF V' n
   rw [catF_ext n fun m hm => h m (by omega),h n (by omega)]
theorem crE_blank {b : List UInt8} (h : b.length = 60) : crE b ≠ List.replicate 64 255 := fun e => by
 have e2 := congrArg (List.take 60) e
 rw [crE_take h,List.take_replicate] at e2
 rw [e2] at e
 exact blank_bad e
theorem secs_blk {A : ArB} {x : Hd} {img : List UInt8} (B : Blk A x img) {k : Nat} (hk : k < A.S) : secs A ((blkF A x img k).take A.D) = (blkF A x img k).map crE := by rw [B.tk k hk]; rfl
theorem blkF_cong {A A2 : ArB} (h1 : A2.D = A.D) (h2 : A2.P = A.P) (h3 : A2.S = A.S) (x : Hd) (img : List UInt8) (k : Nat) : blkF A2 x img k = blkF A x img k := by unfold blkF; rw [h1,h2,h3]
structure McS where
 i : Nat
 X : List Int
 c : Int → Nat
 Z : List Int
 c2 : Int → Nat
 K : List Int
 V : DevS
 H : Heap
set_option maxHeartbeats 16000000 in
theorem areaCopies_law (d p s : Int) (img : List UInt8) (L : List (Int × UInt8)) (lv : Value) (h : Heap) (hl : SlG eR 2 h lv L) (wf : ∀ x ∈ L,-9223372036854775808 ≤ x.1 ∧ x.1 < 9223372036854775808) :
  ACalls Tryz.prog 7 [gv d p s,.string (bs img),lv] h fun v _ => v = .bool true ∧ True := by
 refine acalls_of mix Tryz.func7 k7 n7 (by simp) fun hcl hb => ?_
 have fil0 : afill [.int .i64 0,.int .i64 0,.int .i64 0] [(0,1,.int .i64 3)] = some [.int .i64 3,.int .i64 0,.int .i64 0] := rfl
 have h30 : (.agg #[.int .i64 3,.int .i64 0,.int .i64 0] : Value) = v3 3 0 0 := rfl
 have hq := ptrq
 have c1 : (h.push (.cells [.int .i64 d,.int .i64 p,.int .i64 s] .ex 1)).Closed := closed_push hcl (fun x hx => by simp at hx; rcases hx with rfl | rfl | rfl <;> exact .int)
 have f1 := cellsOf_new h [.int .i64 d,.int .i64 p,.int .i64 s] .ex 1
 have n1 : (h.push (.cells [.int .i64 d,.int .i64 p,.int .i64 s] .ex 1)).n = h.n + 1 := rfl
 have g1 : Gr h (h.push (.cells [.int .i64 d,.int .i64 p,.int .i64 s] .ex 1)) := ⟨Nat.le_succ _,c1,keep_push hcl _⟩
 have bl0 := hb lv (by simp)
 obtain ⟨al,cl,rfl⟩ := hl.form
 simp only [c7,s_seq,s_ops]
 simp [gvm]
 generalize h.push (.cells [.int .i64 d,.int .i64 p,.int .i64 s] .ex 1) = H1 at *
 have s1 := hl.keep g1.m
 refine (arawake_ok H1).eqK ?_
 simp [aun,f1,apart,gvc,gva]
 refine (gRefRight_ok d p s H1).eqK ?_
 cases hr : right d p s
 ·simp [aun]
 simp [aun,f1,apart,gvc,gva,bs_size]
 refine (groom_ok d p s H1).eqK ?_
 by_cases hroom : roomF d p s < (img.length : Int)
 ·simp [hroom]
 by_cases hbig : (5000 : Int) < (img.length : Int)
 ·simp [hroom,hbig,bs_size]
 by_cases hbig1 : (40 : Int) < (L.length : Int)
 ·simp [hroom,hbig,hbig1,bs_size]
 obtain ⟨D,P,S,rfl,rfl,rfl⟩ := nats_of hr
 simp [hroom,hbig,hbig1,bs_size,f1,apart,gvc,gva]
 refine (fresh_ok D P S hr H1).mono' ?_
 rintro _ HA cA _ ⟨A,rfl,KA,gA,ha,hd,hx,hy,hz,hD,hP,hS⟩
 have fA := cellsOf_keep gA.m f1
 simp [fA,apart,gvc,gva]
 refine (fresh_ok D P S hr HA).mono' ?_
 rintro _ HB cB _ ⟨A2,rfl,KB,gB,ha2,hd2,hx2,hy2,hz2,hD2,hP2,hS2⟩
 have KA1 := KA.keep gB
 simp [fil0,h30]
 refine (hof_ok 3 0 0 img (by omega) HB).eqK ?_
 have hE := of_E KA.rt 3 0 0 (by unfold rng; decide) rng0 rng0 img (by rw [hD,hP,hS]; omega) (by omega)
 have hE2 := of_E KB.rt 3 0 0 (by unfold rng; decide) rng0 rng0 img (by rw [hD2,hP2,hS2]; omega) (by omega)
 have free : ∀ a k i,a ≤ 2 → k < A.S → i < A.D + A.P → (dev0 (allS (D : Int) P S).toNat).lock[secN A.D A.P A.S a k i]! = false := fun a k i ha hk hi => secs_free (D := D) (P := P) (S := S) _ _ (by
  have := (secN_lt KA.rt ha hk hi).1
  rw [hD,hP,hS] at this
  rw [hD,hP,hS]
  omega)
 have free2 : ∀ a k i,a ≤ 2 → k < A2.S → i < A2.D + A2.P → (dev0 (allS (D : Int) P S).toNat).lock[secN A2.D A2.P A2.S a k i]! = false := fun a k i ha hk hi => secs_free (D := D) (P := P) (S := S) _ _ (by
  have := (secN_lt KB.rt ha hk hi).1
  rw [hD2,hP2,hS2] at this
  rw [hD2,hP2,hS2]
  omega)
 obtain ⟨xB,hxB⟩ : ∃ xB : Hd,(⟨3,0,0,(img.length : Int),shaB img⟩ : Hd) = xB := ⟨_,rfl⟩
 have hsB : xB.hs = shaB img := by rw [← hxB]
 have hx32 : xB.hs.length = 32 := by rw [hsB]; exact shaB_len _
 rw [hxB] at hE hE2
 rw [hxB]
 have hlen : (hc xB).length = 36 := by simp [hc,ubs_len,hx32]
 have hz36 : z36.length = 36 := by rw [z36_eq]; simp [hc,ubs_len,zH,z32]
 have hpx : aput z36 0 (hc xB) = hc xB := by
  unfold aput
  rw [hlen,List.drop_eq_nil_of_le (by rw [hz36]; omega)]
  simp
 have c36 := acut_full hlen
 have hva : (.agg (hc xB).toArray : Value) = hv xB := rfl
 have fz := cellsOf_new HB z36 .ex 1
 have fh := cellsOf_new HB (hc xB) .ex 1
 have cC : (HB.push (.cells (hc xB) .ex 1)).Closed := closed_push cB hc_bel
 have gC : Gr HB (HB.push (.cells (hc xB) .ex 1)) := ⟨Nat.le_succ _,cC,keep_push cB _⟩
 have nC : (HB.push (.cells (hc xB) .ex 1)).n = HB.n + 1 := rfl
 obtain ⟨l1,l2,l3,l4,l5⟩ := KA.lo
 obtain ⟨m1', m2', m3', m4', m5'⟩ := KB.lo
 have aAn : A.a < HA.n := cellsOf_lt cA KA.ca
 have dA1 := cellsOf_lt cA KA.dv.cd
 have dA2 : A.x < HA.n ∧ A.y < HA.n ∧ A.z < HA.n := by
  obtain ⟨_,_,e1,_⟩ := KA.dv.cx
  obtain ⟨_,_,e2,_⟩ := KA.dv.cy
  obtain ⟨_,_,e3,_⟩ := KA.dv.cz
  exact ⟨cellsOf_lt cA e1,cellsOf_lt cA e2,cellsOf_lt cA e3⟩
 have dB2 : A2.d < HB.n ∧ A2.x < HB.n ∧ A2.y < HB.n ∧ A2.z < HB.n := by
  obtain ⟨_,_,e1,_⟩ := KB.dv.cx
  obtain ⟨_,_,e2,_⟩ := KB.dv.cy
  obtain ⟨_,_,e3,_⟩ := KB.dv.cz
  exact ⟨cellsOf_lt cB KB.dv.cd,cellsOf_lt cB e1,cellsOf_lt cB e2,cellsOf_lt cB e3⟩
 have nA := gA.n
 have nB := gB.n
 simp [fz,m_hv,m_hc,hlen,hz36,hpx,set_push,fh,c36,hva,hq,apart]
 generalize HB.push (.cells (hc xB) .ex 1) = HC at *
 have KC := KA1.keep gC
 have KC2 := KB.keep gC
 refine (fill_ok A _ 1 (by omega) xB hx32 img (by omega) hE HC KC (fun k i hk hi => free 1 k i (by omega) hk hi)).mono' ?_
 rintro _ HD cD _ ⟨rfl,V4,KD,w4,gD⟩
 have nD := gD.n
 have fhD : HD.cellsOf HB.n = some (hc xB,.ex,1) := by
  have := gD.m _ _ (m_of_cells fh) (by omega) (by omega) (by omega) (by omega)
  unfold Heap.cellsOf; rw [this]
 have KD2 : ArK HD A2 (dev0 (allS (D : Int) P S).toNat) := KC2.keepF gD.n cD (fun u ob e hu => gD.m u ob e (by omega) (by omega) (by omega) (by omega)) (KC2.dv.keepM fun u ob e hu => gD.m u ob e (by omega) (by omega) (by omega) (by omega)) KC2.du rfl
 simp [fhD,c36,hva,apart]
 refine (fill_ok A2 _ 2 (by omega) xB hx32 img (by omega) hE2 HD KD2 (fun k i hk hi => free2 2 k i (by omega) hk hi)).mono' ?_
 rintro _ H4 c4 _ ⟨rfl,W4,K42,w42,g4⟩
 have n4 := g4.n
 have full := Full.of w4
 have full2 := Full.of w42
 have Bk := blk_ok A KA.rt xB hx32 img hE
 have Bk2 := blk_ok A2 KB.rt xB hx32 img hE2
 have kA4 : ∀ u ob,HA.m u = some ob → u ≠ A.d → u ≠ A.x → u ≠ A.y → u ≠ A.z → H4.m u = some ob := fun u ob e y1 y2 y3 y4 => by
  have hu := (cA u ob e).1
  exact g4.m u ob (gD.m u ob (gC.m _ _ (gB.m u ob e)) y1 y2 y3 y4) (by omega) (by omega) (by omega) (by omega)
 have K4 : ArK H4 A V4 := KA.keepX ⟨by omega,c4,kA4⟩ (KD.dv.keepM fun u ob e hu => g4.m u ob e (by omega) (by omega) (by omega) (by omega)) KD.du (by rw [w4.lk])
 have kx : ∀ {Hb : Heap},ArX A H4 Hb → ∀ u ob,H1.m u = some ob → Hb.m u = some ob := fun g u ob e => by
  have := (c1 u ob e).1
  have e3 := gA.m u ob e
  exact g.m u ob (kA4 u ob e3 (by omega) (by omega) (by omega) (by omega)) (by omega) (by omega) (by omega) (by omega)
 have fx : ∀ {Hb : Heap},ArX A H4 Hb → Hb.cellsOf h.n = some ([.int .i64 D,.int .i64 P,.int .i64 S],.ex,1) := fun g => cellsOf_keep (kx g) f1
 have sx : ∀ {Hb : Heap},ArX A H4 Hb → SlG eR 2 Hb (.slice al L.length cl) L := fun g => s1.keep (kx g)
 have dx : ∀ {Hb : Heap},ArX A H4 Hb → DevK Hb A2.d A2.x A2.y A2.z W4 := fun g => K42.dv.keepM fun u ob e hu => g.m u ob e (by omega) (by omega) (by omega) (by omega)
 have a4n : A.a < H4.n := by omega
 have n13 : H1.n ≤ H4.n := by omega
 have bl : VBelow H4.n (.slice al L.length cl) := bl0.mono (by omega)
 have slR := slot_right hr
 have slB := slot_bound (d := (D : Int)) (p := P) (s := S)
 obtain ⟨⟨hd1,hd8⟩,⟨hp2,hp6⟩,hn1,hn8⟩ := right_prop.1 hr
 simp
 have hm0' : (H4.push (.map [] 0)).Closed := closed_push (o := .map [] 0) c4 (show ∀ e ∈ [],_ from fun e he => by cases he)
 have hm0 : ((H4.push (.map [] 0)).push (.map [] 0)).Closed := closed_push (o := .map [] 0) hm0' (show ∀ e ∈ [],_ from fun e he => by cases he)
 have km : ∀ u ob,H4.m u = some ob → ((H4.push (.map [] 0)).push (.map [] 0)).m u = some ob := fun u ob e => keep_push hm0' _ u ob (keep_push c4 _ u ob e)
 have nn : ((H4.push (.map [] 0)).push (.map [] 0)).n = H4.n + 2 := rfl
 have m1 : ((H4.push (.map [] 0)).push (.map [] 0)).m H4.n = some (.map (hitF 0 []) 0) := by
  rw [push_m,if_neg (by show H4.n ≠ H4.n + 1; omega),push_m,if_pos rfl]; rfl
 have m2 : ((H4.push (.map [] 0)).push (.map [] 0)).m (H4.n + 1) = some (.map (manI (fun _ => 0) 0 []) 0) := by
  rw [push_m,if_pos (show H4.n + 1 = (H4.push _).n from rfl)]; rfl
 generalize (H4.push (.map [] 0)).push (.map [] 0) = H5 at *
 have g5 : ArX A H4 H5 := ⟨by omega,hm0,fun u ob e _ _ _ _ => km u ob e⟩
 have gg5 : Gr H4 H5 := ⟨by omega,hm0,km⟩
 refine awp_loop_of (α := McS) (fun z => z.i ≤ L.length ∧ Turn A 1 V4 z.V z.X z.c ∧ DevK z.H A.d A.x A.y A.z z.V ∧ z.H.m H4.n = some (.map (hitF 0 z.Z) z.Z.length) ∧ ManK z.H (H4.n + 1) z.c2 z.K ∧ ArX A H4 z.H ∧ H4.n + 2 ≤ z.H.n ∧ (∀ m ∈ z.X,m ∈ z.Z) ∧ (∀ k,z.c k ≤ z.c2 k) ∧ (∀ k : Nat,k < A.S → z.c2 k ≤ P / 2) ∧ (∀ m ∈ z.Z,m < 2 * slot (D : Int) P S) ∧ ∀ m ∈ z.Z,slot (D : Int) P S ≤ m) (fun z => [(3,.pointer (some ⟨h.n,0,none⟩)),(7,.pointer (some ⟨A.a,0,none⟩)),(8,.pointer (some ⟨A.d,0,none⟩)),(10,.pointer (some ⟨A2.d,0,none⟩)),(12,.map (some H4.n)),(13,.map (some (H4.n + 1))),(91,.slice al L.length cl),(92,.int .i64 (L.length : Int)),(93,.int .i64 (z.i : Int))]) (fun z => z.H) (fun z => L.length - z.i) ⟨0,[],fun _ => 0,[],fun _ => 0,[],V4,H5⟩
  ⟨Nat.zero_le _,Turn.zero K4.du,(K4.keep gg5).dv,m1,⟨List.nodup_nil,m2,fun _ _ => rfl⟩,g5,by show H4.n + 2 ≤ H5.n; omega,(fun m hm => by cases hm),(fun _ => Nat.le_refl _),(fun _ _ => Nat.zero_le _),(fun m hm => by cases hm),fun m hm => by cases hm⟩ ⟨by show h.n ≤ H5.n; omega,Nat.le_refl _,fun _ _ e => e,hm0⟩ (by simp; exact ⟨.ptr (by show h.n < _; omega),.ptr (by show A.a < _; omega),.ptr (by show A.d < _; omega),.ptr (by show A2.d < _; omega),.map (by show H4.n < _; omega),.map (by show H4.n + 1 < _; omega),bl.mono (by omega),.int,.int⟩) ?_
 ·rintro ⟨i,X,c,Z,c2,K,V,H⟩ ⟨hi,t,dk,hm,mk,gH,nH,hXZ,hcc,hcP2,hZs,hZ1⟩
  dsimp only at hi t dk hm mk gH nH hXZ hcc hcP2 hZs hZ1 ⊢
  by_cases hlt : i < L.length
  ·have hi' : (i : Int) < (L.length : Int) := by omega
   have w4 := w64n (i := i) (by omega)
   obtain ⟨rb,ro,rcap,rc,rm,re,hv0,hrc,hcut⟩ := (sx gH).at' hlt
   obtain ⟨rfl,_,rfl⟩ := Value.slice.inj hv0
   obtain ⟨⟨xa,xb⟩,hxL⟩ : ∃ x,L[i] = x := ⟨_,rfl⟩
   have wfx : -9223372036854775808 ≤ xa ∧ xa < 9223372036854775808 := wf (xa,xb) (by rw [← hxL]; exact List.getElem_mem hlt)
   obtain ⟨n,hwn,hn0,hn1⟩ := q64 xa wfx
   rw [hxL] at hcut
   have hcut' : acut rc (ro + i * 2) 2 = some [.int .i64 xa,.int .u8 (xb.toNat : Int)] := hcut
   have c6 : (H.push (.cells [.int .i64 xa,.int .u8 (xb.toNat : Int)] .ex 1)).Closed := closed_push gH.cl (fun y hy => by simp at hy; rcases hy with rfl | rfl <;> exact .int)
   have f6 := cellsOf_new H [.int .i64 xa,.int .u8 (xb.toNat : Int)] .ex 1
   have f60 := cellsOf_new H [.int .i64 0,.int .u8 0] .ex 1
   have hp6 : aput [.int .i64 0,.int .u8 0] 0 [.int .i64 xa,.int .u8 (xb.toNat : Int)] = [.int .i64 xa,.int .u8 (xb.toNat : Int)] := rfl
   have hm6 : mcells (.agg #[.int .i64 xa,.int .u8 (xb.toNat : Int)]) = some [.int .i64 xa,.int .u8 (xb.toNat : Int)] := rfl
   have g6 : Gr H (H.push (.cells [.int .i64 xa,.int .u8 (xb.toNat : Int)] .ex 1)) := ⟨Nat.le_succ _,c6,keep_push gH.cl _⟩
   have hfH := fx gH
   have hf6 := cellsOf_keep g6.m hfH
   have n6 : (H.push (.cells [.int .i64 xa,.int .u8 (xb.toNat : Int)] .ex 1)).n = H.n + 1 := rfl
   simp [c7_0, hi', aidx_of hlt, hrc, hcut', f60, hp6, hm6, set_push, hf6, f6, apart, gvc, gva, hwn, -Int.natCast_add]
   generalize H.push (.cells [.int .i64 xa,.int .u8 (xb.toNat : Int)] .ex 1) = H6 at *
   have gx6 : ArX A H4 H6 := Xd.trans gH (Xd.of g6)
   have dk6 : DevK H6 A.d A.x A.y A.z V := dk.keepM fun u ob e _ => g6.m u ob e
   have hh6 := g6.m _ _ hm
   have mk6 : ManK H6 (H4.n + 1) c2 K := ⟨mk.nd, g6.m _ _ mk.at', mk.off⟩
   have sub6 : Heap.Sub h.n H6 H6 := ⟨by omega,Nat.le_refl _,fun _ _ e => e,c6⟩
   have bl6 : VBelow H6.n (.slice (some ⟨rb,ro,none⟩) L.length cl) := bl.mono (by omega)
   have b1 : VBelow H6.n (.pointer (some ⟨h.n,0,none⟩)) := .ptr (by show h.n < _; omega)
   have b2 : VBelow H6.n (.pointer (some ⟨A.a,0,none⟩)) := .ptr (by show A.a < _; omega)
   have b3 : VBelow H6.n (.pointer (some ⟨A.d,0,none⟩)) := .ptr (by show A.d < _; omega)
   have b3' : VBelow H6.n (.pointer (some ⟨A2.d,0,none⟩)) := .ptr (by show A2.d < _; omega)
   have b4 : VBelow H6.n (.map (some H4.n)) := .map (by show H4.n < _; omega)
   have b5 : VBelow H6.n (.map (some (H4.n + 1))) := .map (by show H4.n + 1 < _; omega)
   have sk : i + 1 ≤ L.length ∧ Turn A 1 V4 V X c ∧ DevK H6 A.d A.x A.y A.z V ∧ H6.m H4.n = some (.map (hitF 0 Z) Z.length) ∧ ManK H6 (H4.n + 1) c2 K ∧ ArX A H4 H6 ∧ H4.n + 2 ≤ H6.n ∧ (∀ m ∈ X,m ∈ Z) ∧ (∀ k,c k ≤ c2 k) ∧ (∀ k : Nat,k < A.S → c2 k ≤ P / 2) ∧ (∀ m ∈ Z,m < 2 * slot (D : Int) P S) ∧ ∀ m ∈ Z,slot (D : Int) P S ≤ m := ⟨by omega,t,dk6,hh6,mk6,gx6,by omega,hXZ,hcc,hcP2,hZs,hZ1⟩
   refine (of_ok D P S n H6).eqK ?_
   by_cases hin : 0 ≤ n ∧ n ≤ 3 * slot D P S - 1
   case neg =>
    have e1 : ofR D P S n = .tuple #[.int .i64 0,.int .i64 0,.int .i64 0,.bool false] := by unfold ofR; rw [if_neg (fun q => hin q.2)]
    simp [e1,aun,w4,-Int.natCast_add]
    exact ⟨⟨i + 1, X, c, Z, c2, K, V, H6⟩, by show L.length - (i + 1) < L.length - i; omega, sk, sub6, b1, b2, b3, b3', b4, b5, bl6, .int, rfl, .int⟩
   obtain ⟨a0,ha0⟩ : ∃ a0,n / slot D P S = a0 := ⟨_,rfl⟩
   obtain ⟨k0,hk0⟩ : ∃ k0,n % slot D P S % S = k0 := ⟨_,rfl⟩
   obtain ⟨i0,hi0⟩ : ∃ i0,n % slot D P S / S = i0 := ⟨_,rfl⟩
   have e1 : ofR D P S n = .tuple #[.int .i64 a0,.int .i64 k0,.int .i64 i0,.bool true] := by unfold ofR; rw [if_pos ⟨hr,hin⟩,ha0,hk0,hi0]
   by_cases h2 : a0 = 1
   case neg =>
    simp [e1,aun,h2,w4,-Int.natCast_add]
    exact ⟨⟨i + 1, X, c, Z, c2, K, V, H6⟩, by show L.length - (i + 1) < L.length - i; omega, sk, sub6, b1, b2, b3, b3', b4, b5, bl6, .int, rfl, .int⟩
   subst h2
   have hsl6 : 3 ≤ slot (D : Int) P S := by omega
   have hn2 : 3 ≤ n := by
    have := Int.mul_ediv_add_emod n (slot (D : Int) P S)
    rw [ha0] at this
    have := Int.emod_nonneg n (show slot (D : Int) P S ≠ 0 by omega)
    omega
   have hxa : ¬ xa < 0 := fun q => by have := hn1 q; omega
   obtain ⟨p,rfl⟩ : ∃ p : Nat,xa = p := ⟨xa.toNat,by omega⟩
   have hnp : n = ((p / 64 : Nat) : Int) := by rw [hn0 (by omega)]; omega
   have hwp : IntKind.i64.wrap ((p : Int) / 64) = n := by rw [IntWalk.i64_in _ (by omega),hn0 (by omega)]
   by_cases hX : n ∈ Z
   ·obtain ⟨j,e,q1,q2,q3⟩ := find_hit (i := 0) (k := 0) hX
    rw [Nat.zero_add] at q1
    simp [e1,aun,f6,apart,w4,hxa,hwn,hwp,hh6,okI,q1,q2,q3,-Int.natCast_add]
    exact ⟨⟨i + 1, X, c, Z, c2, K, V, H6⟩, by show L.length - (i + 1) < L.length - i; omega, sk, sub6, b1, b2, b3, b3', b4, b5, bl6, .int, rfl, .int⟩
   have q1 := find_nohit (i := 0) (k := 0) hX
   have hPq : IntKind.i64.wrap (((P : Nat) : Int).tdiv 2) = ((P / 2 : Nat) : Int) := by rw [Int.tdiv_eq_ediv_of_nonneg (by omega),IntWalk.i64_in _ (by omega)]; omega
   have hPq' : IntKind.i64.wrap (((P : Nat) : Int) / 2) = ((P / 2 : Nat) : Int) := wI (by omega)
   by_cases hck : c2 k0 = P / 2
   ·rcases manI_get mk6 k0 with ⟨j,r1,r2,r3⟩ | ⟨_,r2,_⟩
    ·simp [e1, aun, f6, apart, w4, hxa, hwn, hwp, hh6, okI, q1, mk6.at', r1, r2, hck, hf6, hPq, hPq', -Int.natCast_add]
     exact ⟨⟨i + 1, X, c, Z, c2, K, V, H6⟩, by show L.length - (i + 1) < L.length - i; omega, sk, sub6, b1, b2, b3, b3', b4, b5, bl6, .int, rfl, .int⟩
    ·omega
   have hrs := Int.mul_ediv_add_emod n (slot (D : Int) P S)
   rw [ha0] at hrs
   have hr0 := Int.emod_nonneg n (show slot (D : Int) P S ≠ 0 by omega)
   have hr1 := Int.emod_lt_of_pos n (show 0 < slot (D : Int) P S by omega)
   have hk1 := Int.emod_nonneg (n % slot (D : Int) P S) (show (S : Int) ≠ 0 by omega)
   have hk2 := Int.emod_lt_of_pos (n % slot (D : Int) P S) (show 0 < (S : Int) by omega)
   have hi1 := Int.ediv_nonneg hr0 (show 0 ≤ (S : Int) by omega)
   have hi2 : n % slot (D : Int) P S / S < (D : Int) + P := Int.ediv_lt_of_lt_mul (by omega) (by rw [← slR.1]; exact hr1)
   have hri := Int.mul_ediv_add_emod (n % slot (D : Int) P S) S
   rw [hk0] at hk1 hk2 hri
   rw [hi0] at hi1 hi2 hri
   obtain ⟨kn,rfl⟩ : ∃ kn : Nat,k0 = kn := ⟨k0.toNat,by omega⟩
   obtain ⟨jn,rfl⟩ : ∃ jn : Nat,i0 = jn := ⟨i0.toNat,by omega⟩
   have hsec : p / 64 = secN A.D A.P A.S 1 kn jn := by
    have e0 : ((p / 64 : Nat) : Int) = ((secN A.D A.P A.S 1 kn jn : Nat) : Int) := by
     rw [← hnp]
     unfold secN
     rw [hD,hP,hS]
     push_cast
     rw [← slR.1,← hrs,← hri,Int.mul_comm (jn : Int) S]
     omega
    omega
   have hkS : kn < A.S := by rw [hS]; omega
   have hjW : jn < A.D + A.P := by rw [hD,hP]; omega
   have hlim := hcP2 kn hkS
   have hlt2 : c2 (kn : Int) < P / 2 := by omega
   have hccn := hcc kn
   have hcP : c (kn : Int) < A.P := by rw [hP]; omega
   have hfit := secN_fit K4 (a := 1) (by omega) hkS hjW
   have hp4 : p < V4.data.length := by rw [K4.du.dl]; omega
   have hpV : p < V.data.length := by rw [t.u.dl,t.lk]; omega
   have hX' : ((p / 64 : Nat) : Int) ∉ X := by rw [← hnp]; exact fun q => hX (hXZ _ q)
   have hbk : bump c2 kn kn = c2 kn + 1 := by unfold bump; rw [if_pos rfl]
   have hbr : ∀ r,r ≠ (kn : Int) → bump c2 kn r = c2 r := fun r q => by unfold bump; rw [if_neg q]
   obtain ⟨X3, c3', tt, hXZ3, hcc3⟩ : ∃ X3 c3', Turn A 1 V4 (V.rot p xb) X3 c3' ∧ (∀ m ∈ X3, m ∈ Z ++ [n]) ∧ ∀ k, c3' k ≤ bump c2 kn k := by
    by_cases hb0 : xb = 0
    ·refine ⟨X,c,by rw [hb0,rot_zero hpV]; exact t,fun m hm => List.mem_append_left _ (hXZ m hm),fun k => ?_⟩
     have := hcc k
     by_cases hk : k = (kn : Int)
     ·rw [hk] at this ⊢; rw [hbk]; omega
     ·rw [hbr k hk]; exact this
    ·have tt := t.succ K4.du hb0 hkS hjW hsec hp4 hX' hcP
     rw [← hnp] at tt
     refine ⟨X ++ [n],bump c kn,tt,fun m hm => ?_,fun k => ?_⟩
     ·rcases List.mem_append.1 hm with q | q
      ·exact List.mem_append_left _ (hXZ m q)
      ·exact List.mem_append_right _ q
     ·have := hcc k
      unfold bump
      split <;> omega
   have hcP3 : ∀ k : Nat,k < A.S → bump c2 kn k ≤ P / 2 := fun k hk => by
    by_cases hk2 : (k : Int) = (kn : Int)
    ·rw [hk2,hbk]; omega
    ·rw [hbr k hk2]; exact hcP2 k hk
   have hZs3 : ∀ m ∈ Z ++ [n],m < 2 * slot (D : Int) P S := fun m hm => by
    rcases List.mem_append.1 hm with q | q
    ·exact hZs m q
    ·simp at q; rw [q]; omega
   have hZ13 : ∀ m ∈ Z ++ [n],slot (D : Int) P S ≤ m := fun m hm => by
    rcases List.mem_append.1 hm with q | q
    ·exact hZ1 m q
    ·simp at q; rw [q]; omega
   have hX1 := hitF_app Z 0 n
   rw [Nat.zero_add] at hX1
   have hX2 := hX1.symm
   have hs1 : ∀ ob,(H6.set H4.n ob).cellsOf H.n = some ([.int .i64 (p : Int),.int .u8 (xb.toNat : Int)],.ex,1) := fun ob => by unfold Heap.cellsOf at f6 ⊢; rw [set_m,if_neg (by omega)]; exact f6
   have hs2 : ∀ ob ob2,((H6.set H4.n ob).set (H4.n + 1) ob2).cellsOf H.n = some ([.int .i64 (p : Int),.int .u8 (xb.toNat : Int)],.ex,1) := fun ob ob2 => by have := hs1 ob; unfold Heap.cellsOf at this ⊢; rw [set_m,if_neg (by omega)]; exact this
   have hm1 : ∀ ob,(H6.set H4.n ob).m (H4.n + 1) = some (.map (manI c2 0 K) K.length) := fun ob => by rw [set_m,if_neg (by omega)]; exact mk6.at'
   have hcw : IntKind.i64.wrap ((c2 (kn : Int) : Int) + 1) = ((c2 (kn : Int) + 1 : Nat) : Int) := wI (by omega)
   have hcI : ¬ ((c2 (kn : Int) : Int) = ((P / 2 : Nat) : Int)) := by omega
   have hcI2 : ¬ ((c2 (kn : Int) : Int) = (P : Int) / 2) := by omega
   rcases manI_get mk6 kn with ⟨j,r1,r2,r3⟩ | ⟨r1,r2,r3⟩
   ·have hset := manI_set (c := c2) (c' := bump c2 kn) (k := 0) mk6.nd r3 hbr
    rw [hbk,Nat.zero_add] at hset
    have hH8 : ∃ H8,(H6.set H4.n (.map (hitF 0 (Z ++ [n])) (Z.length + 1))).set (H4.n + 1) (.map (manI (bump c2 kn) 0 K) K.length) = H8 := ⟨_,rfl⟩
    obtain ⟨H8,hH8⟩ := hH8
    have c8 : H8.Closed := by
     rw [← hH8]
     exact closed_set (closed_set c6 (by omega) (show ∀ e ∈ hitF 0 (Z ++ [n]),_ from hitF_bel)) (by show H4.n + 1 < H6.n; omega) (show ∀ e ∈ manI (bump c2 kn) 0 K,_ from manI_bel)
    have k8 : ∀ u ob,H6.m u = some ob → u ≠ H4.n → u ≠ H4.n + 1 → H8.m u = some ob := fun u ob e q3 q4 => by rw [← hH8,set_m,if_neg q4,set_m,if_neg q3]; exact e
    have n8 : H8.n = H6.n := by rw [← hH8]; rfl
    have gx8 : ArX A H4 H8 := ⟨by omega,c8,fun u ob e y1 y2 y3 y4 => k8 u ob (gx6.m u ob e y1 y2 y3 y4) (by have := (c4 u ob e).1; omega) (by have := (c4 u ob e).1; omega)⟩
    have hh8 : H8.m H4.n = some (.map (hitF 0 (Z ++ [n])) (Z ++ [n]).length) := by rw [← hH8,set_m,if_neg (by omega),set_m,if_pos rfl,List.length_append]; rfl
    have mk8 : ManK H8 (H4.n + 1) (bump c2 kn) (K) := ⟨mk6.nd,by rw [← hH8,set_m,if_pos rfl],fun r q => by rw [hbr r (fun e => q (by rw [e]; exact List.mem_of_getElem? r3))]; exact mk6.off r q⟩
    have dk8 : DevK H8 A.d A.x A.y A.z V := dk6.keepM fun u ob e hu => k8 u ob e (by omega) (by omega)
    have fil : afill [.int .u8 0] [(0,1,.int .u8 (xb.toNat : Int))] = some [.int .u8 (xb.toNat : Int)] := rfl
    simp [e1, aun, f6, apart, w4, hxa, hwn, hwp, hh6, okI, q1, mk6.at', r1, r2, hck, hcI, hcI2, hf6, hPq, hPq', hX2, hs1, hs2, hm1, fil, hcw, hset, -Int.natCast_add]
    rw [hH8]
    have c9 : (H8.push (.cells [.int .u8 (xb.toNat : Int)] .ex 1)).Closed := closed_push c8 (fun y hy => by simp at hy; subst hy; exact .int)
    have g9 : Gr H8 (H8.push (.cells [.int .u8 (xb.toNat : Int)] .ex 1)) := ⟨Nat.le_succ _,c9,keep_push c8 _⟩
    have f9 := cellsOf_new H8 [.int .u8 (xb.toNat : Int)] .ex 1
    have dk9 : DevK (H8.push (.cells [.int .u8 (xb.toNat : Int)] .ex 1)) A.d A.x A.y A.z V := dk8.keepM fun u ob e _ => g9.m u ob e
    have e8 : H6.n = H8.n := n8.symm
    first | rw [e8] | skip
    generalize H8.push (.cells [.int .u8 (xb.toNat : Int)] .ex 1) = H9 at *
    refine (rot_ok A.d A.x A.y A.z V t.u p xb hpV H8.n .ex 1 H9 dk9 f9).mono' ?_
    rintro _ H10 c10 _ ⟨rfl,dk10,g10⟩
    have n9 := g9.n
    have n10 := g10.n
    have gxE : ArX A H4 H10 := Xd.trans gx8 (Xd.trans (Xd.of g9) g10)
    have hhE : H10.m H4.n = some (.map (hitF 0 (Z ++ [n])) (Z ++ [n]).length) := g10.m _ _ (g9.m _ _ hh8) (by omega) (by omega) (by omega) (by omega)
    have mkE : ManK H10 (H4.n + 1) (bump c2 kn) (K) := ⟨mk8.nd,g10.m _ _ (g9.m _ _ mk8.at') (by omega) (by omega) (by omega) (by omega),mk8.off⟩
    simp [w4,-Int.natCast_add]
    exact ⟨⟨i + 1, X3, c3', Z ++ [n], bump c2 kn, K, V.rot p xb, H10⟩, by show L.length - (i + 1) < L.length - i; omega, ⟨by show i + 1 ≤ L.length; omega, tt, dk10, hhE, mkE, gxE, by show H4.n + 2 ≤ H10.n; omega, hXZ3, hcc3, hcP3, hZs3, hZ13⟩, ⟨by show h.n ≤ H10.n; omega, Nat.le_refl _, fun _ _ e => e, c10⟩, b1.mono (by show H6.n ≤ H10.n; omega), b2.mono (by show H6.n ≤ H10.n; omega), b3.mono (by show H6.n ≤ H10.n; omega), b3'.mono (by show H6.n ≤ H10.n; omega), b4.mono (by show H6.n ≤ H10.n; omega), b5.mono (by show H6.n ≤ H10.n; omega), bl6.mono (by show H6.n ≤ H10.n; omega), .int, rfl, .int⟩
   ·have happ := manI_app c2 K 0 kn
    have hcong := manI_cong (c := c2) (c' := bump c2 kn) (K := K) (k := 0) fun q hq => (hbr q (fun e => r3 (e ▸ hq))).symm
    have happ2 : manI c2 0 K ++ [⟨.int .i64 kn,.int .i64 1,K.length⟩] = manI (bump c2 kn) 0 (K ++ [(kn : Int)]) := by
     rw [manI_app,hbk,r2,← hcong]; simp
    have hw1 : IntKind.i64.wrap 1 = 1 := by decide
    have hP0 : ¬ ((0 : Int) = ((P / 2 : Nat) : Int)) := by omega
    have hP3 : ¬ ((0 : Int) = (P : Int) / 2) := by omega
    have hP1 : ¬ (0 = P / 2) := by omega
    have hP2 : ¬ (P / 2 = 0) := by omega
    have hH8 : ∃ H8,(H6.set H4.n (.map (hitF 0 (Z ++ [n])) (Z.length + 1))).set (H4.n + 1) (.map (manI (bump c2 kn) 0 (K ++ [(kn : Int)])) (K.length + 1)) = H8 := ⟨_,rfl⟩
    obtain ⟨H8,hH8⟩ := hH8
    have c8 : H8.Closed := by
     rw [← hH8]
     exact closed_set (closed_set c6 (by omega) (show ∀ e ∈ hitF 0 (Z ++ [n]),_ from hitF_bel)) (by show H4.n + 1 < H6.n; omega) (show ∀ e ∈ manI (bump c2 kn) 0 (K ++ [(kn : Int)]),_ from manI_bel)
    have k8 : ∀ u ob,H6.m u = some ob → u ≠ H4.n → u ≠ H4.n + 1 → H8.m u = some ob := fun u ob e q3 q4 => by rw [← hH8,set_m,if_neg q4,set_m,if_neg q3]; exact e
    have n8 : H8.n = H6.n := by rw [← hH8]; rfl
    have gx8 : ArX A H4 H8 := ⟨by omega,c8,fun u ob e y1 y2 y3 y4 => k8 u ob (gx6.m u ob e y1 y2 y3 y4) (by have := (c4 u ob e).1; omega) (by have := (c4 u ob e).1; omega)⟩
    have hh8 : H8.m H4.n = some (.map (hitF 0 (Z ++ [n])) (Z ++ [n]).length) := by rw [← hH8,set_m,if_neg (by omega),set_m,if_pos rfl,List.length_append]; rfl
    have mk8 : ManK H8 (H4.n + 1) (bump c2 kn) (K ++ [(kn : Int)]) := ⟨List.nodup_append.2 ⟨mk6.nd,by simp,fun x hx y hy => by simp at hy; rw [hy]; exact fun e => r3 (e ▸ hx)⟩,by rw [← hH8,set_m,if_pos rfl]; simp,fun r q => by rw [hbr r (fun e => q (by rw [e]; simp))]; exact mk6.off r (fun e => q (by simp [e]))⟩
    have dk8 : DevK H8 A.d A.x A.y A.z V := dk6.keepM fun u ob e hu => k8 u ob e (by omega) (by omega)
    have fil : afill [.int .u8 0] [(0,1,.int .u8 (xb.toNat : Int))] = some [.int .u8 (xb.toNat : Int)] := rfl
    simp [e1, aun, f6, apart, w4, hxa, hwn, hwp, hh6, okI, q1, mk6.at', r1, r2, hck, hcI, hcI2, hf6, hPq, hPq', hX2, hs1, hs2, hm1, fil, hw1, happ2, hP0, hP1, hP2, hP3, -Int.natCast_add]
    rw [hH8]
    have c9 : (H8.push (.cells [.int .u8 (xb.toNat : Int)] .ex 1)).Closed := closed_push c8 (fun y hy => by simp at hy; subst hy; exact .int)
    have g9 : Gr H8 (H8.push (.cells [.int .u8 (xb.toNat : Int)] .ex 1)) := ⟨Nat.le_succ _,c9,keep_push c8 _⟩
    have f9 := cellsOf_new H8 [.int .u8 (xb.toNat : Int)] .ex 1
    have dk9 : DevK (H8.push (.cells [.int .u8 (xb.toNat : Int)] .ex 1)) A.d A.x A.y A.z V := dk8.keepM fun u ob e _ => g9.m u ob e
    have e8 : H6.n = H8.n := n8.symm
    first | rw [e8] | skip
    generalize H8.push (.cells [.int .u8 (xb.toNat : Int)] .ex 1) = H9 at *
    refine (rot_ok A.d A.x A.y A.z V t.u p xb hpV H8.n .ex 1 H9 dk9 f9).mono' ?_
    rintro _ H10 c10 _ ⟨rfl,dk10,g10⟩
    have n9 := g9.n
    have n10 := g10.n
    have gxE : ArX A H4 H10 := Xd.trans gx8 (Xd.trans (Xd.of g9) g10)
    have hhE : H10.m H4.n = some (.map (hitF 0 (Z ++ [n])) (Z ++ [n]).length) := g10.m _ _ (g9.m _ _ hh8) (by omega) (by omega) (by omega) (by omega)
    have mkE : ManK H10 (H4.n + 1) (bump c2 kn) (K ++ [(kn : Int)]) := ⟨mk8.nd,g10.m _ _ (g9.m _ _ mk8.at') (by omega) (by omega) (by omega) (by omega),mk8.off⟩
    simp [w4,-Int.natCast_add]
    exact ⟨⟨i + 1, X3, c3', Z ++ [n], bump c2 kn, K ++ [(kn : Int)], V.rot p xb, H10⟩, by show L.length - (i + 1) < L.length - i; omega, ⟨by show i + 1 ≤ L.length; omega, tt, dk10, hhE, mkE, gxE, by show H4.n + 2 ≤ H10.n; omega, hXZ3, hcc3, hcP3, hZs3, hZ13⟩, ⟨by show h.n ≤ H10.n; omega, Nat.le_refl _, fun _ _ e => e, c10⟩, b1.mono (by show H6.n ≤ H10.n; omega), b2.mono (by show H6.n ≤ H10.n; omega), b3.mono (by show H6.n ≤ H10.n; omega), b3'.mono (by show H6.n ≤ H10.n; omega), b4.mono (by show H6.n ≤ H10.n; omega), b5.mono (by show H6.n ≤ H10.n; omega), bl6.mono (by show H6.n ≤ H10.n; omega), .int, rfl, .int⟩
  ·have hie : i = L.length := by omega
   subst hie
   simp [c7_0]
   have KH : ArK H A V := K4.keepX gH dk t.u (by rw [t.lk])
   obtain ⟨sl,hsl⟩ : ∃ sl : Nat,slot (D : Int) P S = sl := ⟨(slot (D : Int) P S).toNat,by omega⟩
   have hsl2 : (D + P) * S = sl := by
    have := slR.1
    rw [hsl] at this
    have e : (((D + P) * S : Nat) : Int) = (sl : Int) := by push_cast; exact this.symm
    omega
   have slB' := slB
   rw [hsl] at slB'
   have hall : allS (D : Int) P S = 3 * (sl : Int) + 18 := by unfold allS; rw [if_pos hr,hsl]
   have hVl : V.lock.length = V4.lock.length := by rw [t.lk]
   have hV4 : 3 * sl + 18 ≤ V4.lock.length := by have := K4.sz; rw [hD,hP,hS] at this; omega
   have hW4 : 3 * sl + 18 ≤ W4.lock.length := by have := K42.sz; rw [hD2,hP2,hS2] at this; omega
   have hslA : (A.D + A.P) * A.S = sl := by rw [hD,hP,hS]; exact hsl2
   have w2s : IntKind.i64.wrap (2 * (sl : Int)) = ((2 * sl : Nat) : Int) := wI (by omega)
   have w3s : IntKind.i64.wrap (3 * (sl : Int)) = ((3 * sl : Nat) : Int) := wI (by omega)
   have nH4 := gH.n
   have loopA : ∀ i,i ≤ 2 * sl → (catF V i).length ≤ 14336 := fun i hi => by rw [catF_len t.u i (by omega)]; omega
   refine awp_loop_of (α := Nat) (fun i => i ≤ 2 * sl) (fun i => [(3,.pointer (some ⟨h.n,0,none⟩)),(7,.pointer (some ⟨A.a,0,none⟩)),(8,.pointer (some ⟨A.d,0,none⟩)),(10,.pointer (some ⟨A2.d,0,none⟩)),(20,.string (bs (catF V i))),(21,.int .i64 (i : Int))]) (fun _ => H) (fun i => 2 * sl - i) 0
    (Nat.zero_le _) ⟨by show h.n ≤ H.n; omega,Nat.le_refl _,fun _ _ e => e,gH.cl⟩ (by simp [catF]; exact ⟨.ptr (by show h.n < _; omega),.ptr (by show A.a < _; omega),.ptr (by show A.d < _; omega),.ptr (by show A2.d < _; omega),⟨rfl,.string⟩,.int⟩) ?_
   intro i hi
   have fH := fx gH
   simp [c7_2,fH,apart,gvc,gva]
   refine (slot_ok D P S H).eqK ?_
   rw [hsl]
   by_cases hlt : i < 2 * sl
   ·have hi' : (i : Int) < ((2 * sl : Nat) : Int) := by omega
    have w4 := w64n (i := i) (by omega)
    simp [w2s, hi', -Int.natCast_mul, -Int.natCast_add]
    refine (dump_ok A.d A.x A.y A.z V t.u i (by omega) H dk).eqK ?_
    have hz3 : (bs (catF V i)).size + (bs (secF V i)).size ≤ 9223372036854775807 := by rw [bs_size,bs_size,secF_len t.u (by omega)]; have := loopA i hi; omega
    simp [hz3,bs_append,w4,-Int.natCast_add]
    exact ⟨i + 1,by omega,by omega,⟨by show h.n ≤ H.n; omega,Nat.le_refl _,fun _ _ e => e,gH.cl⟩,.ptr (by show h.n < _; omega),.ptr (by show A.a < _; omega),.ptr (by show A.d < _; omega),.ptr (by show A2.d < _; omega),⟨rfl,.string⟩,rfl,.int⟩
   have hie : i = 2 * sl := by omega
   subst hie
   simp [w2s,-Int.natCast_mul,-Int.natCast_add]
   have hErP : ∀ k,k < A.S → (erF (strF A V 1 k)).length ≤ A.P := fun k hk => by
    obtain ⟨wr1,_,_⟩ := t.wr (k := k) (blkF A xB img k) (Bk.len k hk).1 (Bk.len k hk).2 (full k hk) (fun i hi => secN_fit K4 (by omega) hk hi)
    rw [wr1,t.cnt k hk]; exact t.lim k hk
   have hB : ∀ k,k < A.S → rdF A.D A.P (strF A V 1 k) = some (blkF A xB img k) := fun k hk => by
    obtain ⟨wr1,_,wr3⟩ := t.wr (k := k) (blkF A xB img k) (Bk.len k hk).1 (Bk.len k hk).2 (full k hk) (fun i hi => secN_fit K4 (by omega) hk hi)
    exact rdF_er (by omega) (strF_64 A V 1 k (by omega) hk H KH) (strF_len _ _ _ _) (Bk.len k hk).1 (Bk.len k hk).2 (hErP k hk) (Bk.rt k hk) fun i hi hn => wr3 i hi (by rw [← wr1]; exact hn)
   have hlkV : ∀ k i,k < A.S → i < A.D + A.P → V.lock[secN A.D A.P A.S 2 k i]! = false := fun k i hk hi => by
    rw [t.lk,w4.lk]; exact free 2 k i (by omega) hk hi
   refine (acopy_ok A V 1 2 (by omega) (by omega) (by omega) (blkF A xB img) H KH hB hlkV).mono' ?_
   rintro _ H2 cc2 _ ⟨rfl,V2,K2,cp,g2⟩
   have gx2 := Xd.trans gH g2
   have n2 := gx2.n
   have f2 := fx gx2
   have blank2 : ∀ k,k < A.S → secF V (secN A.D A.P A.S 2 k 0) = List.replicate 64 255 := fun k hk => by
    have hin := secN_in (D := A.D) (P := A.P) (S := A.S) (a := 2) (k := k) (i := 0) hk (by omega)
    have hfit := secN_fit K4 (a := 2) (by omega) hk (show 0 < A.D + A.P by omega)
    rw [t.no _ hfit (fun q => by have := hZs _ (hXZ _ q); rw [hsl] at this; rw [hslA] at hin; omega)]
    have hlk4 : V4.lock.length = (dev0 (allS (D : Int) P S).toNat).lock.length := by rw [w4.lk]
    rw [w4.no _ (by rw [← hlk4]; exact hfit) fun k' i' hk' hi' => secN_ne hk (by omega) hk' hi' (by omega)]
    have hd0 : (dev0 (allS (D : Int) P S).toNat).lock.length = (allS (D : Int) P S).toNat := by show (List.replicate _ false).length = _; simp
    exact secF_blank (by rw [← hd0,← hlk4]; exact hfit)
   have hcn : cpN A V 2 (blkF A xB img) A.S = S := by
    unfold cpN
    rw [List.filter_eq_self.2 fun k hk => ?_,List.length_range,hS]
    have hk' := List.mem_range.1 hk
    refine decide_eq_true fun e => ?_
    have e0 := congrArg (fun l => l[0]!) e
    rw [secs_blk Bk hk', getElem!_pos (strF A V 2 k) 0 (by rw [strF_len]; omega), getElem!_pos ((blkF A xB img k).map crE) 0 (by rw [List.length_map, (Bk.len k hk').1]; omega), List.getElem_map] at e0
    have e1 : (strF A V 2 k)[0]'(by rw [strF_len]; omega) = secF V (secN A.D A.P A.S 2 k 0) := by simp [strF]
    rw [e1,blank2 k hk'] at e0
    exact crE_blank ((Bk.len k hk').2 _ (List.getElem_mem _)) e0.symm
   rw [hcn]
   have dk2 := K2.dv
   have hV2 : V2.lock.length = V4.lock.length := by rw [cp.lk,t.lk]
   have loopB : ∀ i,i ≤ 2 * sl → (catF V2 i).length ≤ 14336 := fun i hi => by rw [catF_len K2.du i (by omega)]; omega
   simp [f2,apart]
   refine awp_loop_of (α := Nat) (fun i => i ≤ 2 * sl) (fun i => [(3,.pointer (some ⟨h.n,0,none⟩)),(7,.pointer (some ⟨A.a,0,none⟩)),(8,.pointer (some ⟨A.d,0,none⟩)),(10,.pointer (some ⟨A2.d,0,none⟩)),(20,.string (bs (catF V (2 * sl)))),(24,.string (bs (catF V2 i))),(25,.int .i64 (i : Int))]) (fun _ => H2) (fun i => 2 * sl - i) 0
    (Nat.zero_le _) ⟨by show h.n ≤ H2.n; omega,Nat.le_refl _,fun _ _ e => e,cc2⟩ (by simp [catF]; exact ⟨.ptr (by show h.n < _; omega),.ptr (by show A.a < _; omega),.ptr (by show A.d < _; omega),.ptr (by show A2.d < _; omega),.string,⟨rfl,.string⟩,.int⟩) ?_
   intro i hi
   simp [c7_4,f2,apart,gvc,gva]
   refine (slot_ok D P S H2).eqK ?_
   rw [hsl]
   by_cases hlt2 : i < 2 * sl
   ·have hi' : (i : Int) < ((2 * sl : Nat) : Int) := by omega
    have w4 := w64n (i := i) (by omega)
    simp [w2s, hi', -Int.natCast_mul, -Int.natCast_add]
    refine (dump_ok A.d A.x A.y A.z V2 K2.du i (by omega) H2 dk2).eqK ?_
    have hz3 : (bs (catF V2 i)).size + (bs (secF V2 i)).size ≤ 9223372036854775807 := by rw [bs_size,bs_size,secF_len K2.du (by omega)]; have := loopB i hi; omega
    simp [hz3,bs_append,w4,-Int.natCast_add]
    exact ⟨i + 1,by omega,by omega,⟨by show h.n ≤ H2.n; omega,Nat.le_refl _,fun _ _ e => e,cc2⟩,.ptr (by show h.n < _; omega),.ptr (by show A.a < _; omega),.ptr (by show A.d < _; omega),.ptr (by show A2.d < _; omega),.string,⟨rfl,.string⟩,rfl,.int⟩
   have hie : i = 2 * sl := by omega
   subst hie
   clear hlt2 hi
   simp [w2s,f2,apart,gvc,gva,-Int.natCast_mul,-Int.natCast_add]
   refine (slot_ok D P S H2).eqK ?_
   rw [hsl]
   simp [w2s,-Int.natCast_mul,-Int.natCast_add]
   have dW := dx gx2
   have same : ∀ i,2 * sl ≤ i → i < 3 * sl → secF V2 i = secF W4 i := fun i h1 h2 => by
    obtain ⟨k,j,hk,hj,e⟩ : ∃ k j,k < A.S ∧ j < A.D + A.P ∧ i = secN A.D A.P A.S 2 k j := by
     have hSp : 0 < A.S := by omega
     refine ⟨(i - 2 * sl) % A.S,(i - 2 * sl) / A.S,Nat.mod_lt _ hSp,(Nat.div_lt_iff_lt_mul hSp).2 (by rw [hslA]; omega),?_⟩
     unfold secN
     have := Nat.div_add_mod (i - 2 * sl) A.S
     rw [hslA,Nat.mul_comm _ A.S]; omega
    subst e
    have e1 := congrArg (fun l => l[j]!) (cp.lo k hk hk)
    rw [secs_blk Bk hk,getElem!_pos (strF A V2 2 k) j (by rw [strF_len]; exact hj)] at e1
    have e2 := congrArg (fun l => l[j]!) (full2 k (by rw [hS2,← hS]; exact hk))
    rw [getElem!_pos (strF A2 W4 2 k) j (by rw [strF_len,hD2,hP2,← hD,← hP]; exact hj),blkF_cong (hD2.trans hD.symm) (hP2.trans hP.symm) (hS2.trans hS.symm)] at e2
    have e3 : (strF A V2 2 k)[j]'(by rw [strF_len]; exact hj) = secF V2 (secN A.D A.P A.S 2 k j) := by simp [strF]
    have e4 : (strF A2 W4 2 k)[j]'(by rw [strF_len,hD2,hP2,← hD,← hP]; exact hj) = secF W4 (secN A.D A.P A.S 2 k j) := by simp [strF,hD2,hP2,hS2,hD,hP,hS]
    rw [← e3,e1,← e4,e2]
   refine awp_loop_of (α := Nat) (fun i => 2 * sl ≤ i ∧ i ≤ 3 * sl) (fun i => [(3,.pointer (some ⟨h.n,0,none⟩)),(7,.pointer (some ⟨A.a,0,none⟩)),(8,.pointer (some ⟨A.d,0,none⟩)),(10,.pointer (some ⟨A2.d,0,none⟩)),(20,.string (bs (catF V (2 * sl)))),(24,.string (bs (catF V2 (2 * sl)))),(26,.int .i64 (i : Int))]) (fun _ => H2) (fun i => 3 * sl - i) (2 * sl)
    ⟨Nat.le_refl _,by omega⟩ ⟨by show h.n ≤ H2.n; omega,Nat.le_refl _,fun _ _ e => e,cc2⟩ (by simp [-Int.natCast_mul]; exact ⟨.ptr (by show h.n < _; omega),.ptr (by show A.a < _; omega),.ptr (by show A.d < _; omega),.ptr (by show A2.d < _; omega),.string,.string,.int⟩) ?_
   rintro i ⟨hi1,hi2⟩
   simp [c7_6,f2,apart,gvc,gva]
   refine (slot_ok D P S H2).eqK ?_
   rw [hsl]
   by_cases hlt3 : i < 3 * sl
   ·have hi' : (i : Int) < ((3 * sl : Nat) : Int) := by omega
    have w4 := w64n (i := i) (by omega)
    simp [w3s, hi', -Int.natCast_mul, -Int.natCast_add]
    refine (dump_ok A.d A.x A.y A.z V2 K2.du i (by omega) H2 dk2).eqK ?_
    simp
    refine (dump_ok A2.d A2.x A2.y A2.z W4 K42.du i (by omega) H2 dW).eqK ?_
    rw [same i hi1 hlt3]
    simp [w4,-Int.natCast_add]
    exact ⟨i + 1,by omega,⟨by omega,by omega⟩,⟨by show h.n ≤ H2.n; omega,Nat.le_refl _,fun _ _ e => e,cc2⟩,.ptr (by show h.n < _; omega),.ptr (by show A.a < _; omega),.ptr (by show A.d < _; omega),.ptr (by show A2.d < _; omega),.string,.string,rfl,.int⟩
   have hie : i = 3 * sl := by omega
   subst hie
   simp [w3s,f2,apart,gvc,gva,-Int.natCast_mul,-Int.natCast_add]
   have w3m : IntKind.i64.wrap (((3 * sl : Nat) : Int) - 1) = ((3 * sl - 1 : Nat) : Int) := wI (by omega)
   have filw : afill [.int .i64 0,.int .i64 0,.int .i64 0] [(0,1,.int .i64 0),(1,1,.int .i64 ((2 * sl : Nat) : Int)),(2,1,.int .i64 ((3 * sl - 1 : Nat) : Int))] = some [.int .i64 0,.int .i64 ((2 * sl : Nat) : Int),.int .i64 ((3 * sl - 1 : Nat) : Int)] := rfl
   obtain ⟨wl,hwl⟩ : ∃ wl : List Int,[0,((2 * sl : Nat) : Int),((3 * sl - 1 : Nat) : Int)] = wl := ⟨_,rfl⟩
   have hwc : ([.int .i64 0,.int .i64 ((2 * sl : Nat) : Int),.int .i64 ((3 * sl - 1 : Nat) : Int)] : List Value) = wl.map cI := by rw [← hwl]; rfl
   have hwl3 : wl.length = 3 := by rw [← hwl]; rfl
   rw [hwc] at filw
   have wsl : ∀ (Hx : Heap),Hx.Closed → Sl cI (Hx.push (.cells (wl.map cI) .ex 1)) (.slice (some ⟨Hx.n,0,none⟩) 3 3) wl := fun Hx _ => .inr ⟨Hx.n,0,3,wl.map cI,.ex,1,by rw [hwl3],cellsOf_new Hx _ .ex 1,by omega,fun _ => by rw [List.length_map]; omega,fun i hi => by simp [hi]⟩
   have wcl : ∀ (Hx : Heap),Hx.Closed → (Hx.push (.cells (wl.map cI) .ex 1)).Closed := fun Hx hx => closed_push hx (fun y hy => by
    obtain ⟨z,_,rfl⟩ := List.mem_map.1 hy
    exact .int)
   have wgr : ∀ (Hx : Heap),Hx.Closed → Gr Hx (Hx.push (.cells (wl.map cI) .ex 1)) := fun Hx hx => ⟨Nat.le_succ _,wcl Hx hx,keep_push hx _⟩
   refine (slot_ok D P S H2).eqK ?_
   rw [hsl]
   simp [w2s,f2,apart,gvc,gva,-Int.natCast_mul,-Int.natCast_add]
   refine (slot_ok D P S H2).eqK ?_
   rw [hsl]
   simp [w3s,w3m,filw,-Int.natCast_mul,-Int.natCast_add]
   have gw := wgr H2 cc2
   refine (wear_ok A.d A.x A.y A.z V2 wl (by omega) _ _ (K2.keep gw).dv (wsl H2 cc2)).eqK ?_
   have Kw := K2.keep gw
   have cw := wcl H2 cc2
   have gxw := Xd.trans gx2 (Xd.of gw)
   generalize H2.push (.cells (wl.map cI) .ex 1) = H5w at *
   have hst1 : ∀ k,k < A.S → strF A V2 1 k = strF A V 1 k := fun k hk => by
    unfold strF
    refine List.map_congr_left fun i hi => ?_
    have hi2 := List.mem_range.1 hi
    exact cp.no _ (secN_fit KH (by omega) hk hi2) fun k' i' hk' hi'' => secN_ne hk hi2 hk' hi'' (by omega)
   have hB2 : ∀ k,k < A.S → rdF A.D A.P (strF A V2 1 k) = some (blkF A xB img k) := fun k hk => by rw [hst1 k hk]; exact hB k hk
   have hlkV2 : ∀ k i,k < A.S → i < A.D + A.P → V2.lock[secN A.D A.P A.S 2 k i]! = false := fun k i hk hi => by rw [cp.lk]; exact hlkV k i hk hi
   simp
   refine (acopy_ok A V2 1 2 (by omega) (by omega) (by omega) (blkF A xB img) H5w Kw hB2 hlkV2).mono' ?_
   rintro _ H6w cc6 _ ⟨rfl,V3,K3,cp3,g6w⟩
   obtain ⟨q3,hV3⟩ := cp3.sm fun k hk => cp.lo k hk hk
   have hcn2 : cpN A V2 2 (blkF A xB img) A.S = 0 := by
    unfold cpN
    rw [List.filter_eq_nil_iff.2 fun k hk => by
     have hk' := List.mem_range.1 hk
     simp [cp.lo k hk' hk']]; rfl
   rw [hcn2]
   simp
   refine (acopy_err A V3 1 1 1 (by omega) H6w K3 (.inr (.inl ⟨rfl,rfl⟩))).mono' ?_
   rintro _ H7w cc7 _ ⟨rfl,q4,K7w,g7w⟩
   simp
   refine (acopy_err A (V3.wop q4) 1 3 2 (by omega) H7w K7w (.inl ⟨by unfold thereF; simp,rfl⟩)).mono' ?_
   rintro _ H8w cc8 _ ⟨rfl,q5,K8w,g8w⟩
   have hbl0 : ∀ i,i < A.D + A.P → secF ((V3.wop q4).wop q5) (secN A.D A.P A.S 0 0 i) = List.replicate 64 255 := fun i hi => by
    have hS0 : 0 < A.S := by omega
    have hin := secN_in (D := A.D) (P := A.P) (S := A.S) (a := 0) (k := 0) (i := i) hS0 hi
    have hfit := secN_fit K4 (a := 0) (by omega) hS0 hi
    show secF V3 _ = _
    rw [hV3]
    show secF V2 _ = _
    rw [cp.no _ (by rw [hVl]; exact hfit) fun k' i' hk' hi' => secN_ne hS0 hi hk' hi' (by omega)]
    have hnx : ((secN A.D A.P A.S 0 0 i : Nat) : Int) ∉ X := fun q => by have := hZ1 _ (hXZ _ q); rw [hsl] at this; rw [hslA] at hin; omega
    rw [t.no _ hfit hnx]
    have hlk4 : V4.lock.length = (dev0 (allS (D : Int) P S).toNat).lock.length := by rw [w4.lk]
    rw [w4.no _ (by rw [← hlk4]; exact hfit) fun k' i' hk' hi' => secN_ne hS0 hi hk' hi' (by omega)]
    have hd0 : (dev0 (allS (D : Int) P S).toNat).lock.length = (allS (D : Int) P S).toNat := by show (List.replicate _ false).length = _; simp
    exact secF_blank (by rw [← hd0,← hlk4]; exact hfit)
   simp
   refine (acopy_err A ((V3.wop q4).wop q5) 0 2 8 (by omega) H8w K8w (.inr (.inr ⟨2,rfl,by omega,by omega,by rw [strF_blank hbl0,rdF_blank (by omega)],rfl,fun i hi => by
    show V3.lock[_]! = false
    rw [hV3]
    exact hlkV2 0 i (by omega) hi⟩))).mono' ?_
   rintro _ H9w cc9 _ ⟨rfl,q6,K9w,g9w⟩
   have gx9 := Xd.trans gxw (Xd.trans g6w (Xd.trans g7w (Xd.trans g8w g9w)))
   have f9 := fx gx9
   have hcat : catF V2 (2 * sl) = catF V (2 * sl) := catF_ext _ fun m hm => cp.no m (by omega) fun k i hk hi e => by
    have hin := secN_in (D := A.D) (P := A.P) (S := A.S) (a := 2) hk hi
    rw [hslA] at hin
    omega
   rw [hcat]
   simp [f9,apart,gvc,gva]
   refine (slot_ok D P S H9w).eqK ?_
   rw [hsl]
   simp [w2s,f9,apart,gvc,gva,-Int.natCast_mul,-Int.natCast_add]
   refine (slot_ok D P S H9w).eqK ?_
   rw [hsl]
   simp [w3s,w3m,filw,-Int.natCast_mul,-Int.natCast_add]
   have gw9 := wgr H9w cc9
   refine (wear_ok A.d A.x A.y A.z _ wl (by omega) _ _ (K9w.keep gw9).dv (wsl H9w cc9)).eqK ?_
   have hwear : (((V3.wop q4).wop q5).wop q6).wear = V2.wear := by
    show V3.wear = _
    rw [hV3]; rfl
   rw [hwear]
   simp
end Go.Proofs.YtdnmkenamgfjoaaGreat.arbn
