/-
 Contracts.
-/
import Derived.Test.YtdnmkenamgfjoaaGreatArbj
import Derived.IntWalk
import Derived.KernelRfl
set_option linter.unusedSimpArgs false
set_option linter.unusedVariables false
set_option linter.unusedSectionVars false
namespace Go.Proofs.YtdnmkenamgfjoaaGreat.arbk
open Go Go.Ab Go.Proofs Go.RowKit str vers lin1 sha arba arbb arbc arbd arbe arbf arbg arbi arbj
variable [Inhabited TabBox]
variable [Nonempty GF]
variable [Nonempty GE]
set_option maxRecDepth 100000
theorem colX_get (X : List (List UInt8)) (q i : Nat) (hi : i < X.length) : (colF X q)[i]! = X[i]![q]! := by
 unfold colF
 rw [getElem!_pos _ i (by rw [List.length_map]; exact hi),List.getElem_map,getElem!_pos X i hi]
theorem foldR_to {n : Nat} {B X : List (List UInt8)} (hn : n = B.length) (hX : X.length = B.length) (hB6 : ∀ x ∈ B,x.length = 60) {W : Nat → Option (List UInt8)} : ∀ j,j ≤ 60 → (∀ q,q < j → W q = some (colF X q)) →
  ∃ Y,foldR n B W j = some Y ∧ Y.length = B.length ∧ (∀ y ∈ Y,y.length = 60) ∧ ∀ i,i < B.length → ∀ q,q < 60 → Y[i]![q]! = if q < j then X[i]![q]! else B[i]![q]!
 | 0,_,_ => ⟨B,rfl,rfl,hB6,fun i _ q _ => by rw [if_neg (by omega)]⟩
 | j + 1,hj,h => by
   obtain ⟨Y,h1,h2,h3,h4⟩ := foldR_to hn hX hB6 j (by omega) fun q hq => h q (by omega)
   refine ⟨setK Y j (colF X j) n,?_,by rw [setK_len,h2],setK_60 h3 _ _ n (by omega),fun i hi q hq => ?_⟩
   ·unfold foldR
    rw [h1,h j (by omega)]
   ·rw [setK_get n (by omega) i,if_pos (by omega),colX_get X j i (by omega)]
    have hYi : i < Y.length := by omega
    have hy60 : (Y[i]!).length = 60 := by rw [getElem!_pos Y i hYi]; exact h3 _ (List.getElem_mem hYi)
    have h5 := h4 i hi q hq
    rw [getElem!_pos _ q (by rw [List.length_set]; omega),List.getElem_set]
    by_cases e : j = q
    ·subst e
     rw [if_pos rfl,if_pos (by omega)]
    ·rw [if_neg e,← getElem!_pos _ q (by omega),h5]
     by_cases e2 : q < j
     ·rw [if_pos e2,if_pos (by omega)]
     ·rw [if_neg e2,if_neg (by omega)]
theorem foldR_eq {n : Nat} {B X : List (List UInt8)} (hn : n = B.length) (hX : X.length = B.length) (hB6 : ∀ x ∈ B,x.length = 60) (hX6 : ∀ x ∈ X,x.length = 60) {W : Nat → Option (List UInt8)} (h : ∀ q,q < 60 → W q = some (colF X q)) : foldR n B W 60 = some X := by
 obtain ⟨Y,h1,h2,h3,h4⟩ := foldR_to hn hX hB6 60 (Nat.le_refl _) h
 rw [h1]
 congr 1
 refine List.ext_getElem (by omega) fun i g1 g2 => ?_
 have e1 := h3 _ (List.getElem_mem g1)
 have e2 := hX6 _ (List.getElem_mem g2)
 refine List.ext_getElem (by omega) fun q q1 q2 => ?_
 have := h4 i (by omega) q (by omega)
 rw [if_pos (by omega),getElem!_pos Y i g1,getElem!_pos X i g2,getElem!_pos _ q q1,getElem!_pos _ q q2] at this
 exact this
def crTB (i : Nat) : BitVec 32 := BitVec.ofInt 32 (crT i)
def crIx (u : BitVec 32) (y : UInt8) : BitVec 8 := u.setWidth 8 ^^^ y.toBitVec
def crSB (u : BitVec 32) (y : UInt8) : BitVec 32 := (u >>> 8) ^^^ crTB (crIx u y).toNat
theorem wrap32_nat {n : Nat} (h : n < 4294967296) : IntKind.u32.wrap (n : Int) = (n : Int) := by unfold IntKind.wrap; simp [IntKind.bits,IntKind.signed]; omega
theorem wrap8_nat (n : Nat) : IntKind.u8.wrap (n : Int) = ((n % 256 : Nat) : Int) := by unfold IntKind.wrap; simp [IntKind.bits,IntKind.signed]
theorem crS_bv (u : BitVec 32) (y : UInt8) : crS (u.toNat : Int) y = ((crSB u y).toNat : Int) := by
 unfold crS crSB
 have h1 : abits .xor .u8 (IntKind.u8.wrap (u.toNat : Int)) (y.toNat : Int) = ((crIx u y).toNat : Int) := by
  rw [wrap8_nat]
  have e1 : BitVec.ofInt 8 ((u.toNat % 256 : Nat) : Int) = u.setWidth 8 := by
   apply BitVec.eq_of_toNat_eq
   rw [BitVec.ofInt_natCast,BitVec.toNat_ofNat,BitVec.toNat_setWidth]
   omega
  have e2 : BitVec.ofInt 8 (y.toNat : Int) = y.toBitVec := by
   apply BitVec.eq_of_toNat_eq
   rw [BitVec.ofInt_natCast,BitVec.toNat_ofNat]
   exact Nat.mod_eq_of_lt y.toNat_lt
  show IntKind.u8.wrap (((BitVec.ofInt 8 ((u.toNat % 256 : Nat) : Int) ^^^ BitVec.ofInt 8 (y.toNat : Int)).toNat : Nat) : Int) = _
  rw [e1,e2,wrap8_nat,Nat.mod_eq_of_lt (u.setWidth 8 ^^^ y.toBitVec).isLt]
  rfl
 rw [h1]
 have h2 : ((u.toNat : Int).fdiv (2 ^ min 8 IntKind.u32.bits)) = ((u.toNat / 256 : Nat) : Int) := by
  show ((u.toNat : Int).fdiv 256) = _
  rw [Int.fdiv_eq_ediv_of_nonneg _ (by omega)]; rfl
 rw [h2]
 have e1 : BitVec.ofInt 32 ((u.toNat / 256 : Nat) : Int) = u >>> 8 := by
  apply BitVec.eq_of_toNat_eq
  rw [BitVec.ofInt_natCast,BitVec.toNat_ofNat,BitVec.toNat_ushiftRight,Nat.shiftRight_eq_div_pow]
  have := u.isLt
  omega
 show IntKind.u32.wrap (((BitVec.ofInt 32 ((u.toNat / 256 : Nat) : Int) ^^^ crTB (crIx u y).toNat).toNat : Nat) : Int) = _
 rw [e1]
 exact wrap32_nat (u >>> 8 ^^^ crTB (crIx u y).toNat).isLt
theorem crT_top : ((List.range 256).map fun i => (crTB i).toNat / 16777216).Nodup := by decide +kernel
theorem crTB_inj {i j : Nat} (hi : i < 256) (hj : j < 256) (h : (crTB i).toNat / 16777216 = (crTB j).toNat / 16777216) : i = j := by
 have hl : ((List.range 256).map fun i => (crTB i).toNat / 16777216).length = 256 := by simp
 have key := List.pairwise_iff_getElem.1 crT_top
 rcases Nat.lt_trichotomy i j with q | q | q
 ·exfalso
  refine key i j (by omega) (by omega) q ?_
  rw [List.getElem_map,List.getElem_map,List.getElem_range,List.getElem_range]; exact h
 ·exact q
 ·exfalso
  refine key j i (by omega) (by omega) q ?_
  rw [List.getElem_map,List.getElem_map,List.getElem_range,List.getElem_range]; exact h.symm
theorem crSB_top (u : BitVec 32) (y : UInt8) : (crSB u y) >>> 24 = (crTB (crIx u y).toNat) >>> 24 := by
 unfold crSB
 rw [BitVec.ushiftRight_xor_distrib,← BitVec.shiftRight_add]
 have : u >>> (8 + 24) = 0#32 := by
  apply BitVec.eq_of_toNat_eq
  rw [BitVec.toNat_ushiftRight,Nat.shiftRight_eq_div_pow]
  have := u.isLt
  simp; omega
 rw [this]; simp
theorem crSB_ix {u u' : BitVec 32} {y y' : UInt8} (h : crSB u y = crSB u' y') : crIx u y = crIx u' y' ∧ u >>> 8 = u' >>> 8 := by
 have h1 : (crTB (crIx u y).toNat) >>> 24 = (crTB (crIx u' y').toNat) >>> 24 := by rw [← crSB_top,← crSB_top,h]
 have h2 := congrArg BitVec.toNat h1
 rw [BitVec.toNat_ushiftRight,BitVec.toNat_ushiftRight,Nat.shiftRight_eq_div_pow,Nat.shiftRight_eq_div_pow] at h2
 have h3 := crTB_inj (crIx u y).isLt (crIx u' y').isLt h2
 refine ⟨BitVec.eq_of_toNat_eq h3,?_⟩
 unfold crSB at h
 rw [h3] at h
 have := congrArg (· ^^^ crTB (crIx u' y').toNat) h
 simpa [BitVec.xor_assoc] using this
theorem crSB_inj {u u' : BitVec 32} {y : UInt8} (h : crSB u y = crSB u' y) : u = u' := by
 obtain ⟨h1,h2⟩ := crSB_ix h
 unfold crIx at h1
 have h3 : u.setWidth 8 = u'.setWidth 8 := by
  have := congrArg (· ^^^ y.toBitVec) h1
  simpa [BitVec.xor_assoc] using this
 have a1 := congrArg BitVec.toNat h2
 have a2 := congrArg BitVec.toNat h3
 rw [BitVec.toNat_ushiftRight,BitVec.toNat_ushiftRight,Nat.shiftRight_eq_div_pow,Nat.shiftRight_eq_div_pow] at a1
 rw [BitVec.toNat_setWidth,BitVec.toNat_setWidth] at a2
 apply BitVec.eq_of_toNat_eq
 omega
theorem crSB_byte {u : BitVec 32} {y y' : UInt8} (h : crSB u y = crSB u y') : y = y' := by
 obtain ⟨h1,_⟩ := crSB_ix h
 unfold crIx at h1
 have h3 : y.toBitVec = y'.toBitVec := by
  have := congrArg (u.setWidth 8 ^^^ ·) h1
  simpa [← BitVec.xor_assoc] using this
 exact UInt8.toBitVec_inj.1 h3
theorem crW_bv : ∀ (l : List UInt8) (u : BitVec 32),l.foldl crS (u.toNat : Int) = ((l.foldl crSB u).toNat : Int)
 | [],u => rfl
 | y :: l,u => by rw [List.foldl_cons,List.foldl_cons,crS_bv,crW_bv l]
theorem fold_inj : ∀ (l : List UInt8) (u u' : BitVec 32),l.foldl crSB u = l.foldl crSB u' → u = u'
 | [],_,_,h => h
 | y :: l, u, u', h => crSB_inj (fold_inj l _ _ h)
theorem fold_set : ∀ (l : List UInt8) (u : BitVec 32) (i : Nat) (b : UInt8) (hi : i < l.length),b ≠ l[i] → l.foldl crSB u ≠ (l.set i b).foldl crSB u
 | y :: l,u,0,b,_,hb => fun h => hb (crSB_byte (fold_inj l _ _ h)).symm
 | y :: l,u,i + 1,b,hi,hb => fold_set l (crSB u y) i b (by simpa using hi) (by simpa using hb)
theorem crSum_set {l : List UInt8} {i : Nat} {b : UInt8} (hi : i < l.length) (hb : b ≠ l[i]) : (crSum l).toNat ≠ (crSum (l.set i b)).toNat := by
 have hu : (4294967295 : Int) = ((BitVec.allOnes 32).toNat : Int) := by decide
 have hw : ∀ m : List UInt8,crSum m = (((BitVec.allOnes 32) ^^^ (m.foldl crSB (BitVec.allOnes 32))).toNat : Int) := fun m => by
  unfold crSum crW
  rw [hu,crW_bv]
  have e1 : BitVec.ofInt 32 IntKind.u32.max = BitVec.allOnes 32 := by decide
  have e2 : BitVec.ofInt 32 ((m.foldl crSB (BitVec.allOnes 32)).toNat : Int) = m.foldl crSB (BitVec.allOnes 32) := by
   apply BitVec.eq_of_toNat_eq
   rw [BitVec.ofInt_natCast,BitVec.toNat_ofNat]
   exact Nat.mod_eq_of_lt (m.foldl crSB (BitVec.allOnes 32)).isLt
  show IntKind.u32.wrap (((BitVec.ofInt 32 IntKind.u32.max ^^^ BitVec.ofInt 32 ((m.foldl crSB (BitVec.allOnes 32)).toNat : Int)).toNat : Nat) : Int) = _
  rw [e1,e2]
  exact wrap32_nat (BitVec.allOnes 32 ^^^ m.foldl crSB (BitVec.allOnes 32)).isLt
 rw [hw,hw,Int.toNat_natCast,Int.toNat_natCast]
 intro h
 have h1 := BitVec.eq_of_toNat_eq h
 have := congrArg (BitVec.allOnes 32 ^^^ ·) h1
 refine fold_set l (BitVec.allOnes 32) i b hi hb ?_
 simpa [← BitVec.xor_assoc] using this
theorem bN_inj (k a b : Nat) (ha : a < 256 ^ k) (hb : b < 256 ^ k) (h : bN k a = bN k b) : a = b := by
 have := (bN_eq k a b).1 h
 rwa [Nat.mod_eq_of_lt ha,Nat.mod_eq_of_lt hb] at this
theorem crE_turn {t : List UInt8} (ht : t.length = 60) {j : Nat} {b : UInt8} (hj : j < (crE t).length) (hb : b ≠ (crE t)[j]) : crE (((crE t).set j b).take 60) ≠ (crE t).set j b := by
 have hlen := crE_len t
 by_cases h : j < 60
 ·have h1 : (crE t).set j b = t.set j b ++ bN 4 (crSum t).toNat := by unfold crE; rw [List.set_append_left _ _ (by omega)]
  have h2 : ((crE t).set j b).take 60 = t.set j b := by rw [h1,List.take_append_of_le_length (by rw [List.length_set]; omega),List.take_of_length_le (by rw [List.length_set]; omega)]
  rw [h2,h1]
  intro e
  have hb2 : b ≠ t[j] := by
   have : (crE t)[j] = t[j] := List.getElem_append_left (by omega)
   rw [← this]; exact hb
  unfold crE at e
  have e2 := List.append_cancel_left e
  obtain ⟨n,hn,hn2⟩ := crSum_in t
  obtain ⟨m,hm,hm2⟩ := crSum_in (t.set j b)
  refine crSum_set (by omega) hb2 (bN_inj 4 _ _ ?_ ?_ e2.symm)
  ·rw [hn2,Int.toNat_natCast]; exact hn
  ·rw [hm2,Int.toNat_natCast]; exact hm
 ·have h2 : ((crE t).set j b).take 60 = t := by
   unfold crE
   rw [List.set_append_right _ _ (by omega),List.take_append_of_le_length (by omega),List.take_of_length_le (by omega)]
  rw [h2]
  intro e
  refine hb ?_
  have : (crE t)[j] = ((crE t).set j b)[j]'(by rw [List.length_set]; exact hj) := by
   exact List.getElem_of_eq e hj
  rw [this]; simp
def c14_1 : AC := sO [oP 39 (bT .lss 38 37)] (.seq (cT 39 .skip (.exit 1)) (.seq (.block 2 (sO [mV 40 38,oP 41 (iA 1 36 38),oP 42 (lN 41),mV 7 40,mV 8 42] (.ops [mV 43 0,oP 44 (nC 43),oP 45 (fA 3 44),oP 46 (lN 45),mV 47 1,mV 48 7,oP 49 (bT .add 47 48),oP 50 (iA 1 46 49),oP 51 (lN 50),mV 52 8,oP 53 (bT .xor 51 52),oP 54 (iA 1 46 49),nP (.store 1 (tP 54) (tP 53))]))) (.ops [oP 55 (bK .add 38 1),mV 38 55])))
def c14 : AC := sO [oP 6 (.mv (kI 0))] (.seq (.block 0 (sO [mV 10 0,oP 11 (.eqv false .ptr (tP 10) (.const (.pointer none))),mV 9 11] (cT 9 (sO [oP 6 (.mv (kI 1))] .ret) (sO [mV 13 1,oP 14 (bK .lss 13 0),mV 15 14,gP 16 15 false (.mv (tP 1)),gP 17 15 false (.mv (tP 0)),gP 18 15 false (nC 17),gP 19 15 false (fA 3 18),gP 20 15 false (lN 19),gP 21 15 false (lS 20),gP 22 15 false (bT .gtr 16 21),oP 23 (pT 15 22),mV 24 23,gP 25 24 false (.mv (tP 2)),gP 26 24 false (lS 25),gP 27 24 false (.mv (tP 0)),gP 28 24 false (nC 27),gP 29 24 false (fA 3 28),gP 30 24 false (lN 29),gP 31 24 false (lS 30),gP 32 24 false (.mv (tP 1)),gP 33 24 false (bT .sub 31 32),gP 34 24 false (bT .gtr 26 33),oP 35 (pT 24 34),mV 12 35] (cT 12 (sO [oP 6 (.mv (kI 2))] .ret) .skip))))) (.seq (sO [mV 36 2,oP 37 (lS 36),oP 38 (.mv (kI 0))] (.block 1 (.loop c14_1))) (sO [oP 6 (.mv (kI 0))] .ret)))
theorem k14 : compF Tryz.prog Tryz.f14 = some (c14,[6]) := by kernel_rfl
theorem n14 : Tryz.f14.ntmps = 56 := by kernel_rfl
theorem u8_xorB (a b : UInt8) : abits .xor .u8 (a.toNat : Int) (b.toNat : Int) = ((a ^^^ b).toNat : Int) := by
 have e : ∀ x : UInt8,BitVec.ofInt 8 (x.toNat : Int) = x.toBitVec := fun x => by
  apply BitVec.eq_of_toNat_eq
  rw [BitVec.toNat_ofInt]
  have := x.toNat_lt
  show ((x.toNat : Int) % 256).toNat = x.toNat
  omega
 show IntKind.u8.wrap (((BitVec.ofInt 8 (a.toNat : Int)) ^^^ (BitVec.ofInt 8 (b.toNat : Int))).toNat : Int) = _
 rw [e,e,← UInt8.toBitVec_xor]
 have hw : ∀ n : Nat,n < 256 → IntKind.u8.wrap (n : Int) = n := fun n h => by simp [IntKind.wrap,IntKind.bits,IntKind.signed]; omega
 exact hw _ (a ^^^ b).toNat_lt
def _root_.Go.Proofs.YtdnmkenamgfjoaaGreat.arbb.DevS.rot (D : DevS) (a : Nat) (b : UInt8) : DevS := { D with data := D.data.set a (D.data[a]! ^^^ b) }
theorem rot_ok (d x y z : Nat) (D : DevS) (hU : DevU D) (a : Nat) (b : UInt8) (ha : a < D.data.length) (u : Nat) (m : BMode) (e : Nat) (h : Heap) (k : DevK h d x y z D) (hu : h.cellsOf u = some ([.int .u8 (b.toNat : Int)],m,e)) :
  ACalls Tryz.prog 14 [.pointer (some ⟨d,0,none⟩),.int .i64 (a : Int),.slice (some ⟨u,0,none⟩) 1 1] h fun r h' => r = .int .i64 0 ∧ DevK h' d x y z (D.rot a b) ∧ Xd d x y z h h' := by
 refine acalls_of mix Tryz.func14 k14 n14 (by simp) fun hcl hb => ?_
 have hdl := hU.dl
 have hnl := hU.nl
 have hq := ptrq
 have c1 := k.cd
 have hd := cellsOf_lt hcl c1
 have hul := cellsOf_lt hcl hu
 obtain ⟨mx,ex,cx,hm1,hm2⟩ := k.cx
 obtain ⟨n1,n2,n3,n4,n5,n6⟩ := k.ne
 have hx := cellsOf_lt hcl cx
 have hml : (mx.isLoose = true → ex = 1) = True := eq_true hm2
 have e3 : ∀ p,(devC x y z D)[3]'p = .slice (some ⟨x,0,none⟩) D.data.length D.data.length := fun _ => rfl
 have hl : ∀ E,(devC x y z E).length = 8 := fun _ => rfl
 have g1 : ¬ (a : Int) < 0 := by omega
 have g2 : ¬ (D.data.length : Int) < (a : Int) := by omega
 have g2' : ¬ D.data.length < a := by omega
 have w1 : IntKind.i64.wrap ((D.data.length : Int) - (a : Int)) = ((D.data.length - a : Nat) : Int) := wI (by omega)
 have g3 : ¬ ((D.data.length - a : Nat) : Int) < 1 := by omega
 have g3' : ¬ D.data.length - a < 1 := by omega
 have g3'' : ¬ D.data.length - a = 0 := by omega
 simp [c14, hq, c1, apart, e3, hl, g1, g2, g2', w1, g3, g3', g3'']
 have hlen : (D.rot a b).data.length = D.data.length := by unfold DevS.rot; simp
 have dC : devC x y z (D.rot a b) = devC x y z D := by unfold devC; rw [hlen]; rfl
 obtain ⟨H1,hH1⟩ : ∃ H1,h.set x (.cells (ubs (D.rot a b).data) mx ex) = H1 := ⟨_,rfl⟩
 have x1 : Xd d x y z h H1 := by rw [← hH1]; exact Xd.set (Xd.refl hcl) (by simp) hx ubs_bel
 have k1 : DevK H1 d x y z (D.rot a b) := by
  subst hH1
  obtain ⟨my,ey,cy,hy1,hy2⟩ := k.cy
  obtain ⟨mz,ez,cz,hz1,hz2⟩ := k.cz
  exact DevK.mk' k.ne (by rw [cells_setJ _ (Ne.symm n1),dC]; exact c1) (cells_setJ' _ _ _ _ _) hm1 hm2 (by rw [cells_setJ _ n4]; exact cy) hy1 hy2 (by rw [cells_setJ _ n5]; exact cz) hz1 hz2
 have n1n : H1.n = h.n := by rw [← hH1]; rfl
 refine awp_loop_of (α := Nat) (fun j => j ≤ 1) (fun j => [(0,.pointer (some ⟨d,0,none⟩)),(1,.int .i64 (a : Int)),(36,.slice (some ⟨u,0,none⟩) 1 1),(37,.int .i64 1),(38,.int .i64 (j : Int))]) (fun j => if j = 0 then h else H1) (fun j => 1 - j) 0
  (Nat.zero_le _) (Heap.Sub.refl hcl) (by simp; exact ⟨.ptr hd,.int,.slice hul,.int,.int⟩) ?_
 intro j hj
 by_cases hj0 : j = 0
 ·subst hj0
  have hac : acut [.int .u8 (b.toNat : Int)] 0 1 = some ([.int .u8 (b.toNat : Int)] : List Value) := rfl
  have i0 : aidx (.int .i64 0) 1 = some 0 := rfl
  have w2 : IntKind.i64.wrap ((a : Int)) = (a : Int) := IntWalk.i64_in _ (by omega)
  have hga : (ubs D.data)[a]? = some (.int .u8 (D.data[a].toNat : Int)) := ubs_getJ ha
  have hpa := ubs_put (l := D.data) (i := a) ha (D.data[a] ^^^ b)
  have hnd : D.data.set a (D.data[a] ^^^ b) = (D.rot a b).data := by unfold DevS.rot; rw [getElem!_pos D.data a ha]
  rw [hnd] at hpa
  have hxor : abits .xor .u8 (D.data[a].toNat : Int) (b.toNat : Int) = ((D.data[a] ^^^ b).toNat : Int) := by
   exact u8_xorB _ _
  have l1 : a + 1 ≤ (ubs D.data).length := by rw [ubs_len]; omega
  simp [c14_1,i0,hu,apart,c1,e3,hl,w2,aidx_of ha,cx,hga,hxor,mcells,hpa,hm1,hml,l1,hH1,-UInt8.toNat_xor]
  refine ⟨1,by omega,by omega,?_⟩
  rw [if_neg (by omega)]
  exact ⟨⟨by omega,Nat.le_refl _,fun _ _ e => e,x1.cl⟩,.ptr (by show d < H1.n; omega),.int,.slice (by show u < H1.n; omega),.int,rfl,.int⟩
 ·have hj1 : j = 1 := by omega
  subst hj1
  simp [c14_1]
  exact ⟨k1,x1⟩
theorem strF_64 (A : ArB) (V : DevS) (a k : Nat) (ha : a ≤ 2) (hk : k < A.S) (h : Heap) (K : ArK h A V) : ∀ x ∈ strF A V a k,x.length = 64 := fun x hx => by
 obtain ⟨i,hi,rfl⟩ := List.mem_map.1 hx
 refine secF_len K.du ?_
 have := (secN_lt K.rt ha hk (List.mem_range.1 hi)).1
 have := K.sz
 omega
end Go.Proofs.YtdnmkenamgfjoaaGreat.arbk
