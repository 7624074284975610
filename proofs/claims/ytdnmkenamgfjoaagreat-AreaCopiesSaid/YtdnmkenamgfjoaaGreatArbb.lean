/-
 Contracts.
-/
import Derived.Test.YtdnmkenamgfjoaaGreatArba
import Derived.IntWalk
import Derived.KernelRfl
set_option linter.unusedSimpArgs false
set_option linter.unusedVariables false
set_option linter.unusedSectionVars false
namespace Go.Proofs.YtdnmkenamgfjoaaGreat.arbb
open Go Go.Ab Go.Proofs Go.RowKit str vers lin1 sha arba
variable [Inhabited TabBox]
variable [Nonempty GF]
variable [Nonempty GE]
set_option maxRecDepth 100000
def c95_2 : AC := sO [oP 11 (bK .lss 10 8)] (.seq (cT 11 .skip (.exit 2)) (.seq (.block 3 (sO [mV 12 3,oP 13 (.bin .and (tP 12) (.const (.int .u32 1))),mV 4 13] (sO [mV 14 3,oP 15 (.bin .shr (tP 14) (.const (.int .u64 1))),mV 3 15] (sO [mV 16 4,oP 17 (.bin .eql (tP 16) (.const (.int .u32 1)))] (cT 17 (.ops [mV 18 3,oP 19 (.bin .xor (tP 18) (.const (.int .u32 3988292384))),mV 3 19]) .skip))))) (.ops [oP 20 (bK .add 10 1),mV 10 20])))
def c95_0 : AC := sO [oP 6 (bK .lss 5 256)] (.seq (cT 6 .skip (.exit 0)) (.seq (.block 1 (sO [mV 7 5,mV 2 7] (sO [mV 8 2,oP 9 (.toInt .u32 (tP 8)),mV 3 9] (.seq (sO [oP 10 (.mv (kI 0))] (.block 2 (.loop c95_2))) (.ops [mV 21 2,mV 22 3,oP 23 (fA 0 1),oP 24 (.iAddrA 256 1 (tP 23) (tP 21)),nP (.store 1 (tP 24) (tP 22))]))))) (.ops [oP 25 (bK .add 5 1),mV 5 25])))
def c95 : AC := sO [oP 0 (.mv (.const (.pointer none)))] (sO [oP 1 (.alloc (zl .u32 256))] (.seq (sO [oP 5 (.mv (kI 0))] (.block 0 (.loop c95_0))) (sO [mV 0 1] .ret)))
theorem k95 : compF Tryz.prog Tryz.f95 = some (c95,[0]) := by kernel_rfl
theorem n95 : Tryz.f95.ntmps = 26 := by kernel_rfl
def c178 : AC := sO [oP 6 (.mv (.const (.int .u32 0)))] (sO [mV 7 1,oP 8 (.bin .shr (tP 7) (.const (.int .u64 8))),mV 9 0,mV 10 1,oP 11 (.toInt .u8 (tP 10)),mV 12 2,oP 13 (bT .xor 11 12),oP 14 (nC 9),oP 15 (.iAddrA 256 1 (tP 14) (tP 13)),oP 16 (lN 15),oP 17 (bT .xor 8 16),mV 6 17] .ret)
theorem k178 : compF Tryz.prog Tryz.f178 = some (c178,[6]) := by kernel_rfl
theorem n178 : Tryz.f178.ntmps = 18 := by kernel_rfl
def c141_2 : AC := sO [oP 22 (bT .lss 21 20)] (.seq (cT 22 .skip (.exit 2)) (.seq (.block 3 (sO [oP 23 (iA 1 19 21),oP 24 (lN 23),mV 9 24] (.ops [mV 25 0,oP 26 (nC 25),oP 27 (fA 0 26),mV 28 5,mV 29 9,oP 30 (.call 178 [tP 27,tP 28,tP 29]),mV 5 30]))) (.ops [oP 31 (bK .add 21 1),mV 21 31])))
def c141_0 : AC := sO [oP 15 (bT .lss 14 13)] (.seq (cT 15 .skip (.exit 0)) (.seq (.block 1 (sO [oP 16 (iA 1 12 14),oP 17 (lN 16),mV 7 17] (sO [mV 18 7,oP 19 (.toBytes 5 (tP 18)),oP 20 (lS 19),oP 21 (.mv (kI 0))] (.block 2 (.loop c141_2))))) (.ops [oP 32 (bK .add 14 1),mV 14 32])))
def c141 : AC := sO [oP 4 (.mv (kI 0))] (.seq (sO [mV 10 0,oP 11 (.eqv false .ptr (tP 10) (.const (.pointer none)))] (cT 11 (sO [oP 4 (.mv (kI 0))] .ret) .skip)) (sO [oP 5 (.mv (.const (.int .u32 4294967295)))] (.seq (sO [mV 12 1,oP 13 (lS 12),oP 14 (.mv (kI 0))] (.block 0 (.loop c141_0))) (sO [mV 33 5,oP 34 (.un .xor (tP 33)),oP 35 (.toInt .i64 (tP 34)),mV 4 35] .ret))))
theorem k141 : compF Tryz.prog Tryz.f141 = some (c141,[4]) := by kernel_rfl
theorem n141 : Tryz.f141.ntmps = 36 := by kernel_rfl
def cr1 (x : Int) : Int := if abits .and .u32 x 1 = 1 then abits .xor .u32 (x.fdiv (2 ^ min 1 IntKind.u32.bits)) 3988292384 else x.fdiv (2 ^ min 1 IntKind.u32.bits)
def crN : Nat → Int → Int
 | 0,x => x
 | n + 1,x => cr1 (crN n x)
def crT (i : Nat) : Int := crN 8 (i : Int)
def crcC (k : Nat) : List Value := (List.range 256).map fun i => if i < k then .int .u32 (crT i) else .int .u32 0
theorem crcC_len (k : Nat) : (crcC k).length = 256 := by simp [crcC]
theorem crcC_bel {n k : Nat} : ∀ x ∈ crcC k,VBelow n x := fun x hx => by
 obtain ⟨i,_,rfl⟩ := List.mem_map.1 hx
 split <;> exact .int
theorem crcC_put (k : Nat) (h : k < 256) : aput (crcC k) k [.int .u32 (crT k)] = crcC (k + 1) := by
 rw [aput_setJ _ _ _ (by rw [crcC_len]; exact h)]
 refine List.ext_getElem (by simp [crcC]) fun i h1 h2 => ?_
 simp only [crcC,List.length_set,List.length_map,List.length_range] at h1
 rw [List.getElem_set]
 simp only [crcC,List.getElem_map,List.getElem_range]
 by_cases q : k = i
 ·subst q; rw [if_pos rfl,if_pos (by omega)]
 ·rw [if_neg q]
  by_cases q2 : i < k
  ·rw [if_pos q2,if_pos (by omega)]
  ·rw [if_neg q2,if_neg (by omega)]
theorem crc_zero : zl .u32 256 = crcC 0 := by
 unfold crcC zl
 congr 1
def CrcK (H : Heap) (c : Nat) : Prop := H.cellsOf c = some (crcC 256,.ex,1)
theorem CrcK.keep {H H' : Heap} {f : Nat} (g : CrcK H f) (hk : ∀ u ob,H.m u = some ob → H'.m u = some ob) : CrcK H' f := cellsOf_keep hk g
theorem crcnew_ok (h : Heap) : ACalls Tryz.prog 95 [] h fun v h' => v = .pointer (some ⟨h.n,0,none⟩) ∧ h' = h.push (.cells (crcC 256) .ex 1) := by
 refine acalls_of mix Tryz.func95 k95 n95 (by simp) fun hcl hb => ?_
 simp only [c95,s_seq,s_ops]
 simp [crc_zero]
 have bP : VBelow (h.n + 1) (.pointer (some ⟨h.n,0,none⟩)) := .ptr (Nat.lt_succ_self _)
 have cK : ∀ k,(h.push (.cells (crcC k) .ex 1)).Closed := fun k => closed_push hcl crcC_bel
 refine awp_loop_of (α := Nat) (fun k => k ≤ 256) (fun k => [(1,.pointer (some ⟨h.n,0,none⟩)),(5,.int .i64 k)]) (fun k => h.push (.cells (crcC k) .ex 1)) (fun k => 256 - k) 0
  (Nat.zero_le _) ⟨Nat.le_succ _,Nat.le_refl _,fun _ _ e => e,cK _⟩ (by simp; exact ⟨bP,.int⟩) ?_
 intro k hk
 by_cases hlt : k < 256
 ·have hi' : (k : Int) < 256 := by omega
  have w4 := w64n (i := k) (by omega)
  have w5 : IntKind.u32.wrap (k : Int) = (k : Int) := by unfold IntKind.wrap; simp [IntKind.bits,IntKind.signed]; omega
  have f1 := cellsOf_new h (crcC k) .ex 1
  simp [c95_0, hi', w5, -Int.natCast_add]
  refine awp_loop_of (α := Nat) (fun j => j ≤ 8) (fun j => [(1,.pointer (some ⟨h.n,0,none⟩)),(2,.int .i64 k),(3,.int .u32 (crN j k)),(5,.int .i64 k),(10,.int .i64 j)]) (fun _ => h.push (.cells (crcC k) .ex 1)) (fun j => 8 - j) 0
   (Nat.zero_le _) ⟨Nat.le_succ _,Nat.le_refl _,fun _ _ e => e,cK _⟩ (by simp; exact ⟨bP,.int,⟨rfl,.int⟩,.int,.int⟩) ?_
  intro j hj
  by_cases hlt2 : j < 8
  ·have hj' : (j : Int) < 8 := by omega
   have w6 := w64n (i := j) (by omega)
   have hs : crN (j + 1) k = cr1 (crN j k) := rfl
   generalize crN j k = x at *
   by_cases h1 : abits .and .u32 x 1 = 1
   ·have hy : cr1 x = abits .xor .u32 (x.fdiv (2 ^ min 1 IntKind.u32.bits)) 3988292384 := by unfold cr1; rw [if_pos h1]
    rw [hy] at hs
    simp [c95_2, hj', h1, w6, -Int.natCast_add]
    exact ⟨j + 1,by omega,by omega,⟨Nat.le_succ _,Nat.le_refl _,fun _ _ e => e,cK _⟩,bP,.int,⟨hs.symm,.int⟩,.int,rfl,.int⟩
   ·have hy : cr1 x = x.fdiv (2 ^ min 1 IntKind.u32.bits) := by unfold cr1; rw [if_neg h1]
    rw [hy] at hs
    simp [c95_2, hj', h1, w6, -Int.natCast_add]
    exact ⟨j + 1,by omega,by omega,⟨Nat.le_succ _,Nat.le_refl _,fun _ _ e => e,cK _⟩,bP,.int,⟨hs.symm,.int⟩,.int,rfl,.int⟩
  ·have hje : j = 8 := by omega
   subst hje
   have h8 : crN 8 k = crT k := rfl
   have hp := crcC_put k hlt
   have hkl : k < (crcC k).length := by rw [crcC_len]; exact hlt
   simp [c95_2,h8,aidx_of hlt,f1,apart,hkl,hp,set_push,mcells,crcC_len,w4,show k ≤ 255 by omega,-Int.natCast_add]
   exact ⟨k + 1,by omega,by omega,⟨Nat.le_succ _,Nat.le_refl _,fun _ _ e => e,cK _⟩,bP,rfl,.int⟩
 ·have hie : k = 256 := by omega
  subst hie
  simp [c95_0]
theorem wrap8_in (x : Int) : ∃ n : Nat,n < 256 ∧ IntKind.u8.wrap x = (n : Int) := by
 refine ⟨(IntKind.u8.wrap x).toNat,?_,?_⟩ <;> (unfold IntKind.wrap; simp [IntKind.bits,IntKind.signed]; omega)
theorem wrap32_in (x : Int) : ∃ n : Nat,n < 4294967296 ∧ IntKind.u32.wrap x = (n : Int) := by
 refine ⟨(IntKind.u32.wrap x).toNat,?_,?_⟩ <;> (unfold IntKind.wrap; simp [IntKind.bits,IntKind.signed]; omega)
def crS (x : Int) (y : UInt8) : Int := abits .xor .u32 (x.fdiv (2 ^ min 8 IntKind.u32.bits)) (crT (abits .xor .u8 (IntKind.u8.wrap x) (y.toNat : Int)).toNat)
theorem crcstep_ok (c : Nat) (x : Int) (y : UInt8) (h : Heap) (hc : CrcK h c) : ACalls Tryz.prog 178 [.pointer (some ⟨c,0,none⟩),.int .u32 x,.int .u8 (y.toNat : Int)] h fun v h' => v = .int .u32 (crS x y) ∧ h' = h := by
 refine acalls_of mix Tryz.func178 k178 n178 (by simp) fun hcl hb => ?_
 obtain ⟨n,hn,hw⟩ : ∃ n : Nat,n < 256 ∧ abits .xor .u8 (IntKind.u8.wrap x) (y.toNat : Int) = (n : Int) := wrap8_in _
 have hS : crS x y = abits .xor .u32 (x.fdiv (2 ^ min 8 IntKind.u32.bits)) (crT n) := by unfold crS; rw [hw]; rfl
 have hg : (crcC 256)[n]? = some (.int .u32 (crT n)) := by
  unfold crcC
  rw [List.getElem?_map,List.getElem?_range hn,Option.map_some,if_pos hn]
 have hc' : h.cellsOf c = some (crcC 256,.ex,1) := hc
 simp [c178, hw, aidx_of hn, hc', apart, hg, hS]
def crW (l : List UInt8) : Int := l.foldl crS 4294967295
theorem crW_snoc (l : List UInt8) (y : UInt8) : crW (l ++ [y]) = crS (crW l) y := by unfold crW; rw [List.foldl_append]; rfl
def crSum (l : List UInt8) : Int := abits .xor .u32 IntKind.u32.max (crW l)
theorem crSum_in (l : List UInt8) : ∃ n : Nat,n < 4294967296 ∧ crSum l = (n : Int) := wrap32_in _
theorem sv_sizeJ (s : List UInt8) : (bs s).size = s.length := by simp [bs,ByteArray.size]
theorem crcsum_ok (c : Nat) (ts : List (List UInt8)) (v : Value) (h : Heap) (hc : CrcK h c) (hl : Sl sv h v ts) (hn : ts.length ≤ 1000000) (hs : ∀ t ∈ ts,t.length ≤ 1000000) :
  ACalls Tryz.prog 141 [.pointer (some ⟨c,0,none⟩),v] h fun r h' => r = .int .i64 (crSum ts.flatten) ∧ Gr h h' := by
 refine acalls_of mix Tryz.func141 k141 n141 (by simp) fun hcl hb => ?_
 have hq := ptrq
 have bl := Sl.below hl hcl
 have bc := cellsOf_lt hcl hc
 obtain ⟨a,cp,rfl⟩ := Sl.form hl
 simp [c141,hq]
 refine awp_loop_of (α := Nat × Heap) (fun z => z.1 ≤ ts.length ∧ Gr h z.2) (fun z => [(0,.pointer (some ⟨c,0,none⟩)),(5,.int .u32 (crW (ts.take z.1).flatten)),(12,.slice a ts.length cp),(13,.int .i64 ts.length),(14,.int .i64 z.1)]) (fun z => z.2) (fun z => ts.length - z.1) (0,h)
  ⟨Nat.zero_le _,Gr.refl hcl⟩ (Heap.Sub.refl hcl) (by simp; exact ⟨.ptr bc,⟨rfl,.int⟩,bl,.int,.int⟩) ?_
 rintro ⟨i,H⟩ ⟨hi,gH⟩
 dsimp only at hi gH ⊢
 by_cases hlt : i < ts.length
 ·have hi' : (i : Int) < (ts.length : Int) := by omega
  have w4 := w64n (i := i) (by omega)
  obtain ⟨b1,o1,cs1,m1,e1,rfl,_,g1,g1'⟩ := Sl.at (Sl.keep hl gH.m) hlt
  have hti : (ts.take (i + 1)).flatten = (ts.take i).flatten ++ ts[i] := by rw [List.take_succ_eq_append_getElem hlt,List.flatten_append]; simp
  have hsi := hs _ (List.getElem_mem hlt)
  generalize ts[i] = t at *
  have hsz : (bs t).size ≤ 1099511627776 := by rw [sv_sizeJ]; omega
  simp [c141_0, hi', aidx_of hlt, g1, apart, g1', sv, hsz, -Int.natCast_add]
  have hd : List.map (fun b : UInt8 => Value.int .u8 ↑b.toNat) (bs t).data.toList = ubs t := rfl
  rw [hd,sv_sizeJ]
  have cB : (H.push (.cells (ubs t) (.loose 5) 1)).Closed := closed_push gH.cl ubs_bel
  have gB : Gr H (H.push (.cells (ubs t) (.loose 5) 1)) := ⟨Nat.le_succ _,cB,keep_push gH.cl _⟩
  have nH := gH.n
  generalize hW : (ts.take i).flatten = W at *
  have bl2 : VBelow (H.n + 1) (.slice (some ⟨b1,o1,none⟩) ts.length cp) := bl.mono (by omega)
  have bP : VBelow (H.n + 1) (.pointer (some ⟨c,0,none⟩)) := .ptr (by show c < H.n + 1; omega)
  have bS : VBelow (H.n + 1) (.slice (some ⟨H.n,0,none⟩) t.length t.length) := .slice (Nat.lt_succ_self _)
  refine awp_loop_of (α := Nat) (fun j => j ≤ t.length) (fun j => [(0,.pointer (some ⟨c,0,none⟩)),(5,.int .u32 (crW (W ++ t.take j))),(12,.slice (some ⟨b1,o1,none⟩) ts.length cp),(13,.int .i64 ts.length),(14,.int .i64 i),(19,.slice (some ⟨H.n,0,none⟩) t.length t.length),(20,.int .i64 t.length),(21,.int .i64 j)]) (fun _ => H.push (.cells (ubs t) (.loose 5) 1)) (fun j => t.length - j) 0
   (Nat.zero_le _) ⟨by show h.n ≤ H.n + 1; omega,Nat.le_refl _,fun _ _ e => e,cB⟩ (by simp; exact ⟨bP,.int,bl2,.int,.int,bS,.int,.int⟩) ?_
  intro j hj
  by_cases hlt2 : j < t.length
  ·have hj' : (j : Int) < (t.length : Int) := by omega
   have w6 := w64n (i := j) (by omega)
   have hcn := cellsOf_new H (ubs t) (.loose 5) 1
   have hgj := ubs_getJ hlt2
   have htj : W ++ t.take (j + 1) = (W ++ t.take j) ++ [t[j]] := by rw [List.take_succ_eq_append_getElem hlt2,List.append_assoc]
   have hst : crW (W ++ t.take (j + 1)) = crS (crW (W ++ t.take j)) t[j] := by rw [htj,crW_snoc]
   generalize t[j] = y at *
   simp [c141_2, hj', aidx_of hlt2, hcn, apart, hgj, -Int.natCast_add]
   refine (crcstep_ok c _ y _ (hc.keep (gH.trans gB).m)).eqK ?_
   rw [← hst]
   simp [w6,-Int.natCast_add]
   exact ⟨j + 1,by omega,by omega,⟨by show h.n ≤ H.n + 1; omega,Nat.le_refl _,fun _ _ e => e,cB⟩,bP,⟨rfl,.int⟩,bl2,.int,.int,bS,.int,rfl,.int⟩
  ·have hje : j = t.length := by omega
   subst hje
   rw [List.take_of_length_le (Nat.le_refl _),← hti]
   simp [c141_2,w4,-Int.natCast_add]
   exact ⟨i + 1,by omega,_,⟨by omega,gH.trans gB⟩,⟨by show h.n ≤ H.n + 1; omega,Nat.le_refl _,fun _ _ e => e,cB⟩,bP,⟨rfl,.int⟩,bl2,.int,rfl,.int⟩
 ·have hie : i = ts.length := by omega
  subst hie
  have hS : abits .xor .u32 IntKind.u32.max (crW ts.flatten) = crSum ts.flatten := rfl
  have hsg : IntKind.u32.signed = false := rfl
  obtain ⟨q,hq1,hq2⟩ := crSum_in ts.flatten
  have wq : IntKind.i64.wrap (q : Int) = (q : Int) := IntWalk.i64_in _ (by omega)
  simp [c141_0,aun,hsg,hS,hq2,wq]
  exact gH
def c136 : AC := sO [oP 2 (.mv kF)] (sO [mV 3 0,oP 4 (bK .lss 3 1),mV 5 4,gP 6 5 false (.mv (tP 0)),gP 7 5 false (bK .gtr 6 7),oP 8 (pT 5 7),mV 2 8] .ret)
theorem k136 : compF Tryz.prog Tryz.f136 = some (c136,[2]) := by kernel_rfl
theorem n136 : Tryz.f136.ntmps = 9 := by kernel_rfl
def c128 : AC := sO [oP 4 (.mv (.const (.string ⟨⟨[]⟩⟩))),oP 5 (.mv (kI 0))] (.seq (sO [mV 10 0,oP 11 (.call 136 [tP 10])] (cT 11 (sO [oP 4 (.mv (.const (.string ⟨⟨[]⟩⟩))),oP 5 (.mv (kI 1))] .ret) .skip)) (sO [oP 6 (.mv (.const (.slice none 0 0)))] (.seq (sO [mV 12 1,oP 13 (lS 12),oP 14 (.mv (kI 0))] (.block 0 (.loop (sO [oP 15 (bT .lss 14 13)] (.seq (cT 15 .skip (.exit 0)) (.seq (.block 1 (sO [oP 16 (iA 1 12 14),oP 17 (lN 16),mV 8 17] (.seq (sO [mV 18 8,oP 19 (bK .lss 18 0),mV 20 19,gP 21 20 false (.mv (tP 8)),gP 22 20 false (.mv (tP 0)),gP 23 20 false (.bin .mul (kI 8) (tP 22)),gP 24 20 false (bT .shr 21 23),gP 25 20 false (bK .neq 24 0),oP 26 (pT 20 25)] (cT 26 (sO [oP 4 (.mv (.const (.string ⟨⟨[]⟩⟩))),oP 5 (.mv (kI 2))] .ret) .skip)) (sO [mV 27 0,oP 28 (.mv (kI 0))] (.block 2 (.loop (sO [oP 29 (bT .lss 28 27)] (.seq (cT 29 .skip (.exit 2)) (.seq (.block 3 (sO [mV 30 28,mV 9 30] (.ops [mV 31 6,mV 32 8,mV 33 0,oP 34 (bK .sub 33 1),mV 35 9,oP 36 (bT .sub 34 35),oP 37 (.bin .mul (kI 8) (tP 36)),oP 38 (bT .shr 32 37),oP 39 (.toInt .u8 (tP 38)),oP 40 (.buildS 1 [.int .u8 0] [(0,1,.tmp 39)]),oP 41 (.app 1 1 5 (tP 31) (tP 40)),mV 6 41]))) (.ops [oP 42 (bK .add 28 1),mV 28 42])))))))))) (.ops [oP 43 (bK .add 14 1),mV 14 43]))))))) (sO [mV 44 6,oP 45 (.toStr (tP 44)),mV 4 45,oP 5 (.mv (kI 0))] .ret))))
theorem k128 : compF Tryz.prog Tryz.f128 = some (c128,[4,5]) := by kernel_rfl
theorem n128 : Tryz.f128.ntmps = 46 := by kernel_rfl
def c137 : AC := sO [oP 2 (.mv (kI 0))] (.seq (sO [mV 6 0,oP 7 (.call 135 [tP 6,.func 136])] (cT 7 (sO [oP 2 (.mv (kI 0))] .ret) .skip)) (sO [oP 3 (.mv (kI 0))] (.seq (sO [mV 8 0,oP 9 (lS 8),oP 10 (.mv (kI 0))] (.block 0 (.loop (sO [oP 11 (bT .lss 10 9)] (.seq (cT 11 .skip (.exit 0)) (.seq (.block 1 (sO [oP 12 (iA 1 8 10),oP 13 (lN 12),mV 5 13] (.ops [mV 14 3,mV 15 5,oP 16 (bT .add 14 15),mV 3 16]))) (.ops [oP 17 (bK .add 10 1),mV 10 17]))))))) (sO [mV 18 3,mV 2 18] .ret))))
theorem k137 : compF Tryz.prog Tryz.f137 = some (c137,[2]) := by kernel_rfl
theorem n137 : Tryz.f137.ntmps = 19 := by kernel_rfl
def c104 : AC := sO [oP 4 (.mv (.const (.slice none 0 0))),oP 5 (.mv (kI 0))] (.seq (.block 0 (sO [mV 13 1,oP 14 (.call 135 [tP 13,.func 136]),mV 12 14] (cT 12 (sO [oP 4 (.mv (.const (.slice none 0 0))),oP 5 (.mv (kI 1))] .ret) (sO [mV 16 0,oP 17 (.lenS true (tP 16)),mV 18 1,oP 19 (.call 137 [tP 18]),oP 20 (bT .lss 17 19),mV 15 20] (cT 15 (sO [oP 4 (.mv (.const (.slice none 0 0))),oP 5 (.mv (kI 13))] .ret) .skip))))) (sO [oP 6 (.mv (.const (.slice none 0 0)))] (.seq (sO [mV 21 1,oP 22 (lS 21),oP 23 (.mv (kI 0))] (.block 1 (.loop (sO [oP 24 (bT .lss 23 22)] (.seq (cT 24 .skip (.exit 1)) (.seq (.block 2 (sO [oP 25 (iA 1 21 23),oP 26 (lN 25),mV 8 26] (sO [oP 9 (.mv (kI 0))] (.seq (sO [mV 27 0,mV 28 8,oP 29 (.slS (tP 27) none (some (tP 28))),oP 30 (.toBytes 5 (tP 29)),oP 31 (lS 30),oP 32 (.mv (kI 0))] (.block 3 (.loop (sO [oP 33 (bT .lss 32 31)] (.seq (cT 33 .skip (.exit 3)) (.seq (.block 4 (sO [oP 34 (iA 1 30 32),oP 35 (lN 34),mV 11 35] (.ops [mV 36 9,oP 37 (.bin .shl (tP 36) (.const (.int .u64 8))),mV 38 11,oP 39 (.toInt .i64 (tP 38)),oP 40 (bT .or 37 39),mV 9 40]))) (.ops [oP 41 (bK .add 32 1),mV 32 41]))))))) (.draw [([mV 42 6,mV 43 9,mV 46 0,mV 47 8,oP 48 (.slS (tP 46) (some (tP 47)) none)],[oP 44 (.buildS 1 [.int .i64 0] [(0,1,.tmp 43)])],[]),([],[oP 45 (.app 1 8 3 (tP 42) (tP 44))],[]),([],[mV 6 45],[]),([],[mV 0 48],[]),([],[],[])]))))) (.ops [oP 49 (bK .add 23 1),mV 23 49]))))))) (sO [mV 50 6,mV 4 50,oP 5 (.mv (kI 0))] .ret))))
theorem k104 : compF Tryz.prog Tryz.f104 = some (c104,[4,5]) := by kernel_rfl
theorem n104 : Tryz.f104.ntmps = 51 := by kernel_rfl
theorem wrong_ok (n : Int) (h : Heap) : ACalls Tryz.prog 136 [.int .i64 n] h fun v h' => v = .bool (decide (n < 1) || decide (7 < n)) ∧ h' = h := by
 refine acalls_of mix Tryz.func136 k136 n136 (by simp) fun hcl hb => ?_
 simp [c136]
 by_cases h1 : n < 1
 ·simp [h1]
 ·simp [h1]
def beB (size : Nat) (k : Int) : List Int := (List.range size).map fun i => IntKind.u8.wrap (k.fdiv (2 ^ (8 * (size - 1 - i))))
def fits (size : Nat) (k : Int) : Prop := 0 ≤ k ∧ k.fdiv (2 ^ (8 * size)) = 0
instance (size : Nat) (k : Int) : Decidable (fits size k) := inferInstanceAs (Decidable (_ ∧ _))
def cU8 (x : Int) : Value := .int .u8 x
def bytesOfInts (l : List Int) : ByteArray := ⟨(l.map fun n => UInt8.ofNat n.toNat).toArray⟩
theorem beB_len (size : Nat) (k : Int) : (beB size k).length = size := by simp [beB]
theorem beB_take (size j : Nat) (k : Int) (h : j < size) : (beB size k).take (j + 1) = (beB size k).take j ++ [IntKind.u8.wrap (k.fdiv (2 ^ (8 * (size - 1 - j))))] := by
 rw [List.take_succ_eq_append_getElem (by rw [beB_len]; exact h)]
 simp [beB]
theorem ints_below {n : Nat} {l : List Int} : ∀ x ∈ l.map cU8,VBelow n x := fun x hx => by obtain ⟨y,_,rfl⟩ := List.mem_map.1 hx; exact .int
theorem abytes_ints : ∀ l : List Int,abytes (l.map cU8) = some (l.map fun n => UInt8.ofNat n.toNat)
 | [] => rfl
 | x :: r => by
   show (abytes (r.map cU8)).map _ = _
   rw [abytes_ints r]
   rfl
def putOut (size : Int) (l : List Int) : Value :=
 if size < 1 ∨ 7 < size then .tuple #[.string ⟨#[]⟩,.int .i64 1]
 else if ∀ k ∈ l,fits size.toNat k then .tuple #[.string (bytesOfInts (l.flatMap (beB size.toNat))),.int .i64 0]
 else .tuple #[.string ⟨#[]⟩,.int .i64 2]
theorem put_ok (size : Int) (l : List Int) (v : Value) (h : Heap) (hl : Sl (.int .i64) h v l) (hlen : l.length ≤ 68719476736) : ACalls Tryz.prog 128 [.int .i64 size,v] h fun r h' => r = putOut size l ∧ h' = h := by
 refine ACalls.drop (R := fun r h' => r = putOut size l ∧ h.Sub h.n h') ?_ fun v h' hh => ⟨h,hh.2,by rw [hh.1]; unfold putOut; split <;> (try split) <;> exact vb_tuple2 .string .int,hh.1,rfl⟩
 refine acalls_of mix Tryz.func128 k128 n128 (by simp) fun hcl hb => ?_
 simp [c128]
 refine (wrong_ok _ _).mono ?_
 rintro v1 h1 ⟨rfl,e⟩
 subst e
 by_cases w : size < 1 ∨ 7 < size
 ·have w1 : (decide (size < 1) || decide (7 < size)) = true := by simpa using w
  simp [w1,putOut,w]
  exact Heap.Sub.refl hcl
 have w1 : (decide (size < 1) || decide (7 < size)) = false := by simpa using w
 simp [w1]
 obtain ⟨sz,rfl⟩ : ∃ sz : Nat,size = sz := ⟨size.toNat,by omega⟩
 have hs1 : 1 ≤ sz := by omega
 have hs7 : sz ≤ 7 := by omega
 have hfr : ∀ (h2 : Heap),h1.n ≤ h2.n → (∀ b,b < h1.n → h2.m b = h1.m b) → h1.Sub h1.n h2 := fun h2 hn hm => ⟨Nat.le_refl _,hn,fun b o e => by rw [hm b (hcl b o e).1]; exact e,hcl⟩
 rcases hl with ⟨c,rfl,rfl⟩ | ⟨b,o,cap,c,m,e,rfl,hc,hcap,hol,hget⟩
 ·simp
  refine awp_loop_of (α := Unit) (fun _ => True) (fun _ => [(6,.slice none 0 0),(13,.int .i64 0),(14,.int .i64 0)]) (fun _ => h1) (fun _ => 0) () trivial (Heap.Sub.refl hcl) (by simp; exact ⟨VBelow.snil,VBelow.int⟩) fun _ _ => ?_
  simp [putOut,w]
  exact ⟨rfl,Heap.Sub.refl hcl⟩
 simp
 have hbn : b < h1.n := by
  unfold Heap.cellsOf at hc
  split at hc
  ·rename_i hm; exact (hcl b _ hm).1
  ·cases hc
 refine awp_loop_of (α := Nat × Value × Heap) (fun x => x.1 ≤ l.length ∧ (∀ k ∈ l.take x.1,fits sz k) ∧ Own h1 1 (x.1 * sz) (((l.take x.1).flatMap (beB sz)).map cU8) x.2.1 x.2.2)
  (fun x => [(0,.int .i64 sz),(6,x.2.1),(12,.slice (some ⟨b,o,none⟩) l.length cap),(13,.int .i64 l.length),(14,.int .i64 x.1)]) (fun x => x.2.2) (fun x => l.length - x.1) (0,.slice none 0 0,h1)
  ⟨Nat.zero_le _,by simp,by simpa using Own.start h1 1⟩ (Heap.Sub.refl hcl) (by simp; exact ⟨.int,.snil,.slice hbn,.int,.int⟩) ?_
 rintro ⟨i,vi,hi⟩ ⟨hil,hfit,hown⟩
 dsimp only at hil hfit hown
 have cap1 : (1 : Nat) ≤ 1 := Nat.le_refl _
 have hci : hi.cellsOf b = some (c,m,e) := by unfold Heap.cellsOf; rw [hown.old hbn]; exact hc
 by_cases hlt : i < l.length
 ·have g0 := hget i hlt
  have w8 : IntKind.i64.wrap (8 * (sz : Int)) = 8 * sz := IntWalk.i64_in _ (by omega)
  have p8 : (0 : Int) ≤ 8 * sz := by omega
  have m8 : min ((8 * (sz : Int)).toNat) 64 = 8 * sz := by omega
  have hsub : h1.Sub h1.n hi := hfr hi hown.1 fun b' hb' => hown.old hb'
  have bad : ¬ fits sz l[i] → putOut sz l = .tuple #[.string ⟨#[]⟩,.int .i64 2] := fun nf => by
   unfold putOut
   rw [if_neg w,if_neg (fun hall => nf (by simpa using hall l[i] (List.getElem_mem hlt)))]
  by_cases hneg : l[i] < 0
  ·simp [hlt,aidx_of hlt,hci,apart,g0,hneg]
   exact ⟨(bad fun q => absurd q.1 (by omega)).symm,hsub⟩
  have hpos : 0 ≤ l[i] := by omega
  by_cases hsm : l[i].fdiv (2 ^ (8 * sz)) = 0
  case neg =>
   simp [hlt,aidx_of hlt,hci,apart,g0,hneg,w8,p8,show IntKind.i64.bits = 64 from rfl,m8,hsm]
   exact ⟨(bad fun q => hsm q.2).symm,hsub⟩
  simp [hlt,aidx_of hlt,hci,apart,g0,hneg,w8,p8,show IntKind.i64.bits = 64 from rfl,m8,hsm]
  have hvl : VBelow hi.n vi := hown.below
  have hcli : hi.Closed := hown.closed hcl (fun x hx => by obtain ⟨y,_,rfl⟩ := List.mem_map.1 hx; exact .int)
  have hn1 := hown.1
  refine awp_loop_of (α := Nat × Value × Heap) (fun x => x.1 ≤ sz ∧ Own h1 1 (i * sz + x.1) (((l.take i).flatMap (beB sz) ++ (beB sz l[i]).take x.1).map cU8) x.2.1 x.2.2)
   (fun x => [(0,.int .i64 sz),(6,x.2.1),(8,.int .i64 l[i]),(12,.slice (some ⟨b,o,none⟩) l.length cap),(13,.int .i64 l.length),(14,.int .i64 i),(27,.int .i64 sz),(28,.int .i64 x.1)]) (fun x => x.2.2) (fun x => sz - x.1) (0,vi,hi)
   ⟨Nat.zero_le _,by simpa using hown⟩ ⟨hown.1,Nat.le_refl _,fun _ _ e => e,hcli⟩ (by simp; exact ⟨.int,hvl,.int,vb_slice (by omega),.int,.int,.int,.int⟩) ?_
  rintro ⟨j,vj,hj⟩ ⟨hjl,hownj⟩
  dsimp only at hjl hownj
  by_cases hjlt : j < sz
  ·have q1 : IntKind.i64.wrap ((sz : Int) - 1) = sz - 1 := IntWalk.i64_in _ (by omega)
   have q2 : IntKind.i64.wrap ((sz : Int) - 1 - j) = sz - 1 - j := IntWalk.i64_in _ (by omega)
   have q3 : IntKind.i64.wrap (8 * ((sz : Int) - 1 - j)) = 8 * (sz - 1 - j) := IntWalk.i64_in _ (by omega)
   have q4 : (0 : Int) ≤ 8 * (sz - 1 - j) := by omega
   have q5 : min ((8 * ((sz : Int) - 1 - j)).toNat) 64 = 8 * (sz - 1 - j) := by omega
   have q6 := w64n (i := j) (by omega)
   obtain ⟨a,cc,rfl,v2,H2,H3,happ,hown3,hn3,hin3⟩ := hownj.app (H' := hj.push (.cells [cU8 (IntKind.u8.wrap (l[i].fdiv (2 ^ (8 * (sz - 1 - j)))))] .ex 1)) (t := 5) (bytes := 1) (k := 1) (new := [cU8 (IntKind.u8.wrap (l[i].fdiv (2 ^ (8 * (sz - 1 - j)))))]) hcl (by simp) (fun b hb => by rw [push_m,if_neg (by omega)]) (by omega) rfl (by
    have : i * sz ≤ l.length * 7 := Nat.mul_le_mul hil hs7
    omega)
   simp [hjlt,q1,q2,q3,q4,q5,show IntKind.i64.bits = 64 from rfl,afill,mcells,alen,afirst,Heap.cellsOf,push_m,acut,happ,cU8] at happ ⊢
   refine ⟨j + 1,by omega,v2,H3,⟨by omega,?_⟩,⟨hown3.1,by omega,hin3,hown3.closed hcl ?_⟩,.int,⟨rfl,hown3.below⟩,.int,vb_slice (by have := hown3.1; omega),.int,.int,.int,q6,.int⟩
   ·rw [← List.map_take,beB_take sz j _ hjlt]
    simpa [cU8,Nat.add_assoc] using hown3
   ·intro x hx
    rcases List.mem_append.1 hx with hx | hx
    ·exact ints_below x hx
    ·rw [List.mem_singleton.1 hx]; exact .int
  ·have hj1 : j = sz := by omega
   subst hj1
   simp
   rw [show (beB j l[i]).take j = beB j l[i] from List.take_of_length_le (Nat.le_of_eq (beB_len _ _))] at hownj
   refine ⟨i + 1,by omega,vj,hj,⟨by omega,?_,?_⟩,⟨hownj.1,Nat.le_refl _,fun _ _ e => e,hownj.closed hcl ints_below⟩,.int,⟨rfl,hownj.below⟩,vb_slice (by have := hownj.1; omega),.int,by rw [IntWalk.i64_in _ (by omega)]; omega,.int⟩
   ·intro k hk
    rw [List.take_succ_eq_append_getElem hlt] at hk
    rcases List.mem_append.1 hk with hk | hk
    ·exact hfit k hk
    ·rw [List.mem_singleton.1 hk]; exact ⟨hpos,hsm⟩
   ·rw [List.take_succ_eq_append_getElem hlt]
    simp only [List.flatMap_append,List.flatMap_cons,List.flatMap_nil,List.append_nil,Nat.add_mul,Nat.one_mul]
    exact hownj
 ·have hi1 : i = l.length := by omega
  subst hi1
  simp
  rw [List.take_of_length_le (Nat.le_refl _)] at hown hfit
  have hsub : h1.Sub h1.n hi := hfr hi hown.1 fun b' hb' => hown.old hb'
  have hout : putOut sz l = .tuple #[.string (bytesOfInts (l.flatMap (beB sz))),.int .i64 0] := by
   unfold putOut
   rw [if_neg w,if_pos (by simpa using hfit)]
   rfl
  have hf := hown.first
  have hab := abytes_ints (l.flatMap (beB sz))
  obtain ⟨_, ⟨rfl, hcells, hlen0, hH⟩ | ⟨nm, md, e', hn1, hn2, rfl, hcl2, _, hH⟩⟩ := hown
  ·simp
   have : bytesOfInts (l.flatMap (beB sz)) = ⟨#[]⟩ := by
    rw [List.map_eq_nil_iff] at hcells
    rw [hcells]
    rfl
   rw [hout,this]
   exact ⟨rfl,hsub⟩
  ·simp [hf,hab]
   rw [hout]
   exact ⟨rfl,hsub⟩
def bN : Nat → Nat → List UInt8
 | 0,_ => []
 | n + 1,x => UInt8.ofNat (x / 256 ^ n % 256) :: bN n x
theorem bN_len : ∀ n x,(bN n x).length = n
 | 0,_ => rfl
 | n + 1,x => by simp [bN,bN_len n x]
theorem mod_step (n x : Nat) : x % 256 ^ (n + 1) = 256 ^ n * (x / 256 ^ n % 256) + x % 256 ^ n := by
 rw [Nat.pow_succ,Nat.mod_mul]
 omega
theorem u8_eq (a b : Nat) (ha : a < 256) (hb : b < 256) : UInt8.ofNat a = UInt8.ofNat b ↔ a = b := by
 rw [← UInt8.toNat_inj, UInt8.toNat_ofNat', UInt8.toNat_ofNat', Nat.mod_eq_of_lt ha, Nat.mod_eq_of_lt hb]
theorem split_eq (p q r s t : Nat) (h1 : r < p) (h2 : t < p) : (p * q + r = p * s + t) ↔ q = s ∧ r = t := by
 rcases Nat.lt_trichotomy q s with h | h | h
 ·have : p * (q + 1) ≤ p * s := Nat.mul_le_mul_left _ h
  rw [Nat.mul_succ] at this
  constructor <;> intro <;> omega
 ·subst h; constructor <;> intro <;> omega
 ·have : p * (s + 1) ≤ p * q := Nat.mul_le_mul_left _ h
  rw [Nat.mul_succ] at this
  constructor <;> intro <;> omega
theorem bN_eq : ∀ n x y,bN n x = bN n y ↔ x % 256 ^ n = y % 256 ^ n
 | 0,x,y => by simp [bN,Nat.mod_one]
 | n + 1,x,y => by
   have hp : 0 < 256 ^ n := Nat.pow_pos (by omega)
   have ha : x / 256 ^ n % 256 < 256 := Nat.mod_lt _ (by omega)
   have hb : y / 256 ^ n % 256 < 256 := Nat.mod_lt _ (by omega)
   rw [mod_step,mod_step,split_eq _ _ _ _ _ (Nat.mod_lt _ hp) (Nat.mod_lt _ hp),bN,bN,List.cons.injEq,bN_eq n x y,u8_eq _ _ ha hb]
theorem u8_wrap (n : Int) : IntKind.u8.wrap n = n % 256 := by
 unfold IntKind.wrap
 simp [show IntKind.u8.bits = 8 from rfl,show IntKind.u8.signed = false from rfl]
theorem beB_bN (x : Nat) : ∀ n,((beB n x).map fun k => UInt8.ofNat k.toNat) = bN n x
 | 0 => rfl
 | n + 1 => by
   rw [bN,← beB_bN x n]
   simp only [beB,List.range_succ_eq_map,List.map_cons,List.map_map]
   congr 1
   ·rw [u8_wrap,Nat.add_sub_cancel,Nat.sub_zero,Int.fdiv_eq_ediv_of_nonneg _ (Int.pow_nonneg (by omega)),show ((2 : Int) ^ (8 * n)) = ((256 ^ n : Nat) : Int) by rw [Int.natCast_pow,Int.pow_mul]; rfl]
    congr 1
   ·apply List.map_congr_left
    intro i _
    simp only [Function.comp,Nat.succ_eq_add_one]
    rw [show n + 1 - 1 - (i + 1) = n - 1 - i by omega]
theorem str_be (n x : Nat) : bytesOfInts (([(x : Int)]).flatMap (beB n)) = ⟨(bN n x).toArray⟩ := by
 unfold bytesOfInts
 rw [List.flatMap_cons,List.flatMap_nil,List.append_nil,beB_bN]
theorem fits_lt {n x : Nat} : fits n (x : Int) ↔ x < 256 ^ n := by
 unfold fits
 rw [Int.fdiv_eq_ediv_of_nonneg _ (Int.pow_nonneg (by omega)),show ((2 : Int) ^ (8 * n)) = ((256 ^ n : Nat) : Int) by rw [Int.natCast_pow,Int.pow_mul]; rfl]
 have hp : 0 < 256 ^ n := Nat.pow_pos (by omega)
 rw [← Int.natCast_ediv]
 constructor
 ·intro h
  have : x / 256 ^ n = 0 := by omega
  rwa [Nat.div_eq_zero_iff_lt hp] at this
 ·intro h
  rw [Nat.div_eq_of_lt h]
  exact ⟨by omega,rfl⟩
theorem sl_one {n : Int} {h : Heap} {b : Nat} (hc : h.cellsOf b = some ([.int .i64 n],.ex,1)) : Sl (.int .i64) h (.slice (some ⟨b,0,none⟩) 1 1) [n] :=
 .inr ⟨b,0,1,_,_,_,rfl,hc,Nat.le_refl _,fun _ => Nat.le_refl _,fun i hi => by
  have : i = 0 := by simp at hi; omega
  subst this; rfl⟩
def tkN (l : List UInt8) : Nat := l.foldl (fun n c => n * 256 + c.toNat) 0
theorem tkN_app (a : List UInt8) (c : UInt8) : tkN (a ++ [c]) = tkN a * 256 + c.toNat := by simp [tkN]
theorem tkN_lt : ∀ (n : Nat) (l : List UInt8),l.length = n → tkN l < 256 ^ n := by
 intro n
 induction n with
 | zero => intro l h; rw [List.eq_nil_of_length_eq_zero h]; decide
 | succ n ih =>
   intro l h
   have hne : l ≠ [] := by intro e; rw [e] at h; simp at h
   rw [← List.dropLast_concat_getLast hne,tkN_app]
   have := ih l.dropLast (by simp [h])
   have hc := (l.getLast hne).toNat_lt
   rw [Nat.pow_succ]
   omega
theorem bN_app : ∀ (n x : Nat),bN (n + 1) x = bN n (x / 256) ++ [UInt8.ofNat (x % 256)]
 | 0,x => by simp [bN]
 | n + 1,x => by
   rw [bN,bN_app n x,bN,List.cons_append]
   congr 2
   rw [Nat.pow_succ,Nat.mul_comm,← Nat.div_div_eq_div_mul]
theorem tk_bN : ∀ (n x : Nat),x < 256 ^ n → tkN (bN n x) = x := by
 intro n
 induction n with
 | zero => intro x h; simp at h; subst h; rfl
 | succ n ih =>
   intro x h
   rw [bN_app,tkN_app,ih _ (by rw [Nat.pow_succ] at h; omega)]
   have : (UInt8.ofNat (x % 256)).toNat = x % 256 := by simp
   rw [this]
   omega
def tkL : List UInt8 → List Nat → List Int
 | _,[] => []
 | l,k :: ks => (tkN (l.take k) : Int) :: tkL (l.drop k) ks
theorem ok98 : callOk Tryz.prog 136 = true := by kernel_rfl
abbrev cI (x : Int) : Value := .int .i64 x
def wr (n : Int) : Bool := decide (n < 1) || decide (7 < n)
def bad (l : List Int) : Bool := l.any wr
theorem bad_app (l : List Int) (x : Int) : bad (l ++ [x]) = (bad l || wr x) := by simp [bad]
theorem bad_mem {l : List Int} {x : Int} (hx : x ∈ l) (w : wr x = true) : bad l = true := List.any_eq_true.2 ⟨x,hx,w⟩
theorem not_bad {l : List Int} (h : bad l = false) : ∀ x ∈ l,wr x = false := fun x hx => by simpa using List.any_eq_false.1 h x hx
theorem idx_ok (l : List Int) (v : Value) (h : Heap) (hl : Sl cI h v l) (hn : l.length ≤ 68719476736) :
  ACalls Tryz.prog 160 [v,.func (.func 136) #[] #[]] h fun r h' => (∃ k,r = .int .i64 k ∧ (0 ≤ k ↔ bad l = true)) ∧ h' = h := by
 refine acalls_of mix Tryz.func160 k160 n160 (by simp) fun hcl hb => ?_
 have bl := hl.below hcl
 obtain ⟨a,c,rfl⟩ := hl.form
 simp [c160]
 refine awp_loop_of (α := Nat) (fun i => i ≤ l.length ∧ bad (l.take i) = false) (fun i => [(0,.slice a l.length c),(1,.func (.func 136) #[] #[]),(7,.int .i64 l.length),(8,.int .i64 i)]) (fun _ => h) (fun i => l.length - i) 0
  ⟨Nat.zero_le _,by simp [bad]⟩ (Heap.Sub.refl hcl) (by simp; exact ⟨bl,by exact hb _ (by simp),.int,.int⟩) ?_
 rintro i ⟨hil,hany⟩
 by_cases hlt : i < l.length
 ·obtain ⟨b1,o1,cs1,m1,e1,rfl,_,g1,g1'⟩ := hl.at hlt
  simp [c160_0, hlt, aidx_of hlt, g1, apart, g1', ok98]
  refine (wrong_ok _ _).mono ?_
  rintro v1 h1 ⟨rfl,e⟩
  subst e
  by_cases w : wr l[i] = true
  ·have w' := w
   unfold wr at w'
   simp [w']
   exact bad_mem (List.getElem_mem hlt) w
  ·have w' : wr l[i] = false := by simpa using w
   unfold wr at w'
   simp [w']
   refine ⟨i + 1,by omega,⟨by omega,?_⟩,Heap.Sub.refl hcl,bl,by exact hb _ (by simp),.int,?_,.int⟩
   ·rw [List.take_succ_eq_append_getElem hlt,bad_app,hany,(by simpa using w : wr l[i] = false)]
    rfl
   ·rw [IntWalk.i64_in _ (by omega)]; omega
 ·have : i = l.length := by omega
  subst this
  rw [List.take_of_length_le (by omega)] at hany
  simp [c160_0,hany]
theorem cont_ok (l : List Int) (v : Value) (h : Heap) (hl : Sl cI h v l) (hn : l.length ≤ 68719476736) :
  ACalls Tryz.prog 135 [v,.func (.func 136) #[] #[]] h fun r h' => r = .bool (bad l) ∧ h' = h := by
 refine acalls_of mix Tryz.func135 k135 n135 (by simp) fun hcl hb => ?_
 simp [c135]
 refine (idx_ok l v h hl hn).mono ?_
 rintro v1 h1 ⟨⟨k,rfl,hk⟩,e⟩
 subst e
 simp
 rw [Bool.eq_iff_iff,decide_eq_true_eq,hk]
def sumI (l : List Int) : Int := l.foldl (· + ·) 0
theorem sumI_app (l : List Int) (x : Int) : sumI (l ++ [x]) = sumI l + x := by simp [sumI]
theorem sumI_bound : ∀ (n : Nat) (l : List Int),l.length = n → (∀ x ∈ l,wr x = false) → 0 ≤ sumI l ∧ sumI l ≤ 7 * l.length := by
 intro n
 induction n with
 | zero => intro l h _; rw [List.eq_nil_of_length_eq_zero h]; decide
 | succ n ih =>
   intro l h hw
   have hne : l ≠ [] := by intro e; rw [e] at h; simp at h
   have hd := ih l.dropLast (by simp [h]) fun x hx => hw x (List.dropLast_subset l hx)
   have hx := hw _ (List.getLast_mem hne)
   unfold wr at hx
   simp only [Bool.or_eq_false_iff,decide_eq_false_iff_not] at hx
   have hs := sumI_app l.dropLast (l.getLast hne)
   rw [List.dropLast_concat_getLast hne] at hs
   rw [hs]
   simp only [List.length_dropLast] at hd
   have : ((l.length - 1 : Nat) : Int) = l.length - 1 := by omega
   omega
theorem size_ok (l : List Int) (v : Value) (h : Heap) (hl : Sl cI h v l) (hn : l.length ≤ 68719476736) :
  ACalls Tryz.prog 137 [v] h fun r h' => r = .int .i64 (if bad l then 0 else sumI l) ∧ h' = h := by
 refine acalls_of mix Tryz.func137 k137 n137 (by simp) fun hcl hb => ?_
 have bl := hl.below hcl
 simp [c137]
 refine (cont_ok l v h hl hn).mono ?_
 rintro v1 h1 ⟨rfl,e⟩
 subst e
 by_cases w : bad l = true
 ·simp [w]
 have w' : bad l = false := by simpa using w
 have hwr := not_bad w'
 obtain ⟨a,c,rfl⟩ := hl.form
 simp [w']
 refine awp_loop_of (α := Nat) (fun i => i ≤ l.length) (fun i => [(3,.int .i64 (sumI (l.take i))),(8,.slice a l.length c),(9,.int .i64 l.length),(10,.int .i64 i)]) (fun _ => h1) (fun i => l.length - i) 0
  (Nat.zero_le _) (Heap.Sub.refl hcl) (by simp [sumI]; exact ⟨.int,bl,.int,.int⟩) ?_
 rintro i hil
 by_cases hlt : i < l.length
 ·obtain ⟨b1,o1,cs1,m1,e1,rfl,_,g1,g1'⟩ := hl.at hlt
  have hs := sumI_bound _ (l.take (i + 1)) rfl fun x hx => hwr x (List.mem_of_mem_take hx)
  rw [List.take_succ_eq_append_getElem hlt,sumI_app,List.length_append,List.length_take] at hs
  simp [hlt,aidx_of hlt,g1,apart,g1']
  refine ⟨i + 1,by omega,by omega,Heap.Sub.refl hcl,⟨?_,.int⟩,bl,.int,?_,.int⟩
  ·rw [List.take_succ_eq_append_getElem hlt,sumI_app]
   rw [IntWalk.i64_in _ (by simp at hs; omega)]
  ·rw [IntWalk.i64_in _ (by omega)]; omega
 ·have : i = l.length := by omega
  subst this
  simp [w']
theorem shl_or (n : Nat) (c : UInt8) (hn : n < 72057594037927936 / 2) : abits .or .i64 (IntKind.i64.wrap ((n : Int) * 2 ^ (min (8 : Int).toNat IntKind.i64.bits))) (IntKind.i64.wrap (c.toNat : Int)) = ((n * 256 + c.toNat : Nat) : Int) := by
 have hc := c.toNat_lt
 have e1 : (2 : Int) ^ (min (8 : Int).toNat IntKind.i64.bits) = 256 := by decide
 rw [e1,i64_small (by omega) (by omega),i64_small (by omega) (by omega)]
 unfold abits
 have e2 : ((n : Int) * 256) = ((n * 256 : Nat) : Int) := by omega
 rw [e2]
 simp only [BitVec.ofInt_natCast,show IntKind.i64.bits = 64 from rfl]
 have e3 : 2 ^ IntKind.i64.bits = 18446744073709551616 := by decide
 rw [BitVec.toNat_or,BitVec.toNat_ofNat,BitVec.toNat_ofNat,e3,Nat.mod_eq_of_lt (by omega),Nat.mod_eq_of_lt (by omega)]
 have : n * 256 ||| c.toNat = n * 256 + c.toNat := by
  rw [show n * 256 = n <<< 8 by rw [Nat.shiftLeft_eq]]
  exact (Nat.shiftLeft_add_eq_or_of_lt (by omega) n).symm
 rw [this,i64_small (by omega) (by omega)]
theorem abN_hi {L k : Nat} (h : k ≤ L) : abounds L L none (some (.int .i64 (k : Int))) none = some (0,k,L) := by
 have : abound (.int .i64 (k : Int)) L = some k := by unfold abound; simp only; rw [if_pos ⟨by omega,by omega⟩]; rfl
 simp [abounds,this]
theorem abN_lo {L k : Nat} (h : k ≤ L) : abounds L L (some (.int .i64 (k : Int))) none none = some (k,L,L) := by
 have : abound (.int .i64 (k : Int)) L = some k := by unfold abound; simp only; rw [if_pos ⟨by omega,by omega⟩]; rfl
 simp [abounds,this]
def nats (l : List Int) : List Nat := l.map Int.toNat
def sumN (l : List Nat) : Nat := l.foldl (· + ·) 0
theorem sumN_app (l : List Nat) (x : Nat) : sumN (l ++ [x]) = sumN l + x := by simp [sumN]
theorem tkL_len : ∀ (l : List UInt8) (ks : List Nat),(tkL l ks).length = ks.length
 | _,[] => rfl
 | l,k :: ks => by simp [tkL,tkL_len (l.drop k) ks]
theorem tkL_get : ∀ (l : List UInt8) (ks : List Nat) (i : Nat) (h : i < ks.length),(tkL l ks)[i]'(by rw [tkL_len]; exact h) = (tkN ((l.drop (sumN (ks.take i))).take ks[i]) : Int)
 | _,[],i,h => by simp at h
 | l,k :: ks,0,h => by simp [tkL,sumN]
 | l,k :: ks,i + 1,h => by
   have := tkL_get (l.drop k) ks i (by simpa using h)
   simp only [tkL,List.getElem_cons_succ,this,List.drop_drop]
   congr 4
   have e : sumN (List.take (i + 1) (k :: ks)) = k + sumN (ks.take i) := by
    unfold sumN
    rw [List.take_succ_cons,List.foldl_cons]
    have hf : ∀ (xs : List Nat) (a : Nat),xs.foldl (· + ·) a = a + xs.foldl (· + ·) 0 := by
     intro xs
     induction xs with
     | nil => intro a; rfl
     | cons x xs ih => intro a; rw [List.foldl_cons,ih,List.foldl_cons,ih (0 + x)]; omega
    rw [hf]; omega
   rw [e]
theorem tkL_take (l : List UInt8) (ks : List Nat) (i : Nat) (h : i < ks.length) : (tkL l ks).take (i + 1) = (tkL l ks).take i ++ [(tkN ((l.drop (sumN (ks.take i))).take ks[i]) : Int)] := by
 rw [List.take_succ_eq_append_getElem (by rw [tkL_len]; exact h),tkL_get l ks i h]
theorem sum_nats : ∀ (n : Nat) (l : List Int),l.length = n → (∀ x ∈ l,wr x = false) → sumI l = (sumN (nats l) : Int) := by
 intro n
 induction n with
 | zero => intro l h _; rw [List.eq_nil_of_length_eq_zero h]; rfl
 | succ n ih =>
   intro l h hw
   have hne : l ≠ [] := by intro e; rw [e] at h; simp at h
   have hd := ih l.dropLast (by simp [h]) fun x hx => hw x (List.dropLast_subset l hx)
   have hx := hw _ (List.getLast_mem hne)
   unfold wr at hx
   simp only [Bool.or_eq_false_iff,decide_eq_false_iff_not] at hx
   have e := List.dropLast_concat_getLast hne
   rw [← e]
   unfold nats at hd ⊢
   rw [sumI_app,hd,List.map_append,List.map_cons,List.map_nil,sumN_app]
   omega
theorem sumN_le : ∀ (ks : List Nat) (i : Nat) (h : i < ks.length),sumN (ks.take i) + ks[i] ≤ sumN ks := by
 intro ks i h
 have hf : ∀ (xs : List Nat) (a : Nat),a ≤ xs.foldl (· + ·) a := by
  intro xs
  induction xs with
  | nil => intro a; exact Nat.le_refl _
  | cons x xs ih => intro a; exact Nat.le_trans (Nat.le_add_right a x) (ih (a + x))
 rw [← sumN_app,← List.take_succ_eq_append_getElem h]
 conv => rhs; rw [← List.take_append_drop (i + 1) ks]
 unfold sumN
 rw [List.foldl_append]
 exact hf _ _
def takeR (b : List UInt8) (sz : List Int) : List Int × Int := if bad sz then ([],1) else if b.length < sumN (nats sz) then ([],13) else (tkL b (nats sz),0)
theorem take_ok (b : List UInt8) (sz : List Int) (v : Value) (h : Heap) (hl : Sl cI h v sz) (hn : sz.length ≤ 1073741824) (hb40 : b.length ≤ 1099511627776) :
  ACalls Tryz.prog 104 [.string (bs b),v] h fun r h' => (∃ o,r = .tuple #[o,.int .i64 (takeR b sz).2] ∧ Sl cI h' o (takeR b sz).1) ∧ h.Sub h.n h' := by
 refine acalls_of mix Tryz.func104 k104 n104 (by simp) fun hcl hb => ?_
 have bl := hl.below hcl
 simp [c104]
 refine (cont_ok sz v h hl (by omega)).mono ?_
 rintro v1 h1 ⟨rfl,e⟩
 subst e
 by_cases w : bad sz = true
 ·simp [w,takeR]
  exact ⟨.inl ⟨0,rfl,rfl⟩,Heap.Sub.refl hcl⟩
 have w' : bad sz = false := by simpa using w
 have hwr := not_bad w'
 simp [w']
 refine (size_ok sz v h1 hl (by omega)).mono ?_
 rintro v1 h2 ⟨rfl,e⟩
 subst e
 simp [w', bs_size]
 have hsum := sum_nats _ sz rfl hwr
 rw [hsum]
 by_cases hshort : b.length < sumN (nats sz)
 ·have q : (b.length : Int) < (sumN (nats sz) : Nat) := by omega
  simp [q, takeR, w', hshort]
  exact ⟨.inl ⟨0,rfl,rfl⟩,Heap.Sub.refl hcl⟩
 have q : ¬ (b.length : Int) < (sumN (nats sz) : Nat) := by omega
 have hR : takeR b sz = (tkL b (nats sz), 0) := by simp [takeR, w', hshort]
 simp [q,hR]
 obtain ⟨a,c,rfl⟩ := hl.form
 have hnl : (nats sz).length = sz.length := by simp [nats]
 simp
 refine awp_loop_of (α := Nat × Value × Heap) (fun x => x.1 ≤ sz.length ∧ Own h2 1 x.1 (((tkL b (nats sz)).take x.1).map cI) x.2.1 x.2.2)
  (fun x => [(0,.string (bs (b.drop (sumN ((nats sz).take x.1))))),(6,x.2.1),(21,.slice a sz.length c),(22,.int .i64 sz.length),(23,.int .i64 x.1)]) (fun x => x.2.2) (fun x => sz.length - x.1) (0,.slice none 0 0,h2)
  ⟨Nat.zero_le _,by simpa using Own.start h2 1⟩ (Heap.Sub.refl hcl) (by simp [sumN]; exact ⟨.string,.snil,bl,.int,.int⟩) ?_
 rintro ⟨i,vi,H⟩ ⟨hil,hown⟩
 dsimp only at hil hown
 have hbel : ∀ x ∈ ((tkL b (nats sz)).take i).map cI,VBelow h2.n x := fun x hx => by obtain ⟨y,_,rfl⟩ := List.mem_map.1 hx; exact .int
 have hkeep : ∀ bb oo,h2.m bb = some oo → H.m bb = some oo := fun bb oo e => by rw [hown.old (hcl bb oo e).1]; exact e
 have hcH := hown.closed hcl hbel
 have hnH := hown.1
 by_cases hlt : i < sz.length
 ·obtain ⟨b1,o1,cs1,m1,e1,rfl,_,g1,g1'⟩ := hl.at hlt
  have g1H := cellsOf_keep hkeep g1
  have hw := hwr sz[i] (List.getElem_mem hlt)
  unfold wr at hw
  simp only [Bool.or_eq_false_iff,decide_eq_false_iff_not] at hw
  obtain ⟨k,hk⟩ : ∃ k : Nat,sz[i] = k := ⟨sz[i].toNat,by omega⟩
  have hki : (nats sz)[i]'(by rw [hnl]; exact hlt) = k := by simp [nats,hk]
  have hle := sumN_le (nats sz) i (by rw [hnl]; exact hlt)
  rw [hki] at hle
  have hkl : k ≤ (b.drop (sumN ((nats sz).take i))).length := by rw [List.length_drop]; omega
  have hk7 : k ≤ 7 := by omega
  have hlt1 : (List.take k (b.drop (sumN ((nats sz).take i)))).length = k := by rw [List.length_take]; omega
  have hnum := tkL_take b (nats sz) i (by rw [hnl]; exact hlt)
  have hnext : List.drop k (List.drop (sumN (List.take i (nats sz))) b) = List.drop (sumN (List.take (i + 1) (nats sz))) b := by
   rw [List.drop_drop,List.take_succ_eq_append_getElem (by rw [hnl]; exact hlt),sumN_app,hki]
  rw [hki] at hnum
  generalize hD : List.drop (sumN (List.take i (nats sz))) b = D at hkl hlt1 hnum hnext ⊢
  simp [hlt, aidx_of hlt, g1H, apart, g1', hk, bs_size, abN_hi hkl, bs_extract, hlt1, bs_data, show k ≤ 1099511627776 by omega]
  have hbelT : AObj.Below (H.n + 1) (.cells (List.take k (D.map fun b => Value.int .u8 (b.toNat : Int))) (.loose 5) 1) := fun x hx => by obtain ⟨y,_,rfl⟩ := List.mem_map.1 (List.mem_of_mem_take hx); exact .int
  have hcH1 : (H.push (.cells (List.take k (D.map fun b => Value.int .u8 (b.toNat : Int))) (.loose 5) 1)).Closed := closed_push hcH hbelT
  have hvb := hown.below
  refine awp_loop_of (α := Nat) (fun j => j ≤ k) (fun j => [(0,.string (bs D)),(6,vi),(8,.int .i64 k),(9,.int .i64 (tkN (D.take j))),(21,.slice (some ⟨b1,o1,none⟩) sz.length c),(22,.int .i64 sz.length),(23,.int .i64 i),(30,.slice (some ⟨H.n,0,none⟩) k k),(31,.int .i64 k),(32,.int .i64 j)])
   (fun _ => H.push (.cells (List.take k (D.map fun b => Value.int .u8 (b.toNat : Int))) (.loose 5) 1)) (fun j => k - j) 0 (Nat.zero_le _) ⟨by show h2.n ≤ H.n + 1; omega,Nat.le_refl _,fun _ _ e => e,hcH1⟩
   (by simp [tkN]; exact ⟨.string,hvb.mono (Nat.le_succ _),.int,.int,bl.mono (by show h2.n ≤ H.n + 1; omega),.int,.int,.slice (Nat.lt_succ_self _),.int,.int⟩) ?_
  rintro j hj
  by_cases hjlt : j < k
  ·have hjD : j < D.length := by omega
   have hget : (D.take k)[j]'(by omega) = D[j] := by simp
   have hst : List.take (j + 1) D = List.take j D ++ [D[j]] := List.take_succ_eq_append_getElem hjD
   have hb1 := tkN_lt _ (D.take j) rfl
   have hb2 : tkN (D.take j) < 72057594037927936 / 2 := by
    refine Nat.lt_of_lt_of_le hb1 ?_
    refine Nat.le_trans (Nat.pow_le_pow_right (by omega) (show (List.take j D).length ≤ 6 by rw [List.length_take]; omega)) (by decide)
   have hso := shl_or (tkN (D.take j)) D[j] hb2
   simp [hjlt,aidx_of hjlt,Heap.cellsOf,push_m,apart,hjD]
   refine ⟨j + 1,by omega,by omega,⟨by show h2.n ≤ H.n + 1; omega,Nat.le_refl _,fun _ _ e => e,hcH1⟩,.string,hvb.mono (Nat.le_succ _),.int,⟨?_,.int⟩,bl.mono (by show h2.n ≤ H.n + 1; omega),.int,.int,.slice (Nat.lt_succ_self _),.int,?_,.int⟩
   ·rw [hst,tkN_app]; exact hso
   ·rw [i64_small (by omega) (by omega)]; omega
  ·have hje : j = k := by omega
   subst hje
   obtain ⟨a,cc,rfl,v2,H2,H3,happ,hown3,hn3,hin3⟩ := hown.app (H' := (H.push (.cells (List.take j (D.map fun b => Value.int .u8 (b.toNat : Int))) (.loose 5) 1)).push (.cells [cI (tkN (List.take j D))] .ex 1)) (t := 3) (bytes := 8) (k := 1) (new := [cI (tkN (List.take j D))]) hcl
    (by show H.n ≤ H.n + 1 + 1; omega) (fun b hb => by rw [push_m,if_neg (by show ¬ b = H.n + 1; omega),push_m,if_neg (by omega)]) (by omega) rfl (by omega)
   simp [bs_size,abN_lo hkl,bs_extract,afill,mcells,alen,afirst,Heap.cellsOf,push_m,acut,happ] at happ ⊢
   refine ⟨i + 1,by omega,v2,H3,⟨by omega,?_⟩,⟨hown3.1,by omega,hin3,hown3.closed hcl ?_⟩,⟨?_,.string⟩,⟨rfl,hown3.below⟩,bl.mono hown3.1,.int,?_,.int⟩
   ·rw [← List.map_take,hnum]; simpa using hown3
   ·intro x hx
    rcases List.mem_append.1 hx with hx | hx
    ·exact hbel x hx
    ·rw [List.mem_singleton.1 hx]; exact .int
   ·rw [hnext]
   ·rw [i64_small (by omega) (by omega)]; omega
 ·have : i = sz.length := by omega
  subst this
  rw [List.take_of_length_le (by rw [tkL_len,hnl]; omega)] at hown
  simp
  exact ⟨hown.sl,hown.sub hcl⟩
def c110 : AC := sO [oP 4 (.mv (.const (.string ⟨⟨[]⟩⟩)))] (.seq (sO [mV 7 0,oP 8 (.eqv false .ptr (tP 7) (.const (.pointer none)))] (cT 8 (sO [oP 4 (.mv (.const (.string ⟨⟨[]⟩⟩)))] .ret) .skip)) (sO [mV 10 0,mV 11 1,oP 12 (.call 141 [tP 10,tP 11]),oP 13 (.buildS 1 [.int .i64 0] [(0,1,.tmp 12)]),oP 14 (.call 128 [.const (.int .i64 4),tP 13]),mV 9 14,oP 15 (xR 9 0),oP 16 (xR 9 1),mV 5 15,mV 6 16] (sO [mV 17 1,oP 18 (.call 142 [tP 17,.const (.string ⟨⟨[]⟩⟩)]),mV 19 5,oP 20 (bT .add 18 19),mV 4 20] .ret)))
theorem k110 : compF Tryz.prog Tryz.f110 = some (c110,[4]) := by kernel_rfl
theorem n110 : Tryz.f110.ntmps = 21 := by kernel_rfl
def c161 : AC := sO [oP 4 (.mv (.const (.string ⟨⟨[]⟩⟩))),oP 5 (.mv (kI 0))] (.seq (.block 0 (sO [mV 8 0,oP 9 (.eqv false .ptr (tP 8) (.const (.pointer none))),mV 7 9] (cT 7 (sO [oP 4 (.mv (.const (.string ⟨⟨[]⟩⟩))),oP 5 (.mv (kI 1))] .ret) (sO [mV 11 1,oP 12 (.lenS true (tP 11)),oP 13 (bK .lss 12 4),mV 10 13] (cT 10 (sO [oP 4 (.mv (.const (.string ⟨⟨[]⟩⟩))),oP 5 (.mv (kI 13))] .ret) .skip))))) (sO [mV 14 1,mV 15 1,oP 16 (.lenS true (tP 15)),oP 17 (bK .sub 16 4),oP 18 (.slS (tP 14) none (some (tP 17))),mV 6 18] (.seq (sO [mV 19 0,mV 20 6,oP 21 (.buildS 1 [.string ⟨⟨[]⟩⟩] [(0,1,.tmp 20)]),oP 22 (.call 110 [tP 19,tP 21]),mV 23 1,oP 24 (bT .neq 22 23)] (cT 24 (sO [oP 4 (.mv (.const (.string ⟨⟨[]⟩⟩))),oP 5 (.mv (kI 7))] .ret) .skip)) (sO [mV 25 6,mV 4 25,oP 5 (.mv (kI 0))] .ret))))
theorem k161 : compF Tryz.prog Tryz.f161 = some (c161,[4,5]) := by kernel_rfl
theorem n161 : Tryz.f161.ntmps = 26 := by kernel_rfl
theorem crcsum2_ok (c : Nat) (ts : List (List UInt8)) (v : Value) (h : Heap) (hc : CrcK h c) (hl : Sl sv h v ts) (hn : ts.length ≤ 1000000) (hs : ∀ t ∈ ts,t.length ≤ 1000000) :
  ACalls Tryz.prog 141 [.pointer (some ⟨c,0,none⟩),v] h fun r h' => r = .int .i64 (crSum ts.flatten) ∧ h' = h :=
 ACalls.closed fun hcl => ACalls.drop (crcsum_ok c ts v h hc hl hn hs) fun v h' ⟨e,g⟩ => ⟨h,⟨Nat.le_refl _,g.n,fun y ob q => g.m y ob q,hcl⟩,by rw [e]; exact .int,e,rfl⟩
theorem join1_ok (t : List UInt8) (b : Nat) (m : BMode) (h : Heap) (hx : h.cellsOf b = some ([sv t],m,1)) : ACalls Tryz.prog 142 [.slice (some ⟨b,0,none⟩) 1 1,.string (bs [])] h fun v h' => v = .string (bs t) ∧ h' = h := by
 refine acalls_of mix Tryz.func142 k142 n142 (by simp) fun hcl hb => ?_
 have hi0 : aidx (.int .i64 0) 1 = some 0 := rfl
 simp [c142,hi0,hx,apart,sv]
def crE (t : List UInt8) : List UInt8 := t ++ bN 4 (crSum t).toNat
theorem crseal_ok (c b : Nat) (t : List UInt8) (m : BMode) (h : Heap) (hc : CrcK h c) (hx : h.cellsOf b = some ([sv t],m,1)) (ht : t.length ≤ 1000000) :
  ACalls Tryz.prog 110 [.pointer (some ⟨c,0,none⟩),.slice (some ⟨b,0,none⟩) 1 1] h fun r h' => r = .string (bs (crE t)) ∧ h' = h := by
 refine ACalls.closed fun hcl0 => ACalls.drop (R := fun r h' => r = .string (bs (crE t)) ∧ h.Sub h.n h') ?_ fun v h' hh => ⟨h,hh.2,by rw [hh.1]; exact .string,hh.1,rfl⟩
 refine acalls_of mix Tryz.func110 k110 n110 (by simp) fun hcl hb => ?_
 have hq := ptrq
 have hS : Sl sv h (.slice (some ⟨b,0,none⟩) 1 1) [t] := .inr ⟨b,0,1,_,_,_,rfl,hx,Nat.le_refl _,fun _ => Nat.le_refl _,fun i hi => by
  have : i = 0 := by simp at hi; omega
  subst this; rfl⟩
 simp [c110,hq]
 refine (crcsum2_ok c [t] _ h hc hS (by simp) (by simpa using ht)).eqK ?_
 have hfl : [t].flatten = t := by simp
 rw [hfl]
 obtain ⟨n,hn1,hn2⟩ := crSum_in t
 have hE : crE t = t ++ bN 4 n := by unfold crE; rw [hn2]; rfl
 rw [hn2,hE]
 have fil : afill [.int .i64 0] [(0,1,.int .i64 (n : Int))] = some [.int .i64 (n : Int)] := rfl
 simp [fil]
 have cB : (h.push (.cells [.int .i64 (n : Int)] .ex 1)).Closed := closed_push hcl (fun x hx => by simp at hx; subst hx; exact .int)
 refine (put_ok 4 [(n : Int)] _ _ (sl_one (cellsOf_new _ _ _ _)) (by simp)).eqK ?_
 have hp : putOut 4 [(n : Int)] = .tuple #[.string (bs (bN 4 n)),.int .i64 0] := by
  unfold putOut
  rw [if_neg (by decide),if_pos (fun k hk => by simp at hk; subst hk; exact fits_lt.2 (by show n < 256 ^ 4; omega))]
  show Value.tuple #[.string (bytesOfInts ([(n : Int)].flatMap (beB 4))),.int .i64 0] = _
  rw [str_be]; rfl
 rw [hp]
 simp
 refine (join1_ok t b m _ (cellsOf_keep (keep_push hcl _) hx)).eqK ?_
 have hz : (bs t).size + (bs (bN 4 n)).size ≤ 9223372036854775807 := by rw [bs_size,bs_size,bN_len]; omega
 simp [bs_append,hz]
 exact ⟨Nat.le_refl _,Nat.le_succ _,keep_push hcl _,hcl⟩
def crO (s : List UInt8) : Value := if s.length < 4 then .tuple #[.string (bs []),.int .i64 13] else if crE (s.take (s.length - 4)) = s then .tuple #[.string (bs (s.take (s.length - 4))),.int .i64 0] else .tuple #[.string (bs []),.int .i64 7]
theorem bs_injJ (a b : List UInt8) : (bs a = bs b) = (a = b) := by
 apply propext
 constructor
 ·intro h
  have := congrArg (fun x : ByteArray => x.data.toList) h
  exact this
 ·rintro rfl; rfl
theorem bs_extract0 (s : List UInt8) (k : Nat) : (bs s).extract 0 k = bs (s.take k) := by
 apply ByteArray.ext
 simp [bs]
theorem cropen_ok (c : Nat) (s : List UInt8) (h : Heap) (hc : CrcK h c) (hs : s.length ≤ 1000000) :
  ACalls Tryz.prog 161 [.pointer (some ⟨c,0,none⟩),.string (bs s)] h fun r h' => r = crO s ∧ h' = h := by
 refine ACalls.closed fun hcl0 => ACalls.drop (R := fun r h' => r = crO s ∧ h.Sub h.n h') ?_ fun v h' hh => ⟨h,hh.2,by rw [hh.1]; unfold crO; split <;> (try split) <;> exact vb_tuple2 .string .int,hh.1,rfl⟩
 refine acalls_of mix Tryz.func161 k161 n161 (by simp) fun hcl hb => ?_
 have hq := ptrq
 unfold crO
 by_cases h4 : s.length < 4
 ·have h4' : (s.length : Int) < 4 := by omega
  simp [c161,hq,bs_size,h4,h4']
  exact ⟨rfl,Heap.Sub.refl hcl⟩
 ·have h4' : ¬ (s.length : Int) < 4 := by omega
  have w : IntKind.i64.wrap ((s.length : Int) - 4) = ((s.length - 4 : Nat) : Int) := wI (by omega)
  have hab := abN_hi (L := s.length) (k := s.length - 4) (by omega)
  simp [c161, hq, bs_size, h4, h4', w, hab, bs_extract0]
  generalize hB : s.take (s.length - 4) = B at *
  have hBl : B.length ≤ 1000000 := by rw [← hB,List.length_take]; omega
  have fil : afill [.string ⟨⟨[]⟩⟩] [(0,1,.string (bs B))] = some [.string (bs B)] := rfl
  simp [fil]
  refine (crseal_ok c h.n B .ex _ (hc.keep (keep_push hcl _)) (cellsOf_new _ _ _ _) hBl).eqK ?_
  have hi := bs_injJ (crE B) s
  have hSub : Heap.Sub h.n h (h.push (.cells [.string (bs B)] .ex 1)) := ⟨Nat.le_refl _,Nat.le_succ _,keep_push hcl _,hcl⟩
  by_cases hE : crE B = s
  ·simp [hi,hE]
   exact hSub
  ·simp [hi,hE]
   exact ⟨rfl,hSub⟩
def c75 : AC := sO [oP 3 (.box (tP 1)),oP 4 (.mv (.const (.string ⟨⟨[]⟩⟩)))] (sO [mV 5 0,oP 6 (.slA 60 1 (tP 3) none none none),oP 7 (.toStr (tP 6)),oP 8 (.buildS 1 [.string ⟨⟨[]⟩⟩] [(0,1,.tmp 7)]),oP 9 (.call 110 [tP 5,tP 8]),mV 4 9] .ret)
theorem k75 : compF Tryz.prog Tryz.f75 = some (c75,[4]) := by kernel_rfl
theorem n75 : Tryz.f75.ntmps = 10 := by kernel_rfl
def c138 : AC := sO [oP 4 (.alloc (zl .u8 60)),oP 5 (.mv kF)] (sO [oP 6 (.alloc (zl .u8 60))] (sO [oP 9 (.slA 60 1 (tP 6) none none none),mV 10 1,oP 11 (.copy 1 (tP 9) (tP 10))] (sO [mV 13 0,mV 14 1,oP 15 (.call 161 [tP 13,tP 14]),mV 12 15,oP 16 (xR 12 0),oP 17 (xR 12 1),mV 7 16,mV 8 17] (sO [oP 18 (.load (some 60) (tP 6)),mV 19 1,oP 20 (.lenS true (tP 19)),oP 21 (bK .eql 20 64),mV 22 21,gP 23 22 true (.mv (tP 8)),gP 24 22 true (bK .eql 23 0),oP 25 (pF 22 24),nP (.store 60 (tP 4) (tP 18)),mV 5 25] .ret))))
theorem k138 : compR Tryz.prog Tryz.f138 = some (c138,[.c 4 (some 60),.t 5]) := by kernel_rfl
theorem n138 : Tryz.f138.ntmps = 26 := by kernel_rfl
abbrev agB (l : List UInt8) : Value := .agg (ubs l).toArray
theorem tagseal_ok (c : Nat) (l : List UInt8) (hl : l.length = 60) (h : Heap) (hc : CrcK h c) : ACalls Tryz.prog 75 [.pointer (some ⟨c,0,none⟩),agB l] h fun r h' => r = .string (bs (crE l)) ∧ h' = h := by
 refine ACalls.closed fun hcl0 => ACalls.drop (R := fun r h' => r = .string (bs (crE l)) ∧ h.Sub h.n h') ?_ fun v h' hh => ⟨h,hh.2,by rw [hh.1]; exact .string,hh.1,rfl⟩
 refine acalls_of mix Tryz.func75 k75 n75 (by simp) fun hcl hb => ?_
 have hm : mcells (agB l) = some (ubs l) := rfl
 have hab : abounds 60 60 none none none = some (0,60,60) := rfl
 have hcut : acut (ubs l) 0 60 = some (ubs l) := by unfold acut; rw [if_pos (by rw [ubs_len,hl]; decide),List.drop_zero,List.take_of_length_le (by rw [ubs_len,hl]; decide)]
 have hby : abytes (ubs l) = some l := abytes_ubs l
 have hcn := cellsOf_new h (ubs l) .ex 1
 have hfst : afirst (h.push (.cells (ubs l) .ex 1)) 1 60 (.slice (some ⟨h.n,0,none⟩) 60 60) = some (ubs l) := by simp [afirst,hcn,hcut]
 have fil : afill [.string ⟨⟨[]⟩⟩] [(0,1,.string ⟨l.toArray⟩)] = some [sv l] := rfl
 have cB : (h.push (.cells (ubs l) .ex 1)).Closed := closed_push hcl ubs_bel
 have k1 := keep_push hcl (.cells (ubs l) .ex 1)
 have k2 := keep_push cB (.cells [sv l] .ex 1)
 simp [c75,hm,hab,hfst,hby,fil]
 refine (crseal_ok c (h.n + 1) l .ex _ (hc.keep fun u ob e => k2 u ob (k1 u ob e)) (cellsOf_new _ _ _ _) (by omega)).eqK ?_
 simp
 exact ⟨Nat.le_refl _,by show h.n ≤ h.n + 1 + 1; omega,fun u ob e => k2 u ob (k1 u ob e),hcl⟩
theorem agB_bel {n : Nat} (l : List UInt8) : VBelow n (agB l) := .agg fun i hi => ubs_bel _ (by
 have hi' : i < (ubs l).length := by simpa using hi
 have e : (ubs l).toArray.getD i unk = (ubs l)[i] := by simp [Array.getD,hi']
 rw [e]; exact List.getElem_mem hi')
theorem tagopen_ok (c : Nat) (s : List UInt8) (h : Heap) (hc : CrcK h c) (hs : s.length ≤ 1000000) (hs64 : s.length = 64) :
  ACalls Tryz.prog 138 [.pointer (some ⟨c,0,none⟩),.string (bs s)] h fun r h' => r = .tuple #[agB (s.take 60),.bool (decide (crE (s.take 60) = s))] ∧ h' = h := by
 refine ACalls.closed fun hcl0 => ACalls.drop (R := fun r h' => r = .tuple #[agB (s.take 60),.bool (decide (crE (s.take 60) = s))] ∧ h.Sub h.n h') ?_ fun v h' hh => ⟨h,hh.2,by rw [hh.1]; exact vb_tup2 (agB_bel _) .bool,hh.1,rfl⟩
 refine acalls_ofR mix Tryz.func138 k138 n138 (by simp) fun hcl hb => ?_
 have hab : abounds 60 60 none none none = some (0,60,60) := rfl
 simp only [c138,s_seq,s_ops]
 have h64 : (bs s).size = 64 := by rw [bs_size,hs64]
 have hal : alen (.string (bs s)) = some 64 := by show some (bs s).size = _; rw [h64]
 have hT : (s.take 60).length = 60 := by rw [List.length_take]; omega
 have hfst : ∀ H : Heap,afirst H 1 60 (.string (bs s)) = some (ubs (s.take 60)) := fun H => by
  show some ((((bs s).data.toList).take 60).map fun b : UInt8 => Value.int .u8 b.toNat) = _
  rfl
 generalize hTT : s.take 60 = T at *
 have hcn := cellsOf_new (h.push (.cells (zl .u8 60) .ex 1)) (zl .u8 60) .ex 1
 have hz : (zl .u8 60).length = 60 := by simp [zl]
 have hput : aput (zl .u8 60) 0 (ubs T) = ubs T := by
  unfold aput
  rw [List.take_zero,List.nil_append,ubs_len,hT,List.drop_of_length_le (by rw [hz]; omega),List.append_nil]
 have hset : ((h.push (.cells (zl .u8 60) .ex 1)).push (.cells (zl .u8 60) .ex 1)).set (h.n + 1) (.cells (ubs T) .ex 1) = (h.push (.cells (zl .u8 60) .ex 1)).push (.cells (ubs T) .ex 1) := set_push _ _ _
 have hcn' : ((h.push (.cells (zl .u8 60) .ex 1)).push (.cells (zl .u8 60) .ex 1)).cellsOf (h.n + 1) = some (zl .u8 60,.ex,1) := hcn
 simp [hab, hal, hfst, hcn', ubs_len, hT, hz, hput, hset]
 have cA : (h.push (.cells (zl .u8 60) .ex 1)).Closed := closed_push hcl (fun x hx => by unfold zl at hx; rw [List.eq_of_mem_replicate hx]; exact .int)
 have cB : ((h.push (.cells (zl .u8 60) .ex 1)).push (.cells (ubs T) .ex 1)).Closed := closed_push cA ubs_bel
 have k1 := keep_push hcl (.cells (zl .u8 60) .ex 1)
 have k2 := keep_push cA (.cells (ubs T) .ex 1)
 have hO : crO s = if crE T = s then .tuple #[.string (bs T),.int .i64 0] else .tuple #[.string (bs []),.int .i64 7] := by
  unfold crO
  rw [if_neg (by omega),show s.length - 4 = 60 by omega,hTT]
 refine (cropen_ok c s _ (hc.keep fun u ob e => k2 u ob (k1 u ob e)) hs).eqK ?_
 have hcT : ((h.push (.cells (zl .u8 60) .ex 1)).push (.cells (ubs T) .ex 1)).cellsOf (h.n + 1) = some (ubs T,.ex,1) := cellsOf_new _ _ _ _
 have hcZ : ((h.push (.cells (zl .u8 60) .ex 1)).push (.cells (ubs T) .ex 1)).cellsOf h.n = some (zl .u8 60,.ex,1) := cellsOf_keep k2 (cellsOf_new _ _ _ _)
 have hap : apart (ubs T) (some 60) 0 = some (agB T) := by
  unfold apart acut
  dsimp only
  rw [if_pos (by rw [ubs_len,hT]; decide),List.drop_zero,List.take_of_length_le (by rw [ubs_len,hT]; decide)]
  rfl
 have hm : mcells (agB T) = some (ubs T) := rfl
 have hst : ((h.push (.cells (zl .u8 60) .ex 1)).push (.cells (ubs T) .ex 1)).set h.n (.cells (ubs T) .ex 1) = (h.push (.cells (ubs T) .ex 1)).push (.cells (ubs T) .ex 1) := by
  rw [push_set (by show h.n < h.n + 1; omega),set_push]
 have cA' : (h.push (.cells (ubs T) .ex 1)).Closed := closed_push hcl ubs_bel
 have hcF : ((h.push (.cells (ubs T) .ex 1)).push (.cells (ubs T) .ex 1)).cellsOf h.n = some (ubs T,.ex,1) := cellsOf_keep (keep_push cA' _) (cellsOf_new _ _ _ _)
 have hfin : Heap.Sub h.n h ((h.push (.cells (ubs T) .ex 1)).push (.cells (ubs T) .ex 1)) := ⟨Nat.le_refl _,by show h.n ≤ h.n + 1 + 1; omega,fun u ob e => keep_push cA' _ u ob (keep_push hcl _ u ob e),hcl⟩
 rw [hO]
 by_cases hE : crE T = s
 ·rw [if_pos hE]
  simp [hcT,hcZ,hap,hm,h64,hT,hz,ubs_len,hput,hst,hcF,hE]
  exact hfin
 ·rw [if_neg hE]
  simp [hcT,hcZ,hap,hm,h64,hT,hz,ubs_len,hput,hst,hcF,hE]
  exact hfin
def c87 : AC := sO [oP 2 (.mv (kI 0))] (.seq (sO [mV 3 0,oP 4 (nC 3),oP 5 (fA 6 4),oP 6 (lN 5)] (cT 6 (sO [oP 2 (.mv (kI 5))] .ret) .skip)) (sO [oP 2 (.mv (kI 0))] .ret))
theorem k87 : compF Tryz.prog Tryz.f87 = some (c87,[2]) := by kernel_rfl
theorem n87 : Tryz.f87.ntmps = 7 := by kernel_rfl
def c48 : AC := sO [oP 2 (.mv (kI 0))] (.seq (sO [mV 3 0,oP 4 (.eqv false .ptr (tP 3) (.const (.pointer none)))] (cT 4 (sO [oP 2 (.mv (kI 0))] .ret) .skip)) (sO [mV 5 0,oP 6 (nC 5),oP 7 (fA 4 6),oP 8 (lN 7),oP 9 (lS 8),mV 2 9] .ret))
theorem k48 : compF Tryz.prog Tryz.f48 = some (c48,[2]) := by kernel_rfl
theorem n48 : Tryz.f48.ntmps = 10 := by kernel_rfl
def c85 : AC := sO [oP 6 (.mv (kI 0))] (.seq (.block 0 (sO [mV 8 0,oP 9 (.eqv false .ptr (tP 8) (.const (.pointer none))),mV 7 9] (cT 7 (sO [oP 6 (.mv (kI 1))] .ret) (sO [mV 11 0,oP 12 (nC 11),oP 13 (fA 6 12),oP 14 (lN 13),mV 10 14] (cT 10 (sO [oP 6 (.mv (kI 5))] .ret) (sO [mV 16 1,oP 17 (bK .lss 16 0),mV 18 17,gP 19 18 false (.mv (tP 2)),gP 20 18 false (bK .lss 19 0),oP 21 (pT 18 20),mV 22 21,gP 23 22 false (.mv (tP 1)),gP 24 22 false (.mv (tP 0)),gP 25 22 false (nC 24),gP 26 22 false (fA 3 25),gP 27 22 false (lN 26),gP 28 22 false (lS 27),gP 29 22 false (bT .gtr 23 28),oP 30 (pT 22 29),mV 31 30,gP 32 31 false (.mv (tP 2)),gP 33 31 false (.mv (tP 0)),gP 34 31 false (nC 33),gP 35 31 false (fA 3 34),gP 36 31 false (lN 35),gP 37 31 false (lS 36),gP 38 31 false (.mv (tP 1)),gP 39 31 false (bT .sub 37 38),gP 40 31 false (bT .gtr 32 39),oP 41 (pT 31 40),mV 15 41] (cT 15 (sO [oP 6 (.mv (kI 2))] .ret) .skip))))))) (sO [oP 6 (.mv (kI 0))] .ret))
theorem k85 : compF Tryz.prog Tryz.f85 = some (c85,[6]) := by kernel_rfl
theorem n85 : Tryz.f85.ntmps = 42 := by kernel_rfl
structure DevS where
 br : Int
 msk : Int
 left : Int
 data : List UInt8
 lock : List Bool
 wear : List Int
 down : Bool
 ops : Int
def devC (x y z : Nat) (D : DevS) : List Value := [.int .i64 D.br,.int .u8 D.msk,.int .i64 D.left,.slice (some ⟨x,0,none⟩) D.data.length D.data.length,.slice (some ⟨y,0,none⟩) D.lock.length D.lock.length,.slice (some ⟨z,0,none⟩) D.wear.length D.wear.length,.bool D.down,.int .i64 D.ops]
structure DevK (H : Heap) (d x y z : Nat) (D : DevS) : Prop where
 cd : H.cellsOf d = some (devC x y z D,.ex,1)
 cx : ∃ m e,H.cellsOf x = some (ubs D.data,m,e) ∧ m ≠ .ro ∧ (m.isLoose = true → e = 1)
 cy : ∃ m e,H.cellsOf y = some (D.lock.map Value.bool,m,e) ∧ m ≠ .ro ∧ (m.isLoose = true → e = 1)
 cz : ∃ m e,H.cellsOf z = some (D.wear.map fun n => Value.int .i64 n,m,e) ∧ m ≠ .ro ∧ (m.isLoose = true → e = 1)
 ne : d ≠ x ∧ d ≠ y ∧ d ≠ z ∧ x ≠ y ∧ x ≠ z ∧ y ≠ z
theorem told_ok (d x y z : Nat) (D : DevS) (h : Heap) (k : DevK h d x y z D) : ACalls Tryz.prog 87 [.pointer (some ⟨d,0,none⟩)] h fun r h' => r = .int .i64 (if D.down then 5 else 0) ∧ h' = h := by
 refine acalls_of mix Tryz.func87 k87 n87 (by simp) fun hcl hb => ?_
 have c1 := k.cd
 cases hd : D.down
 ·simp [c87,c1,apart,devC,hd]
 ·simp [c87,c1,apart,devC,hd]
theorem sectors_ok (d x y z : Nat) (D : DevS) (h : Heap) (k : DevK h d x y z D) : ACalls Tryz.prog 48 [.pointer (some ⟨d,0,none⟩)] h fun r h' => r = .int .i64 D.lock.length ∧ h' = h := by
 refine acalls_of mix Tryz.func48 k48 n48 (by simp) fun hcl hb => ?_
 have hq := ptrq
 have c1 := k.cd
 simp [c48,hq,c1,apart,devC]
theorem devwrong_ok (d x y z : Nat) (D : DevS) (a n : Nat) (ha : a + n ≤ D.data.length) (hl : D.data.length ≤ 1000000) (h : Heap) (k : DevK h d x y z D) : ACalls Tryz.prog 85 [.pointer (some ⟨d,0,none⟩),.int .i64 (a : Int),.int .i64 (n : Int)] h fun r h' => r = .int .i64 (if D.down then 5 else 0) ∧ h' = h := by
 refine acalls_of mix Tryz.func85 k85 n85 (by simp) fun hcl hb => ?_
 have hq := ptrq
 have c1 := k.cd
 have d1 : ¬ ((a : Int) < 0) := by omega
 have d2 : ¬ ((n : Int) < 0) := by omega
 have d3 : ¬ ((D.data.length : Int) < (a : Int)) := by omega
 have d3' : ¬ (D.data.length < a) := by omega
 have w : IntKind.i64.wrap ((D.data.length : Int) - (a : Int)) = ((D.data.length - a : Nat) : Int) := wI (by omega)
 have d4 : ¬ (((D.data.length - a : Nat) : Int) < (n : Int)) := by omega
 have d4' : ¬ (D.data.length - a < n) := by omega
 cases hd : D.down
 ·simp [c85, hq, c1, apart, devC, hd, d1, d2, d3, d3', w, d4, d4']
 ·simp [c85,hq,c1,apart,devC,hd]
def c86 : AC := sO [oP 4 (.mv (kI 0)),oP 5 (.mv kF)] (sO [mV 6 0,oP 7 (nC 6),oP 8 (fA 7 7),oP 9 (lN 8),oP 10 (bK .add 9 1),oP 11 (nC 6),oP 12 (fA 7 11),nP (.store 1 (tP 12) (tP 10))] (.seq (sO [mV 13 0,oP 14 (nC 13),oP 15 (fA 0 14),oP 16 (fA 2 15),oP 17 (lN 16),oP 18 (bK .neq 17 0)] (cT 18 (.seq (sO [mV 19 0,oP 20 (nC 19),oP 21 (fA 0 20),oP 22 (fA 2 21),oP 23 (lN 22),oP 24 (bK .gtr 23 0)] (cT 24 (.ops [mV 25 0,oP 26 (nC 25),oP 27 (fA 0 26),oP 28 (fA 2 27),oP 29 (lN 28),oP 30 (bK .sub 29 1),oP 31 (nC 25),oP 32 (fA 0 31),oP 33 (fA 2 32),nP (.store 1 (tP 33) (tP 30))]) .skip)) (sO [mV 34 1,mV 4 34,oP 5 (.mv kT)] .ret)) .skip)) (sO [mV 35 0,mV 36 0,oP 37 (nC 35),oP 38 (fA 0 37),oP 39 (fA 2 38),nP (.store 1 (tP 39) (.const (.int .i64 (-1)))),oP 40 (nC 36),oP 41 (fA 6 40),nP (.store 1 (tP 41) kT)] (sO [mV 42 0,oP 43 (nC 42),oP 44 (fA 0 43),oP 45 (fA 0 44),oP 46 (fA 0 45),oP 47 (lN 46),mV 48 1,oP 49 (bK .add 48 1),oP 50 (bT .rem 47 49),mV 51 1,oP 52 (bT .add 50 51),oP 53 (bK .add 52 1),mV 54 1,oP 55 (bK .add 54 1),oP 56 (bT .rem 53 55),mV 4 56,oP 5 (.mv kF)] .ret))))
theorem k86 : compF Tryz.prog Tryz.f86 = some (c86,[4,5]) := by kernel_rfl
theorem n86 : Tryz.f86.ntmps = 57 := by kernel_rfl
def DevS.step (D : DevS) : DevS := { D with ops := IntKind.i64.wrap (D.ops + 1) }
theorem part_ok (d x y z : Nat) (D : DevS) (n : Int) (hD : D.left < 0) (h : Heap) (k : DevK h d x y z D) : ACalls Tryz.prog 86 [.pointer (some ⟨d,0,none⟩),.int .i64 n] h fun r h' => r = .tuple #[.int .i64 n,.bool true] ∧ h' = h.set d (.cells (devC x y z D.step) .ex 1) := by
 refine acalls_of mix Tryz.func86 k86 n86 (by simp) fun hcl hb => ?_
 have c1 := k.cd
 have d1 : ¬ (D.left = 0) := by omega
 have d2 : ¬ (0 < D.left) := by omega
 have c2 : ∀ o,(h.set d (.cells o .ex 1)).cellsOf d = some (o,.ex,1) := fun o => by simp [Heap.cellsOf,Heap.set]
 have hput : aput (devC x y z D) 7 [.int .i64 (IntKind.i64.wrap (D.ops + 1))] = devC x y z D.step := rfl
 have e7 : ∀ p,(devC x y z D)[7]'p = .int .i64 D.ops := fun _ => rfl
 have e2 : ∀ p,(devC x y z D.step)[2]'p = .int .i64 D.left := fun _ => rfl
 have hl : ∀ E,(devC x y z E).length = 8 := fun _ => rfl
 simp [c86,c1,apart,e7,hput,c2,e2,d1,d2,hl,mcells]
theorem cells_setJ {h : Heap} {d b : Nat} (o : AObj) (ne : d ≠ b) : (h.set d o).cellsOf b = h.cellsOf b := by
 have : b ≠ d := fun e => ne e.symm
 simp [Heap.cellsOf,Heap.set,this]
theorem cells_setJ' (h : Heap) (d : Nat) (c : List Value) (m : BMode) (e : Nat) : (h.set d (.cells c m e)).cellsOf d = some (c,m,e) := by simp [Heap.cellsOf,Heap.set]
theorem DevK.set {h : Heap} {d x y z : Nat} {D D' : DevS} (k : DevK h d x y z D) (e1 : D'.data = D.data) (e2 : D'.lock = D.lock) (e3 : D'.wear = D.wear) : DevK (h.set d (.cells (devC x y z D') .ex 1)) d x y z D' := by
 obtain ⟨n1,n2,n3,n4,n5,n6⟩ := k.ne
 exact ⟨cells_setJ' _ _ _ _ _,by rw [cells_setJ _ n1,e1]; exact k.cx,by rw [cells_setJ _ n2,e2]; exact k.cy,by rw [cells_setJ _ n3,e3]; exact k.cz,k.ne⟩
theorem n23 : Tryz.f23.ntmps = 40 := by kernel_rfl
end Go.Proofs.YtdnmkenamgfjoaaGreat.arbb
