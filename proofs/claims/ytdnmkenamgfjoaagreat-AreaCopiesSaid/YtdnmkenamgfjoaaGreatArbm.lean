/-
 Contracts.
-/
import Derived.Test.YtdnmkenamgfjoaaGreatArbl
import Derived.IntWalk
import Derived.KernelRfl
set_option linter.unusedSimpArgs false
set_option linter.unusedVariables false
set_option linter.unusedSectionVars false
namespace Go.Proofs.YtdnmkenamgfjoaaGreat.arbm
open Go Go.Ab Go.Proofs Go.RowKit str vers lin1 sha arba arbb arbc arbd arbe arbf arbg arbi arbj arbk arbl
variable [Inhabited TabBox]
variable [Nonempty GF]
variable [Nonempty GE]
set_option maxRecDepth 100000
def difF (n : Nat) (E : List Nat) (w c : List UInt8) : List Nat := (List.range n).filter fun i => decide (i ∉ E ∧ w[i]! ≠ c[i]!)
theorem md_fold_len (om de : List UInt8) (n : Nat) : ∀ (l : List Nat) (w : List UInt8),(l.foldl (mdStep om de n) w).length = w.length
 | [],_ => rfl
 | i :: l,w => by rw [List.foldl_cons,md_fold_len om de n l]; unfold mdStep; simp
theorem mendF_of {n k : Nat} {E : List Nat} {w c : List UInt8} (hw : w.length = n) (h : mendF n k E w = some c) : E.length ≤ n - k ∧ c.length = n ∧ rightF (n - k) c ∧ E.length + 2 * (difF n E w c).length ≤ n - k := by
 unfold mendF at h
 split at h
 ·cases h
 rename_i h1
 split at h
 ·rename_i hRw
  have e := Option.some.inj h
  subst e
  refine ⟨by omega,hw,hRw,?_⟩
  have : difF n E w w = [] := by
   unfold difF
   exact List.filter_eq_nil_iff.2 fun i _ => by simp
  rw [this]; simp; omega
 ·split at h
  ·cases h
  rename_i w' hm
  split at h
  ·rename_i hR
   have e := Option.some.inj h
   subst e
   unfold mdF at hm
   split at hm
   ·cases hm
   rename_i hcond
   split at hm
   ·have e2 := Option.some.inj hm
    have hln : ∀ i ∈ plcF n (srI (synL (n - k) w) (Pl.locs (plX n E)) E.length (n - k - E.length)).2.2 n,i < n := plcF_lt n _ n
    have hlP : ∃ P,plcF n (srI (synL (n - k) w) (Pl.locs (plX n E)) E.length (n - k - E.length)).2.2 n = (List.range n).filter P := ⟨_,rfl⟩
    have hnd : (plcF n (srI (synL (n - k) w) (Pl.locs (plX n E)) E.length (n - k - E.length)).2.2 n).Nodup := ((range_asc n).imp fun {a b} h q => by omega).filter _
    generalize plcF n (srI (synL (n - k) w) (Pl.locs (plX n E)) E.length (n - k - E.length)).2.2 n = l at *
    have hlen : w'.length = n := by rw [← e2,md_fold_len,hw]
    refine ⟨by omega,hlen,hR,?_⟩
    have hsub : (difF n E w w').length ≤ ulF E l := by
     obtain ⟨P,hP⟩ := hlP
     have hst := fun i (hi : i < n) => step_get (om := Pl.omF (n - k) (synL (n - k) w) (srI (synL (n - k) w) (Pl.locs (plX n E)) E.length (n - k - E.length)).2.2) (de := Pl.dvF (srI (synL (n - k) w) (Pl.locs (plX n E)) E.length (n - k - E.length)).2.2) (n := n) l w hnd (fun i hi => by rw [hw]; exact hln i hi) i (by omega)
     have hmem : ∀ i,i ∈ List.range n → decide (i ∉ E ∧ w[i]! ≠ w'[i]!) = true → (decide (i ∉ E) && P i) = true := fun i hi hd => by
      obtain ⟨h5,h6⟩ := of_decide_eq_true hd
      have hin := List.mem_range.1 hi
      have hil : i ∈ l := Classical.byContradiction fun q => h6 (by
       have := hst i hin
       rw [e2,if_neg q] at this
       exact this.symm)
      rw [hP] at hil
      rw [(List.mem_filter.1 hil).2,decide_eq_true h5]; rfl
     unfold ulF difF
     rw [hP,List.filter_filter,← List.countP_eq_length_filter,← List.countP_eq_length_filter]
     exact List.countP_mono_left hmem
    omega
   ·cases hm
  ·cases h
theorem secF_blank {n i : Nat} (h : i < n) : secF (dev0 n) i = List.replicate 64 255 := by
 show ((List.replicate (64 * n) (255 : UInt8)).drop (64 * i)).take 64 = _
 rw [List.drop_replicate,List.take_replicate]
 congr 1; omega
theorem erF_blank (n : Nat) : (erF (List.replicate n (List.replicate 64 255))).length = n := by
 unfold erF
 rw [List.filter_eq_self.2 fun i hi => ?_,List.length_range,List.length_replicate]
 have hin : i < n := by simpa using hi
 rw [getElem!_pos _ i (by simpa using hin),List.getElem_replicate,List.take_replicate]
 exact decide_eq_true blank_bad
noncomputable def rdF (d p : Nat) (l : List (List UInt8)) : Option (List (List UInt8)) := foldR (d + p) (l.map (List.take 60)) (fun q => mendF (d + p) d (erF l) (colF (l.map (List.take 60)) q)) 60
theorem cread_gen (c k s f : Nat) (gw : Value) (d p n : Nat) (hr : right d p n = true) (l : List (List UInt8)) (hl64 : ∀ x ∈ l,x.length = 64) (hll : l.length = d + p) (v : Value) (h : Heap) (hk : CodK h c k s f gw d p n) (hl : Sl sv h v l) :
  ACalls Tryz.prog 73 [.pointer (some ⟨c,0,none⟩),v] h (ReadR h l (rdF d p l)) := by
 obtain ⟨⟨hd1,hd8⟩,⟨hp2,hp6⟩,hn1,hn8⟩ := right_prop.1 hr
 refine cread_ok c k s f gw d p n hr l hl64 hll (fun q => mendF (d + p) d (erF l) (colF (l.map (List.take 60)) q)) v h hk hl fun q hq H v1 v2 ck s1 s2 => ?_
 have hc : (colF (l.map (List.take 60)) q).length = d + p := by unfold colF; rw [List.length_map,List.length_map,hll]
 refine (mendf_ok k f (d + p) d gw (by omega) (by omega) (by omega) (by omega) _ hc v1 v2 (erF l) (fun x hx => by have := erF_lt l x hx; omega) (erF_asc l) (by have := erF_len l; omega) H ck s1 s2).mono ?_
 intro r h' hr2
 cases e : mendF (d + p) d (erF l) (colF (l.map (List.take 60)) q) with
 | none => rw [e] at hr2; exact hr2
 | some w =>
   rw [e] at hr2
   obtain ⟨vw,vu,rfl,nb⟩ := hr2
   exact ⟨vw,vu,rfl,nb,(mendF_of hc e).2.1⟩
theorem aread_gen (A : ArB) (V : DevS) (a k : Nat) (ha : a ≤ 2) (hk : k < A.S) (h : Heap) (K : ArK h A V) :
  ACalls Tryz.prog 30 [.pointer (some ⟨A.a,0,none⟩),.int .i64 (a : Int),.int .i64 (k : Int)] h fun r h' => ∃ q,ArK h' A (V.wop q) ∧ ReadA h (strF A V a k) (rdF A.D A.P (strF A V a k)) r h' ∧ ArX A h h' :=
 aread_ok A V a k ha hk _ h K fun H v ck sv' => cread_gen A.c A.k A.s A.f A.gw A.D A.P A.S K.rt _ (strF_64 A V a k ha hk h K) (strF_len _ _ _ _) v H ck sv'
theorem rdF_er {d p : Nat} (hn : d + p ≤ 255) {l : List (List UInt8)} (hl64 : ∀ x ∈ l,x.length = 64) (hll : l.length = d + p) {X : List (List UInt8)} (hX : X.length = d + p) (hX6 : ∀ x ∈ X,x.length = 60) (hE : (erF l).length ≤ p)
  (hR : ∀ q,q < 60 → rightF p (colF X q)) (hs : ∀ i,i < d + p → i ∉ erF l → (l[i]!).take 60 = X[i]!) : rdF d p l = some X := by
 have hB : (l.map (List.take 60)).length = d + p := by rw [List.length_map,hll]
 have hB6 : ∀ x ∈ l.map (List.take 60),x.length = 60 := fun x hx => by
  obtain ⟨y,hy,rfl⟩ := List.mem_map.1 hx
  rw [List.length_take,hl64 y hy]; rfl
 refine foldR_eq (by rw [hB]) (by rw [hB,hX]) hB6 hX6 fun q hq => ?_
 refine mendF_er (n := d + p) (k := d) hn (E := erF l) (by unfold colF; rw [List.length_map,hB]) (by unfold colF; rw [List.length_map,hX]) (by rw [show d + p - d = p by omega]; exact hR q hq) (fun x hx => by have := erF_lt l x hx; omega) (erF_asc l) (by omega) fun i hi hne => ?_
 refine Classical.byContradiction fun hni => hne ?_
 rw [colX_get _ _ _ (by rw [hB]; exact hi),colX_get _ _ _ (by rw [hX]; exact hi),getElem!_pos _ i (by rw [hB]; exact hi),List.getElem_map,← getElem!_pos l i (by rw [hll]; exact hi),hs i hi hni]
theorem rdF_many {d p : Nat} {l : List (List UInt8)} (hE : p < (erF l).length) : rdF d p l = none := by
 refine foldR_bad ?_
 unfold mendF
 rw [if_pos (by omega)]
theorem strF_blank {A : ArB} {V : DevS} {a k : Nat} (hb : ∀ i,i < A.D + A.P → secF V (secN A.D A.P A.S a k i) = List.replicate 64 255) : strF A V a k = List.replicate (A.D + A.P) (List.replicate 64 255) := by
 refine List.eq_replicate_iff.2 ⟨strF_len _ _ _ _,fun x hx => ?_⟩
 obtain ⟨i,hi,rfl⟩ := List.mem_map.1 hx
 exact hb i (List.mem_range.1 hi)
theorem rdF_blank {d p : Nat} (hd : 1 ≤ d) : rdF d p (List.replicate (d + p) (List.replicate 64 255)) = none := rdF_many (by rw [erF_blank]; omega)
theorem _root_.Go.Proofs.YtdnmkenamgfjoaaGreat.arbe.FdJ.keep {h0 h h' : Heap} {X l : List (List UInt8)} {va vw : Value} {H : Heap} (f : FdJ h X l va vw H) (hn : h0.n ≤ h.n) (k : ∀ u ob,h.n ≤ u → H.m u = some ob → h'.m u = some ob) : FdJ h0 X l va vw h' := by
 obtain ⟨nm,nn,l1,l2,n1,n2,n3⟩ := f
 exact ⟨nm,nn,l1.up fun x e ob q => k x ob (n1 x e) q,l2.up fun x e ob q => k x ob (n2 x e) q,fun x e => Nat.le_trans hn (n1 x e),fun x e => Nat.le_trans hn (n2 x e),n3⟩
noncomputable def lookF (D P : Nat) (l : List (List UInt8)) : Int := match rdF D P l with
 | none => 2
 | some X => if wrF X l l.length = [] then 0 else 1
noncomputable def bor1 (A : ArB) (V : DevS) (a k : Nat) (o : Int) : Option (List (List UInt8)) := if o = a ∨ thereF A.S o k = false then none else rdF A.D A.P (strF A V o.toNat k)
noncomputable def borF (A : ArB) (V : DevS) (a k : Nat) (os : List Int) : Option (List (List UInt8)) := os.findSome? (bor1 A V a k)
theorem rdF_len {d p : Nat} {l X : List (List UInt8)} (hl : l.length = d + p) (hl64 : ∀ x ∈ l,x.length = 64) (h : rdF d p l = some X) : X.length = d + p ∧ ∀ x ∈ X,x.length = 60 := by
 have key : ∀ (n : Nat) (B : List (List UInt8)) (W : Nat → Option (List UInt8)) (j : Nat) (X : List (List UInt8)),n ≤ B.length → (∀ x ∈ B,x.length = 60) → foldR n B W j = some X → X.length = B.length ∧ ∀ x ∈ X,x.length = 60 := fun n B W j => by
  induction j with
  | zero => intro X _ hB h; cases h; exact ⟨rfl,hB⟩
  | succ j ih =>
    intro X hn hB h
    unfold foldR at h
    split at h
    ·rename_i Y w h1 h2
     cases h
     obtain ⟨i1,i2⟩ := ih Y hn hB h1
     exact ⟨by rw [setK_len,i1],setK_60 i2 _ _ n (by omega)⟩
    ·cases h
 have hm : (l.map (List.take 60)).length = d + p := by rw [List.length_map,hl]
 have := key (d + p) _ _ 60 X (by rw [hm]; exact Nat.le_refl _) (fun x hx => by
  obtain ⟨y,hy,rfl⟩ := List.mem_map.1 hx
  rw [List.length_take,hl64 y hy]; rfl) h
 rw [hm] at this
 exact this
theorem n13 : Tryz.f13.ntmps = 33 := by kernel_rfl
def c10 : AC := sO [oP 0 (.mv kF)] (sO [oP 10 (.build [.int .i64 0,.int .i64 0,.int .i64 0] [(0,1,.const (.int .i64 2)),(1,1,.const (.int .i64 2)),(2,1,.const (.int .i64 1))]),oP 1 (.alloc [.int .i64 0,.int .i64 0,.int .i64 0]),nP (.store 3 (tP 1) (tP 10))] (sO [oP 12 (.load (some 3) (tP 1)),oP 13 (.call 13 [tP 12,.const (.string ⟨⟨[97,98,99]⟩⟩)]),mV 11 13,oP 14 (xR 11 0),oP 15 (xR 11 1),mV 2 14,mV 3 15] (.seq (sO [mV 16 2,oP 17 (.eqv false .ptr (tP 16) (.const (.pointer none)))] (cT 17 (sO [oP 0 (.mv kF)] .ret) .skip)) (sO [mV 18 3,oP 19 (.load (some 3) (tP 1)),oP 20 (.call 35 [tP 19]),oP 21 (.call 46 [tP 18,tP 20])] (sO [mV 22 3,oP 23 (.load (some 3) (tP 1)),oP 24 (.call 35 [tP 23]),oP 25 (bK .add 24 3),oP 26 (.call 46 [tP 22,tP 25])] (sO [mV 28 2,oP 29 (.call 18 [tP 28,.const (.int .i64 1),.const (.int .i64 0)]),mV 27 29,oP 30 (xR 27 0),oP 31 (xR 27 1),mV 4 30,mV 5 31] (sO [mV 33 2,oP 34 (.call 19 [tP 33,.const (.int .i64 1),.const (.int .i64 0),.const (.slice none 0 0)]),mV 32 34,oP 35 (xR 32 0),oP 36 (xR 32 1),mV 6 35,mV 7 36] (sO [mV 38 2,oP 39 (.call 18 [tP 38,.const (.int .i64 1),.const (.int .i64 0)]),mV 37 39,oP 40 (xR 37 0),oP 41 (xR 37 1),mV 8 40,mV 9 41] (sO [mV 42 4,oP 43 (bK .eql 42 1),mV 44 43,gP 45 44 true (.mv (tP 6)),gP 46 44 true (bK .eql 45 1),oP 47 (pF 44 46),mV 48 47,gP 49 48 true (.mv (tP 8)),gP 50 48 true (bK .eql 49 0),oP 51 (pF 48 50),mV 52 51,gP 53 52 true (.mv (tP 5)),gP 54 52 true (bK .eql 53 0),oP 55 (pF 52 54),mV 56 55,gP 57 56 true (.mv (tP 7)),gP 58 56 true (bK .eql 57 0),oP 59 (pF 56 58),mV 60 59,gP 61 60 true (.mv (tP 9)),gP 62 60 true (bK .eql 61 0),oP 63 (pF 60 62),mV 0 63] .ret)))))))))
theorem k10 : compF Tryz.prog Tryz.f10 = some (c10,[0]) := by kernel_rfl
theorem n10 : Tryz.f10.ntmps = 64 := by kernel_rfl
def c4 : AC := sO [oP 3 (.box (tP 0)),oP 6 (.mv kF)] (.seq (sO [oP 22 (.call 10 []),oP 23 (.un .not (tP 22))] (cT 23 (sO [oP 6 (.mv kF)] .ret) .skip)) (.seq (sO [oP 24 (.load (some 3) (tP 3)),oP 25 (.call 20 [tP 24]),oP 26 (.un .not (tP 25))] (cT 26 (sO [oP 6 (.mv kT)] .ret) .skip)) (sO [oP 28 (.load (some 3) (tP 3)),oP 29 (.call 13 [tP 28,.const (.string ⟨⟨[]⟩⟩)]),mV 27 29,oP 30 (xR 27 0),oP 31 (xR 27 1),mV 7 30,mV 8 31] (.seq (sO [mV 32 7,oP 33 (.eqv false .ptr (tP 32) (.const (.pointer none)))] (cT 33 (sO [oP 34 (.load (some 3) (tP 3)),oP 35 (.call 12 [tP 34]),oP 36 (.bin .gtr (kI 0) (tP 35)),mV 6 36] .ret) .skip)) (sO [mV 37 1,oP 38 (bK .geq 37 0),mV 39 38,gP 40 39 true (.mv (tP 1)),gP 41 39 true (bK .lss 40 3),oP 42 (pF 39 41),mV 43 42,gP 44 43 true (.mv (tP 2)),gP 45 43 true (bK .geq 44 0),oP 46 (pF 43 45),mV 47 46,gP 48 47 true (.mv (tP 2)),gP 49 47 true (fA 2 3),gP 50 47 true (lN 49),gP 51 47 true (bT .lss 48 50),oP 52 (pF 47 51),mV 9 52] (sO [mV 54 7,mV 55 1,mV 56 2,oP 57 (.call 18 [tP 54,tP 55,tP 56]),mV 53 57,oP 58 (xR 53 0),oP 59 (xR 53 1),mV 10 58,mV 11 59] (sO [mV 61 7,mV 62 1,mV 63 2,mV 64 1,oP 65 (.buildS 1 [.int .i64 0] [(0,1,.tmp 64)]),oP 66 (.call 19 [tP 61,tP 62,tP 63,tP 65]),mV 60 66,oP 67 (xR 60 0),oP 68 (xR 60 1),mV 12 67,mV 13 68] (sO [mV 70 1,oP 71 (.call 21 [.const (.pointer none),tP 70,.const (.slice none 0 0)]),mV 69 71,oP 72 (xR 69 0),oP 73 (xR 69 1),mV 14 72,mV 15 73] (sO [mV 75 1,mV 76 2,oP 77 (.call 18 [.const (.pointer none),tP 75,tP 76]),mV 74 77,oP 78 (xR 74 0),oP 79 (xR 74 1),mV 16 78,mV 17 79] (.seq (sO [mV 80 15,oP 81 (bK .neq 80 1),mV 82 81,gP 83 82 false (.mv (tP 17)),gP 84 82 false (bK .neq 83 1),oP 85 (pT 82 84),mV 86 85,gP 87 86 false (.mv (tP 11)),gP 88 86 false (bK .eql 87 2),gP 89 86 false (.mv (tP 9)),gP 90 86 false (.un .not (tP 89)),gP 91 86 false (.eqv true .bool (tP 88) (tP 90)),oP 92 (pT 86 91),mV 93 92,gP 94 93 false (.mv (tP 9)),gP 95 93 false (.un .not (tP 94)),gP 96 93 false (.mv (tP 95)),gP 97 96 true (.mv (tP 13)),gP 98 96 true (bK .neq 97 2),gP 99 93 false (pF 96 98),oP 100 (pT 93 99)] (cT 100 (sO [oP 6 (.mv kF)] .ret) .skip)) (sO [oP 102 (.load (some 3) (tP 3)),oP 103 (.call 22 [tP 102]),mV 101 103,oP 104 (xR 101 0),oP 105 (xR 101 1),mV 18 104,mV 19 105] (sO [mV 106 8,mV 107 18,mV 108 19,oP 109 (.call 23 [tP 106,tP 107,tP 108])] (sO [mV 111 7,oP 112 (.buildS 1 [.int .i64 0] [(0,1,.const (.int .i64 1))]),oP 113 (.call 19 [tP 111,.const (.int .i64 0),.const (.int .i64 0),tP 112]),mV 110 113,oP 114 (xR 110 0),oP 115 (xR 110 1),mV 20 114,mV 21 115] (sO [mV 116 21,oP 117 (bK .eql 116 4),mV 6 117] .ret))))))))))))))
theorem k4 : compF Tryz.prog Tryz.f4 = some (c4,[6]) := by kernel_rfl
theorem n4 : Tryz.f4.ntmps = 118 := by kernel_rfl
theorem secN_in {D P S a k i : Nat} (hk : k < S) (hi : i < D + P) : a * ((D + P) * S) ≤ secN D P S a k i ∧ secN D P S a k i < (a + 1) * ((D + P) * S) := by
 unfold secN
 have e1 : i * S + k < (D + P) * S := by
  calc i * S + k < i * S + S := by omega
   _ = (i + 1) * S := by rw [Nat.add_mul,Nat.one_mul]
   _ ≤ (D + P) * S := Nat.mul_le_mul_right _ (by omega)
 have e2 : (a + 1) * ((D + P) * S) = a * ((D + P) * S) + (D + P) * S := by rw [Nat.add_mul,Nat.one_mul]
 omega
theorem secN_ne {D P S a a' k k' i i' : Nat} (hk : k < S) (hi : i < D + P) (hk' : k' < S) (hi' : i' < D + P) (h : a ≠ a') : secN D P S a k i ≠ secN D P S a' k' i' := fun e => by
 have h1 := secN_in (a := a) hk hi
 have h2 := secN_in (a := a') hk' hi'
 rcases Nat.lt_or_gt_of_ne h with q | q
 ·have : (a + 1) * ((D + P) * S) ≤ a' * ((D + P) * S) := Nat.mul_le_mul_right _ q
  omega
 ·have : (a' + 1) * ((D + P) * S) ≤ a * ((D + P) * S) := Nat.mul_le_mul_right _ q
  omega
end Go.Proofs.YtdnmkenamgfjoaaGreat.arbm
