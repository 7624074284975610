/-
 Contracts.
-/
import Derived.Test.YtdnmkenamgfjoaaGreatArbe
import Derived.IntWalk
import Derived.KernelRfl
set_option linter.unusedSimpArgs false
set_option linter.unusedVariables false
set_option linter.unusedSectionVars false
namespace Go.Proofs.YtdnmkenamgfjoaaGreat.arbf
open Go Go.Ab Go.Proofs Go.RowKit str vers lin1 sha arba arbb arbc arbd arbe
variable [Inhabited TabBox]
variable [Nonempty GF]
variable [Nonempty GE]
set_option maxRecDepth 100000
def c60 : AC := sO [oP 4 (.mv (.const (.pointer none))),oP 5 (.mv (kI 0))] (.seq (sO [mV 6 0,oP 7 (.eqv false .ptr (tP 6) (.const (.pointer none))),mV 8 7,gP 9 8 false (.mv (tP 1)),gP 10 8 false (.eqv false .ptr (tP 9) (.const (.pointer none))),oP 11 (pT 8 10),mV 12 11,gP 13 12 false (.mv (tP 0)),gP 14 12 false (.call 48 [tP 13]),gP 15 12 false (.mv (tP 1)),gP 16 12 false (.call 56 [tP 15]),gP 17 12 false (.call 58 [tP 16]),gP 18 12 false (bT .lss 14 17),oP 19 (pT 12 18)] (cT 19 (sO [oP 4 (.mv (.const (.pointer none))),oP 5 (.mv (kI 1))] .ret) .skip)) (sO [mV 20 1,mV 21 0,mV 22 1,oP 23 (.call 56 [tP 22]),oP 24 (.build [.pointer none,.pointer none,.int .i64 0,.int .i64 0,.int .i64 0] [(0,1,.tmp 20),(1,1,.tmp 21),(2,3,.tmp 23)]),oP 25 (.box (tP 24)),mV 4 25,oP 5 (.mv (kI 0))] .ret))
theorem k60 : compF Tryz.prog Tryz.f60 = some (c60,[4,5]) := by kernel_rfl
theorem n60 : Tryz.f60.ntmps = 26 := by kernel_rfl
def c25 : AC := sO [oP 1 (.box (tP 0)),oP 2 (.mv (.const (.pointer none))),oP 3 (.mv (.const (.pointer none)))] (sO [oP 11 (.load (some 3) (tP 1)),oP 12 (.call 58 [tP 11]),oP 13 (.call 57 [tP 12]),mV 10 13,oP 14 (xR 10 0),oP 15 (xR 10 1),mV 4 14,mV 5 15] (sO [oP 17 (.load (some 3) (tP 1)),oP 18 (.call 59 [tP 17]),mV 16 18,oP 19 (xR 16 0),oP 20 (xR 16 1),mV 6 19,mV 7 20] (sO [mV 22 4,mV 23 6,oP 24 (.call 60 [tP 22,tP 23]),mV 21 24,oP 25 (xR 21 0),oP 26 (xR 21 1),mV 8 25,mV 9 26] (.seq (sO [mV 27 5,oP 28 (bK .neq 27 0),mV 29 28,gP 30 29 false (.mv (tP 7)),gP 31 29 false (bK .neq 30 0),oP 32 (pT 29 31),mV 33 32,gP 34 33 false (.mv (tP 9)),gP 35 33 false (bK .neq 34 0),oP 36 (pT 33 35)] (cT 36 (sO [oP 2 (.mv (.const (.pointer none))),oP 3 (.mv (.const (.pointer none)))] .ret) .skip)) (sO [mV 37 8,mV 38 4,mV 2 37,mV 3 38] .ret)))))
theorem k25 : compF Tryz.prog Tryz.f25 = some (c25,[2,3]) := by kernel_rfl
theorem n25 : Tryz.f25.ntmps = 39 := by kernel_rfl
theorem dev0_u (n : Nat) (hn : n ≤ 512) : DevU (dev0 n) := ⟨rfl,by show (-1 : Int) < 0; decide,by simp [dev0],by simp [dev0],by simpa [dev0] using hn⟩
theorem arnew_ok (d x y z c k s f : Nat) (gw : Value) (D P S n1 : Nat) (V : DevS) (hr : right D P S = true) (h : Heap) (kc : CodK (frm h n1) c k s f gw D P S) (kd : DevK h d x y z V) (hlo : d < n1 ∧ x < n1 ∧ y < n1 ∧ z < n1) (hn1 : n1 ≤ h.n) (hu : DevU V) (hsz : allS D P S ≤ V.lock.length) :
  ACalls Tryz.prog 60 [.pointer (some ⟨d,0,none⟩),.pointer (some ⟨c,0,none⟩)] h fun r h' => ∃ A : ArB,r = .tuple #[.pointer (some ⟨A.a,0,none⟩),.int .i64 0] ∧ ArK h' A V ∧ Gr h h' ∧ h.n ≤ A.a ∧ A.c = c ∧ A.d = d ∧ A.x = x ∧ A.y = y ∧ A.z = z ∧ A.D = D ∧ A.P = P ∧ A.S = S ∧ A.n1 = n1 := by
 refine acalls_of mix Tryz.func60 k60 n60 (by simp) fun hcl hb => ?_
 have hq := ptrq
 have kc' := kc.keep (from_gr hcl n1)
 simp [c60,hq]
 refine (sectors_ok d x y z V h kd).eqK ?_
 simp
 refine (cgeo_ok c k s f gw D P S h kc').eqK ?_
 simp
 refine (all_ok D P S h).eqK ?_
 have hlt : ¬ ((V.lock.length : Int) < allS D P S) := by omega
 simp [hlt]
 refine (cgeo_ok c k s f gw D P S h kc').eqK ?_
 have fil : afill [.pointer none,.pointer none,.int .i64 0,.int .i64 0,.int .i64 0] [(0,1,.pointer (some ⟨c,0,none⟩)),(1,1,.pointer (some ⟨d,0,none⟩)),(2,3,gv D P S)] = some [.pointer (some ⟨c,0,none⟩),.pointer (some ⟨d,0,none⟩),.int .i64 D,.int .i64 P,.int .i64 S] := rfl
 have bd := cellsOf_lt hcl kd.cd
 have bc := cellsOf_lt hcl kc'.cc
 have c1 : (h.push (.cells [.pointer (some ⟨c,0,none⟩),.pointer (some ⟨d,0,none⟩),.int .i64 D,.int .i64 P,.int .i64 S] .ex 1)).Closed := closed_push hcl (fun v hv => by
  simp at hv
  rcases hv with rfl | rfl | rfl | rfl | rfl
  ·exact .ptr (by show c < _; omega)
  ·exact .ptr (by show d < _; omega)
  ·exact .int
  ·exact .int
  ·exact .int)
 have g1 : Gr h (h.push (.cells [.pointer (some ⟨c,0,none⟩),.pointer (some ⟨d,0,none⟩),.int .i64 D,.int .i64 P,.int .i64 S] .ex 1)) := ⟨Nat.le_succ _,c1,keep_push hcl _⟩
 have f1 := cellsOf_new h [.pointer (some ⟨c,0,none⟩),.pointer (some ⟨d,0,none⟩),.int .i64 D,.int .i64 P,.int .i64 S] .ex 1
 simp [fil,mcells]
 refine ⟨⟨h.n,c,k,s,f,gw,d,x,y,z,D,P,S,n1⟩,rfl,⟨hr,f1,?_,kd.keepM fun u ob e _ => g1.m u ob e,⟨hlo.1,hlo.2.1,hlo.2.2.1,hlo.2.2.2,hn1⟩,hu,hsz⟩,g1,Nat.le_refl _,rfl,rfl,rfl,rfl,rfl,rfl,rfl,rfl,rfl⟩
 refine kc.keep ⟨Nat.le_succ _,fun b o e => c1 b o (from_m e).2,fun b o e => ?_⟩
 obtain ⟨q1,q2⟩ := from_m e
 show (if n1 ≤ b then _ else none) = some o
 rw [if_pos q1]
 exact g1.m b o q2
theorem fresh_ok (D P S : Nat) (hr : right D P S = true) (h : Heap) :
  ACalls Tryz.prog 25 [gv D P S] h fun r h' => ∃ A : ArB,r = .tuple #[.pointer (some ⟨A.a,0,none⟩),.pointer (some ⟨A.d,0,none⟩)] ∧ ArK h' A (dev0 (allS D P S).toNat) ∧ Gr h h' ∧ h.n ≤ A.a ∧ h.n ≤ A.d ∧ h.n ≤ A.x ∧ h.n ≤ A.y ∧ h.n ≤ A.z ∧ A.D = D ∧ A.P = P ∧ A.S = S := by
 refine acalls_of mix Tryz.func25 k25 n25 (by simp) fun hcl hb => ?_
 have c1 : (h.push (.cells [.int .i64 D,.int .i64 P,.int .i64 S] .ex 1)).Closed := closed_push hcl (fun x hx => by simp at hx; rcases hx with rfl | rfl | rfl <;> exact .int)
 have g1 : Gr h (h.push (.cells [.int .i64 D,.int .i64 P,.int .i64 S] .ex 1)) := ⟨Nat.le_succ _,c1,keep_push hcl _⟩
 have f1 := cellsOf_new h [.int .i64 D,.int .i64 P,.int .i64 S] .ex 1
 simp [c25,gvm,f1,apart,gvc,gva]
 generalize h.push (.cells [.int .i64 D,.int .i64 P,.int .i64 S] .ex 1) = H1 at *
 refine (all_ok D P S H1).eqK ?_
 obtain ⟨⟨hd1,hd8⟩,⟨hp2,hp6⟩,hn1,hn8⟩ := right_prop.1 hr
 have ha1 : 18 ≤ allS (D : Int) P S := by
  unfold allS
  rw [if_pos hr]
  have := (slot_bound (d := (D : Int)) (p := P) (s := S)).1
  omega
 have ha2 : allS (D : Int) P S ≤ 354 := allS_le
 obtain ⟨n,hn⟩ : ∃ n : Nat,(allS (D : Int) P S) = n := ⟨(allS (D : Int) P S).toNat,by omega⟩
 rw [hn] at ha1 ha2 ⊢
 have hnt : ((n : Int)).toNat = n := rfl
 rw [hnt]
 simp
 refine (fnew_ok n (by omega) (by omega) H1).mono' ?_
 rintro _ H2 c2 _ ⟨d,x,y,z,rfl,k2,hd,hx,hy,hz,g2⟩
 have g12 := g1.trans g2
 have f2 := cellsOf_keep g2.m f1
 simp [f2,apart,gvc,gva]
 refine (snew_ok D P S hr H2).mono' ?_
 rintro _ H3 c3 _ ⟨c,k,s,f,gw,rfl,k3,g3,hcn⟩
 simp
 have bx := k2.cx
 have kk : DevK H3 d x y z (dev0 n) := k2.keepM fun u ob e _ => g3.m u ob e
 have ld := cellsOf_lt c2 k2.cd
 have lx := cellsOf_lt c2 k2.cx.choose_spec.choose_spec.1
 have ly := cellsOf_lt c2 k2.cy.choose_spec.choose_spec.1
 have lz := cellsOf_lt c2 k2.cz.choose_spec.choose_spec.1
 refine (arnew_ok d x y z c k s f gw D P S H2.n (dev0 n) hr H3 k3 kk ⟨ld,lx,ly,lz⟩ g3.n (dev0_u n (by omega)) (by rw [hn]; simp [dev0])).mono' ?_
 rintro _ H4 c4 _ ⟨A,rfl,k4,g4,ha,e1,e2,e3,e4,e5,e6,e7,e8,e9⟩
 have gT := g12.trans (g3.trans g4)
 have hn1 := g1.n
 have hn2 := g2.n
 have hn3 := g3.n
 simp
 exact ⟨A,⟨rfl,by rw [e2]⟩,k4,gT,by omega,by omega,by omega,by omega,by omega,e6,e7,e8⟩
theorem v_bN {x : Hd} (hR : rightH x) : (x.vs.flatMap fun k => bN 2 k.toNat) = bN 2 x.a.toNat ++ (bN 2 x.b.toNat ++ bN 2 x.c.toNat) := by simp [Hd.vs]
theorem get_put {x : Hd} (hx : x.hs.length = 32) (hR : rightH x) (s : List UInt8) : getH (putH x ++ s) = (x,0) := by
 have ra := hR.1 0 (by omega)
 have rb := hR.1 1 (by omega)
 have rc := hR.1 2 (by omega)
 have hn := hR.2
 change rng x.a at ra
 change rng x.b at rb
 change rng x.c at rc
 obtain ⟨a,ea⟩ : ∃ m : Nat,x.a = m := ⟨x.a.toNat,by have := ra.1; omega⟩
 obtain ⟨b,eb'⟩ : ∃ m : Nat,x.b = m := ⟨x.b.toNat,by have := rb.1; omega⟩
 obtain ⟨c,ec⟩ : ∃ m : Nat,x.c = m := ⟨x.c.toNat,by have := rc.1; omega⟩
 obtain ⟨n,en⟩ : ∃ m : Nat,x.n = m := ⟨x.n.toNat,by have := hn.1; omega⟩
 have la : a < 256 ^ 2 := by have := ra.2; rw [ea] at this; show a < 65536; omega
 have lb : b < 256 ^ 2 := by have := rb.2; rw [eb'] at this; show b < 65536; omega
 have lc : c < 256 ^ 2 := by have := rc.2; rw [ec] at this; show c < 65536; omega
 have ln : n < 256 ^ 4 := by have := hn.2; rw [en] at this; show n < 4294967296; omega
 have ta := tk_bN 2 a la
 have tb := tk_bN 2 b lb
 have tc := tk_bN 2 c lc
 have tn4 := tk_bN 4 n ln
 have l1 : (bN 2 a).length = 2 := bN_len _ _
 have l2 : (bN 2 b).length = 2 := bN_len _ _
 have l3 : (bN 2 c).length = 2 := bN_len _ _
 have l4 : (bN 4 n).length = 4 := bN_len _ _
 have hP : putH x = [84,82,73,80] ++ (bN 2 a ++ (bN 2 b ++ (bN 2 c ++ (bN 4 n ++ (x.hs ++ [0,0]))))) := by
  unfold putH
  rw [v_bN hR, ea, eb', ec, en]
  simp
 have hlen : (putH x).length = 48 := by rw [hP]; simp [l1,l2,l3,l4,hx]
 have hparse : parseH (putH x ++ s) = x := by
  obtain ⟨xa,xb,xc,xn,xh⟩ := x
  dsimp only at *
  subst ea eb' ec en
  rw [hP]
  unfold parseH
  congr 1
  ·simp only [List.append_assoc]
   rw [List.drop_left' (show ([84,82,73,80] : List UInt8).length = 4 from rfl),List.take_left' l1,ta]
  ·simp only [List.append_assoc]
   rw [← List.append_assoc,List.drop_left' (by simp [l1]),List.take_left' l2,tb]
  ·simp only [List.append_assoc]
   rw [← List.append_assoc,← List.append_assoc,List.drop_left' (by simp [l1,l2]),List.take_left' l3,tc]
  ·simp only [List.append_assoc]
   rw [← List.append_assoc,← List.append_assoc,← List.append_assoc,List.drop_left' (by simp [l1,l2,l3]),List.take_left' l4,tn4]
  ·simp only [List.append_assoc]
   rw [← List.append_assoc,← List.append_assoc,← List.append_assoc,← List.append_assoc,List.drop_left' (by simp [l1,l2,l3,l4]),List.take_left' hx]
 unfold getH
 rw [if_neg (by rw [List.length_append]; omega),hparse,List.take_left' hlen,if_pos ⟨hR,rfl⟩]
theorem colF_get (L : List (List UInt8)) (q i : Nat) (h : i < L.length) (h' : i < (colF L q).length) : (colF L q)[i] = L[i][q]! := List.getElem_map _
theorem foldE_col {d p : Nat} {L : List (List UInt8)} (hd : L.length = d) (hp : 0 < p) : ∀ a,a ≤ 60 → ∀ q,q < a → colF (foldE d p L a) q = encW p L q
 | 0,_,q,hq => by omega
 | a + 1,ha,q,hq => by
   have hl := foldE_len d p L a
   have hWl : ∀ q,(encW p L q).length = d + p := fun q => by
    unfold encW
    rw [List.length_append,(Pl.par_len hp _).2]
    unfold colF; rw [List.length_map,hd]
   have h60 := foldE_60 d p L a
   show colF (setK (foldE d p L a) a (encW p L a) (d + p)) q = _
   refine List.ext_getElem ?_ fun i h1 h2 => ?_
   ·unfold colF; rw [List.length_map,setK_len,hl,hWl]
   ·have hi : i < d + p := by rw [hWl] at h2; exact h2
    have hg := setK_get (L := foldE d p L a) (p := a) (w := encW p L a) (d + p) (by omega) i
    rw [if_pos hi,getElem!_pos _ i (by rw [setK_len,hl]; exact hi),getElem!_pos (foldE d p L a) i (by omega),getElem!_pos (encW p L a) i (by rw [hWl]; exact hi)] at hg
    have hx : ((foldE d p L a)[i]'(by omega)).length = 60 := h60 _ (List.getElem_mem _)
    rw [colF_get _ q i (by rw [setK_len,hl]; exact hi),hg]
    by_cases hqa : q = a
    ·subst hqa
     rw [getElem!_pos _ q (by rw [List.length_set]; omega),List.getElem_set_self]
    ·rw [getElem!_pos _ q (by rw [List.length_set]; omega),List.getElem_set_ne (by omega)]
     have ih := foldE_col hd hp a (by omega) q (by omega)
     have : (colF (foldE d p L a) q)[i]'(by unfold colF; rw [List.length_map]; omega) = (encW p L q)[i] := by simp only [ih]
     rw [← this,colF_get _ q i (by omega),getElem!_pos ((foldE d p L a)[i]'(by omega)) q (by omega)]
theorem encB_col {d p : Nat} {L : List (List UInt8)} (hd : L.length = d) (hp : 0 < p) (q : Nat) (hq : q < 60) : colF (encB d p L) q = encW p L q := foldE_col hd hp 60 (Nat.le_refl _) q hq
theorem encB_right {d p : Nat} {L : List (List UInt8)} (hd : L.length = d) (hp : 0 < p) (q : Nat) (hq : q < 60) : rightF p (colF (encB d p L) q) := by
 rw [encB_col hd hp q hq]
 intro j hj
 exact Pl.code_ok hp (colF L q) j hj
theorem encB_60 (d p : Nat) (L : List (List UInt8)) : ∀ x ∈ encB d p L,x.length = 60 := foldE_60 d p L 60
theorem encB_len (d p : Nat) (L : List (List UInt8)) : (encB d p L).length = d + p := foldE_len d p L 60
theorem encB_data {d p : Nat} {L : List (List UInt8)} (hd : L.length = d) (hp : 0 < p) (h60 : ∀ x ∈ L,x.length = 60) : (encB d p L).take d = L := by
 refine List.ext_getElem (by rw [List.length_take,encB_len,hd]; omega) fun i h1 h2 => ?_
 rw [List.getElem_take]
 have hi : i < d := by omega
 have hib : i < (encB d p L).length := by rw [encB_len]; omega
 have hx : ((encB d p L)[i]'hib).length = 60 := encB_60 d p L _ (List.getElem_mem _)
 have hy : (L[i]).length = 60 := h60 _ (List.getElem_mem _)
 refine List.ext_getElem (by rw [hx,hy]) fun q g1 g2 => ?_
 have hc := encB_col hd hp q (by omega)
 have e1 : (colF (encB d p L) q)[i]'(by unfold colF; rw [List.length_map]; exact hib) = ((encB d p L)[i]'hib)[q]! := by unfold colF; rw [List.getElem_map]
 have e2 : (encW p L q)[i]'(by unfold encW colF; simp; omega) = L[i][q]! := by
  unfold encW
  rw [List.getElem_append_left (by unfold colF; rw [List.length_map]; omega)]
  unfold colF; rw [List.getElem_map]
 have e3 : (colF (encB d p L) q)[i]'(by unfold colF; rw [List.length_map]; exact hib) = (encW p L q)[i]'(by unfold encW colF; simp; omega) := by simp only [hc]
 rw [e1,e2,getElem!_pos _ q g1,getElem!_pos _ q g2] at e3
 exact e3
theorem crE_take {b : List UInt8} (h : b.length = 60) : (crE b).take 60 = b := by
 unfold crE
 rw [List.take_append_of_le_length (by omega),List.take_of_length_le (by omega)]
theorem seal_take {B : List (List UInt8)} (h : ∀ x ∈ B,x.length = 60) : (B.map crE).map (List.take 60) = B := by
 rw [List.map_map]
 conv => rhs; rw [← List.map_id B]
 exact List.map_congr_left fun x hx => crE_take (h x hx)
theorem seal_er {B : List (List UInt8)} (h : ∀ x ∈ B,x.length = 60) : erF (B.map crE) = [] := by
 unfold erF
 rw [List.filter_eq_nil_iff]
 intro i hi
 have hi' : i < B.length := by simpa using hi
 rw [getElem!_pos _ i (by rw [List.length_map]; exact hi'),List.getElem_map,crE_take (h _ (List.getElem_mem hi'))]
 simp
theorem seal_wr {B : List (List UInt8)} (n : Nat) (hn : n ≤ B.length) : wrF B (B.map crE) n = [] := by
 unfold wrF
 rw [List.filter_eq_nil_iff]
 intro i hi
 have hi' : i < B.length := by have := List.mem_range.1 hi; omega
 rw [getElem!_pos (B.map crE) i (by rw [List.length_map]; exact hi'),List.getElem_map,getElem!_pos B i hi']
 simp
theorem strF_filled {A : ArB} {V V' : DevS} {a : Nat} {T : List (List UInt8)} (w : Filled A V V' a T A.S) (k : Nat) (hk : k < A.S) : strF A V' a k = secs A ((T.drop (k * A.D)).take A.D) := by
 have hs := secs_len A ((T.drop (k * A.D)).take A.D)
 refine List.ext_getElem (by rw [strF_len,hs]) fun i h1 h2 => ?_
 have hi : i < A.D + A.P := by rw [strF_len] at h1; exact h1
 have := w.at' k i hk hi
 rw [getElem!_pos _ i h2] at this
 rw [← this]
 simp [strF]
theorem splitT_flat : ∀ (n : Nat) (t : List UInt8),t.length ≤ 60 * n → (splitT t n).flatten = t ++ List.replicate (60 * n - t.length) 0
 | 0,t,h => by
   have : t = [] := List.eq_nil_of_length_eq_zero (by omega)
   subst this; rfl
 | n + 1,t,h => by
   show padT t ++ (splitT (t.drop 60) n).flatten = _
   rw [splitT_flat n (t.drop 60) (by rw [List.length_drop]; omega)]
   unfold padT
   by_cases h60 : t.length ≤ 60
   ·rw [List.take_of_length_le h60,List.drop_of_length_le h60,List.nil_append,List.append_assoc,List.replicate_append_replicate]
    congr 2
    simp only [List.length_nil]; omega
   ·rw [show 60 - t.length = 0 by omega,List.replicate_zero,List.append_nil,← List.append_assoc,List.take_append_drop,List.length_drop]
    congr 2
    omega
theorem chunks_flat (D : Nat) : ∀ (S : Nat) (T : List (List UInt8)),T.length = D * S → ∀ (X : Nat → List (List UInt8)),(∀ k,k < S → X k = (T.drop (k * D)).take D) → ((List.range S).map fun k => (X k).flatten).flatten = T.flatten
 | 0,T,h,X,_ => by
   have : T = [] := List.eq_nil_of_length_eq_zero (by simpa using h)
   subst this; rfl
 | S + 1,T,h,X,hX => by
   have ih := chunks_flat D S (T.take (D * S)) (by rw [List.length_take,h]; exact Nat.min_eq_left (Nat.mul_le_mul_left _ (by omega))) X fun k hk => by
    rw [hX k (by omega),List.drop_take,List.take_take]
    congr 1
    have : (k + 1) * D ≤ S * D := Nat.mul_le_mul_right _ hk
    rw [Nat.add_mul,Nat.one_mul] at this
    rw [Nat.mul_comm D S]
    omega
   rw [List.range_succ,List.map_append,List.flatten_append,ih,List.map_singleton,List.flatten_singleton,hX S (by omega),← List.flatten_append,Nat.mul_comm S D]
   have hd : (T.drop (D * S)).take D = T.drop (D * S) := List.take_of_length_le (by rw [List.length_drop,h,Nat.mul_add]; omega)
   rw [hd,List.take_append_drop]
theorem ldT_eq (A : ArB) (X : Nat → List (List UInt8)) : ∀ k,ldT A X k = ((List.range k).map fun k => ((X k).take A.D).flatten).flatten
 | 0 => rfl
 | k + 1 => by
   show ldT A X k ++ _ = _
   rw [ldT_eq A X k,List.range_succ,List.map_append,List.flatten_append]
   simp
def c24 : AC := sO [oP 0 (.mv kF)] (sO [oP 8 (.build [.int .i64 0,.int .i64 0,.int .i64 0] [(0,1,.const (.int .i64 2)),(1,1,.const (.int .i64 2)),(2,1,.const (.int .i64 1))]),oP 9 (.call 25 [tP 8]),mV 7 9,oP 10 (xR 7 0),oP 11 (xR 7 1),mV 1 10,mV 2 11] (.seq (sO [mV 12 1,oP 13 (.eqv false .ptr (tP 12) (.const (.pointer none))),mV 14 13,gP 15 14 false (.mv (tP 1)),gP 16 14 false (.build [.int .i64 0,.int .i64 0,.int .i64 0] []),gP 17 14 false (.call 27 [tP 16,.const (.string ⟨⟨[97,98,99]⟩⟩)]),gP 18 14 false (.call 26 [tP 15,.const (.int .i64 1),tP 17,.const (.string ⟨⟨[97,98,99]⟩⟩)]),gP 19 14 false (bK .neq 18 0),oP 20 (pT 14 19)] (cT 20 (sO [oP 0 (.mv kF)] .ret) .skip)) (sO [mV 22 1,oP 23 (.call 29 [tP 22,.const (.int .i64 1)]),mV 21 23,oP 24 (xR 21 0),oP 25 (xR 21 1),oP 26 (xR 21 2),oP 27 (xR 21 3),oP 3 (.alloc z36),nP (.store 36 (tP 3) (tP 24)),mV 4 25,mV 5 26,mV 6 27] (sO [mV 28 4,oP 29 (.bin .eql (tP 28) (.const (.string ⟨⟨[97,98,99]⟩⟩))),mV 30 29,gP 31 30 true (.mv (tP 5)),gP 32 30 true (bK .eql 31 0),oP 33 (pF 30 32),mV 34 33,gP 35 34 true (.mv (tP 6)),gP 36 34 true (bK .eql 35 0),oP 37 (pF 34 36),mV 0 37] .ret))))
theorem k24 : compF Tryz.prog Tryz.f24 = some (c24,[0]) := by kernel_rfl
theorem n24 : Tryz.f24.ntmps = 38 := by kernel_rfl
theorem load_filled (A : ArB) (V0 V : DevS) (a : Nat) (ha : a ≤ 2) (x : Hd) (hx : x.hs.length = 32) (img : List UInt8) (hE : txE A.D A.P A.S x img.length = 0) (hsh : x.hs = shaB img) (w : Filled A V0 V a (txL A.D A.P A.S x img) A.S) (h : Heap) (K : ArK h A V) :
  ACalls Tryz.prog 29 [.pointer (some ⟨A.a,0,none⟩),.int .i64 (a : Int)] h fun r h' => r = .tuple #[hv x,.string (bs img),.int .i64 0,.int .i64 0] ∧ ∃ q,ArK h' A (V.wop q) ∧ ArX A h h' := by
 obtain ⟨⟨hd1,hd8⟩,⟨hp2,hp6⟩,hn1,hn8⟩ := right_prop.1 K.rt
 have hT : txL A.D A.P A.S x img = splitT (putH x ++ img) (A.D * A.S) := by
  unfold txL
  rw [if_pos hE]
  have : ((A.D : Int) * A.S) = ((A.D * A.S : Nat) : Int) := by push_cast; rfl
  rw [this]; rfl
 have hcond : right A.D A.P A.S = true ∧ rightH x ∧ x.n = img.length ∧ (img.length : Int) ≤ roomF A.D A.P A.S := by
  unfold txE at hE
  split at hE
  ·rename_i q
   refine ⟨q.1,q.2.1,q.2.2,?_⟩
   split at hE
   ·omega
   ·omega
  ·omega
 obtain ⟨_,hR,hn,hroom⟩ := hcond
 rw [hT] at w
 have hTl := splitT_len (putH x ++ img) (A.D * A.S)
 have hT60 := splitT_60 (putH x ++ img) (A.D * A.S)
 have hpl : (putH x).length = 48 := putH_len hx
 have hroomv : roomF A.D A.P A.S = max (60 * ((A.D * A.S : Nat) : Int) - 48) 0 := by
  unfold roomF
  rw [if_pos K.rt]
  push_cast; rfl
 have hfit : (putH x ++ img).length ≤ 60 * (A.D * A.S) := by
  have : 1 ≤ A.D * A.S := Nat.mul_pos (by omega) (by omega)
  rw [List.length_append,hpl]; omega
 have hTf := splitT_flat (A.D * A.S) (putH x ++ img) hfit
 obtain ⟨T,hTe⟩ : ∃ T,splitT (putH x ++ img) (A.D * A.S) = T := ⟨_,rfl⟩
 rw [hTe] at w hTl hT60 hTf
 have hLk : ∀ k,k < A.S → ((T.drop (k * A.D)).take A.D).length = A.D ∧ ∀ y ∈ (T.drop (k * A.D)).take A.D,y.length = 60 := fun k hk => by
  refine ⟨?_,fun y hy => hT60 y (List.mem_of_mem_drop (List.mem_of_mem_take hy))⟩
  have : (k + 1) * A.D ≤ A.S * A.D := Nat.mul_le_mul_right _ hk
  rw [Nat.add_mul,Nat.one_mul,Nat.mul_comm A.S] at this
  rw [List.length_take,List.length_drop,hTl]; omega
 obtain ⟨X,hXd⟩ : ∃ X : Nat → List (List UInt8),X = fun k => encB A.D A.P ((T.drop (k * A.D)).take A.D) := ⟨_,rfl⟩
 have hX : ∀ k,k < A.S → (X k).length = A.D + A.P ∧ ∀ y ∈ X k,y.length = 60 := fun k hk => by subst hXd; exact ⟨encB_len _ _ _,encB_60 _ _ _⟩
 have hXD : ∀ k,k < A.S → (X k).take A.D = (T.drop (k * A.D)).take A.D := fun k hk => by subst hXd; exact encB_data (hLk k hk).1 (by omega) (hLk k hk).2
 have hld : ldT A X A.S = T.flatten := by
  rw [ldT_eq]
  exact chunks_flat A.D A.S T hTl (fun k => (X k).take A.D) hXD
 have hst : ∀ k,k < A.S → strF A V a k = (X k).map crE := fun k hk => by rw [strF_filled w k hk,hXd]; rfl
 have hW : ∀ k,k ≤ A.S → ldW A V a X k = 0 := fun k => by
  induction k with
  | zero => intro _; rfl
  | succ k ih =>
    intro hk
    show ldW A V a X k + _ = 0
    rw [ih (by omega),hst k (by omega),seal_wr _ (by rw [(hX k (by omega)).1]; omega)]
    rfl
 have hg : getH (ldT A X A.S) = (x,0) := by rw [hld,hTf,List.append_assoc]; exact get_put hx hR _
 have him : ((ldT A X A.S).drop 48).take img.length = img := by
  rw [hld,hTf,List.append_assoc,List.drop_append_of_le_length (by omega),List.drop_of_length_le (by omega),List.nil_append,List.take_append_of_le_length (Nat.le_refl _),List.take_of_length_le (Nat.le_refl _)]
 have key := load_ok A V a ha X hX x hx img hg hn (by rw [hn]; exact hroom) him hsh h K fun k hk H v ck sv' => by
  have hs := hst k hk
  have hl64 : ∀ y ∈ strF A V a k,y.length = 64 := fun y hy => by
   rw [hs] at hy
   obtain ⟨z,hz,rfl⟩ := List.mem_map.1 hy
   rw [crE_len,(hX k hk).2 z hz]
  have htk : (strF A V a k).map (List.take 60) = X k := by rw [hs]; exact seal_take (hX k hk).2
  have := cread_right A.c A.k A.s A.f A.gw A.D A.P A.S K.rt (strF A V a k) hl64 (strF_len _ _ _ _) v H ck sv' (by rw [hs,seal_er (hX k hk).2]; exact Nat.zero_le _) (fun q hq => by rw [htk,hXd]; exact encB_right (hLk k hk).1 (by omega) q hq)
  rw [htk] at this
  exact this
 rw [hW A.S (Nat.le_refl _)] at key
 exact key
theorem secs_free {D P S : Nat} (n i : Nat) (h : i < n) : (dev0 n).lock[i]! = false := by
 show (List.replicate n false)[i]! = false
 rw [getElem!_pos _ i (by simpa using h)]
 simp
theorem arawake_ok (h : Heap) : ACalls Tryz.prog 24 [] h fun v h' => v = .bool true ∧ h' = h := by
 refine ACalls.same .bool (acalls_of mix Tryz.func24 k24 n24 (by simp) fun hcl hb => ?_)
 have hq := ptrq
 have fil1 : afill [.int .i64 0,.int .i64 0,.int .i64 0] [(0,1,.int .i64 2),(1,1,.int .i64 2),(2,1,.int .i64 1)] = some [.int .i64 2,.int .i64 2,.int .i64 1] := rfl
 have fil0 : afill [.int .i64 0,.int .i64 0,.int .i64 0] [] = some [.int .i64 0,.int .i64 0,.int .i64 0] := rfl
 have hg : (.agg #[.int .i64 2,.int .i64 2,.int .i64 1] : Value) = gv ((2 : Nat) : Int) ((2 : Nat) : Int) ((1 : Nat) : Int) := rfl
 have h30 : (.agg #[.int .i64 0,.int .i64 0,.int .i64 0] : Value) = v3 0 0 0 := rfl
 simp only [c24,s_seq,s_ops]
 simp [fil1,hg]
 refine (fresh_ok 2 2 1 (by decide) h).mono' ?_
 rintro _ H1 c1 _ ⟨A,rfl,K1,g1,ha,hd,hx,hy,hz,hD,hP,hS⟩
 simp [hq,fil0,h30,bs_lit]
 refine (hof_ok 0 0 0 [97,98,99] (by simp) H1).eqK ?_
 have hE : txE A.D A.P A.S ⟨0,0,0,(([97,98,99] : List UInt8).length : Int),shaB [97,98,99]⟩ ([97,98,99] : List UInt8).length = 0 := by
  rw [hD,hP,hS]
  unfold txE
  rw [if_pos ⟨by decide,⟨fun j hj => by
   match j,hj with
   | 0,_ => exact (by unfold rng Hd.vs; decide)
   | 1,_ => exact (by unfold rng Hd.vs; decide)
   | 2,_ => exact (by unfold rng Hd.vs; decide),by decide,by decide⟩,rfl⟩]
  rfl
 simp only [List.length_cons,List.length_nil] at hE ⊢
 obtain ⟨xB,hxB⟩ : ∃ xB : Hd,(⟨0,0,0,((0 + 1 + 1 + 1 : Nat) : Int),shaB [97,98,99]⟩ : Hd) = xB := ⟨_,rfl⟩
 have hsB : xB.hs = shaB [97,98,99] := by rw [← hxB]
 have hx32 : xB.hs.length = 32 := by rw [hsB]; exact shaB_len _
 rw [hxB] at hE ⊢
 have hlk1 : ∀ k i,k < A.S → i < A.D + A.P → (dev0 (allS ((2 : Nat) : Int) ((2 : Nat) : Int) ((1 : Nat) : Int)).toNat).lock[secN A.D A.P A.S 1 k i]! = false := fun k i hk hi => secs_free (D := 2) (P := 2) (S := 1) _ _ (by
  have := (secN_lt K1.rt (a := 1) (by omega) hk hi).1
  rw [hD,hP,hS] at this
  rw [hD,hP,hS]
  omega)
 simp
 refine (fill_ok A _ 1 (by omega) xB hx32 [97,98,99] (by simp) hE H1 K1 hlk1).mono' ?_
 rintro _ H2 c2 _ ⟨rfl,V2,K2,w2,g2⟩
 simp
 refine (load_filled A _ V2 1 (by omega) xB hx32 [97,98,99] hE hsB w2 H2 K2).mono' ?_
 rintro _ H3 c3 _ ⟨rfl,q,K3,g3⟩
 have hlen : (hc xB).length = 36 := by simp [hc,ubs_len,hx32]
 have hz36 : z36.length = 36 := by rw [z36_eq]; simp [hc,ubs_len,zH,z32]
 have hpx : aput z36 0 (hc xB) = hc xB := by
  unfold aput
  rw [hlen,List.drop_eq_nil_of_le (by rw [hz36]; omega)]
  simp
 have fz := cellsOf_new H3 z36 .ex 1
 simp [fz,m_hv,m_hc,hlen,hz36,hpx,set_push]
 have g23 := Xd.trans g2 g3
 refine ⟨by have := g1.n; have := g23.n; show h.n ≤ H3.n + 1; omega,fun u ob e => ?_⟩
 have hu := (hcl u ob e).1
 have := g23.m u ob (g1.m u ob e) (by omega) (by omega) (by omega) (by omega)
 exact keep_push c3 _ u ob this
section
open Go.RowKit Go.ChangeShapes Go.WideShapes
variable {H : Type} {P : Program} {W : World} {enc : TypeId × Value → H}
def FlatK (enc : TypeId × Value → H) (P : Program) (W : World) (t : TypeId) (K : List IntKind) : Prop :=
 P.cellsOf t = K.length ∧ ∀ b sp hh fuel cs x,DataW.trod enc P W b sp hh fuel t cs = some x → cs.length = K.length ∧ ∀ j,j < K.length → ∃ n,cs[j]? = some (Value.int (K.getD j .i64) n) ∧ (Lit.int (K.getD j .i64) n).wf = true
theorem flatK_int {t : TypeId} {k : IntKind} (h : P.underlying t = some (.int k)) (h1 : P.cellsOf t = 1) : FlatK enc P W t [k] := ⟨h1,fun b sp hh fuel cs x hx => by
 obtain ⟨n,hn,_,wf⟩ := DataW.trod_int h hx
 rw [hn]
 refine ⟨rfl,fun j hj => ?_⟩
 have : j = 0 := by simpa using hj
 subst this
 exact ⟨n,rfl,wf⟩⟩
theorem flatK_struct {t : TypeId} {fs : Array Field} {K : List IntKind} (h : P.underlying t = some (.struct fs)) (hK : P.cellsOf t = K.length)
  (cover : ∀ j,j < K.length → ∃ (i : Nat) (f : Field) (Kf : List IntKind),fs[i]? = some f ∧ f.offset ≤ j ∧ j < f.offset + Kf.length ∧ FlatK enc P W f.type Kf ∧ Kf.getD (j - f.offset) .i64 = K.getD j .i64) : FlatK enc P W t K := ⟨hK,fun b sp hh fuel cs x hx => by
 obtain ⟨xs,m,_,_,hl0,hl,hi⟩ := DataW.trod_struct h hx
 refine ⟨by rw [hl0,hK],fun j hj => ?_⟩
 obtain ⟨i,f,Kf,hf,h1,h2,h3,h4⟩ := cover j hj
 have hx2 := hi i f hf
 have hif : i < fs.size := (Array.getElem?_eq_some_iff.1 hf).1
 rw [List.getElem?_eq_getElem (by omega),h3.1] at hx2
 obtain ⟨m', hm1, hm2⟩ := (h3.2 _ _ _ _ _ _ hx2).2 (j - f.offset) (by omega)
 rw [h4] at hm1 hm2
 rw [List.getElem?_take,if_pos (by omega),List.getElem?_drop,show f.offset + (j - f.offset) = j by omega] at hm1
 exact ⟨m', hm1, hm2⟩⟩
end
theorem u8_of {n : Int} (h : (Lit.int .u8 n).wf = true) : ∃ c : UInt8,n = (c.toNat : Int) := by
 simp [Lit.wf,IntKind.min,IntKind.max,IntKind.signed,IntKind.bits] at h
 refine ⟨UInt8.ofNat n.toNat,?_⟩
 simp
 omega
end Go.Proofs.YtdnmkenamgfjoaaGreat.arbf
