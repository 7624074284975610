/-
 Contracts.
-/
import Derived.Test.YtdnmkenamgfjoaaGreatArbc
import Derived.IntWalk
import Derived.KernelRfl
set_option linter.unusedSimpArgs false
set_option linter.unusedVariables false
set_option linter.unusedSectionVars false
namespace Go.Proofs.YtdnmkenamgfjoaaGreat.arbd
open Go Go.Ab Go.Proofs Go.RowKit str vers lin1 sha arba arbb arbc
variable [Inhabited TabBox]
variable [Nonempty GF]
variable [Nonempty GE]
set_option maxRecDepth 100000
def c59 : AC := sO [oP 1 (.box (tP 0)),oP 2 (.mv (.const (.pointer none))),oP 3 (.mv (kI 0))] (.seq (.draw [([oP 8 (.load (some 3) (tP 1)),oP 10 (fA 0 1),oP 11 (lN 10)],[oP 7 (.call 94 [])],[oP 8 (.load (some 3) (tP 1)),oP 11 (lN 10)]),([],[oP 9 (.call 70 [tP 8])],[oP 11 (lN 10)]),([],[oP 12 (.call 93 [tP 7,tP 9,tP 11])],[]),([mV 6 12,oP 13 (xR 6 0),oP 14 (xR 6 1),mV 4 13,mV 5 14],[],[])]) (.seq (sO [oP 15 (.load (some 3) (tP 1)),oP 16 (.call 47 [tP 15]),oP 17 (.un .not (tP 16)),mV 18 17,gP 19 18 false (.mv (tP 5)),gP 20 18 false (bK .neq 19 0),oP 21 (pT 18 20)] (cT 21 (sO [oP 2 (.mv (.const (.pointer none))),oP 3 (.mv (kI 1))] .ret) .skip)) (.seq (.draw [([mV 22 4,oP 23 (.load (some 3) (tP 1))],[oP 24 (.call 95 [])],[oP 23 (.load (some 3) (tP 1))]),([oP 25 (.build [.pointer none,.int .i64 0,.int .i64 0,.int .i64 0,.pointer none] [(0,1,.tmp 22),(1,3,.tmp 23),(4,1,.tmp 24)])],[oP 26 (.box (tP 25))],[]),([mV 2 26,oP 3 (.mv (kI 0))],[],[])]) .ret)))
theorem k59 : compF Tryz.prog Tryz.f59 = some (c59,[2,3]) := by kernel_rfl
theorem n59 : Tryz.f59.ntmps = 27 := by kernel_rfl
def c56 : AC := sO [oP 2 (.alloc [.int .i64 0,.int .i64 0,.int .i64 0])] (.seq (sO [mV 3 0,oP 4 (.eqv false .ptr (tP 3) (.const (.pointer none)))] (cT 4 (sO [oP 5 (.build [.int .i64 0,.int .i64 0,.int .i64 0] []),nP (.store 3 (tP 2) (tP 5))] .ret) .skip)) (sO [mV 6 0,oP 7 (nC 6),oP 8 (fA 1 7),oP 9 (.load (some 3) (tP 8)),nP (.store 3 (tP 2) (tP 9))] .ret))
theorem k56 : compR Tryz.prog Tryz.f56 = some (c56,[.c 2 (some 3)]) := by kernel_rfl
theorem n56 : Tryz.f56.ntmps = 10 := by kernel_rfl
theorem _root_.Go.Proofs.YtdnmkenamgfjoaaGreat.lin1.LAt.up {h H : Heap} {esz n : Nat} {nm : Option Nat} {v : Value} {cells : List Value} (q : LAt h esz nm v n cells) (k : ∀ x,nm = some x → ∀ ob,h.m x = some ob → H.m x = some ob) : LAt H esz nm v n cells := by
 rcases q with q | ⟨u,md,e,h1,h2,h3,h4⟩
 ·exact .inl q
 ·refine .inr ⟨u,md,e,h1,h2,?_,h4⟩
  have := m_of_cells h3
  have := k u h1 _ this
  unfold Heap.cellsOf
  rw [this]
def frm (h : Heap) (n : Nat) : Heap := ⟨fun u => if n ≤ u then h.m u else none,h.n⟩
theorem from_m {h : Heap} {n u : Nat} {ob : AObj} (e : (frm h n).m u = some ob) : n ≤ u ∧ h.m u = some ob := by
 unfold frm at e
 dsimp only at e
 split at e
 ·exact ⟨by assumption,e⟩
 ·cases e
theorem from_gr {h : Heap} (hc : h.Closed) (n : Nat) : Gr (frm h n) h := ⟨Nat.le_refl _,hc,fun u ob e => (from_m e).2⟩
theorem from_cells {h : Heap} {n u : Nat} {x} (hu : n ≤ u) (e : h.cellsOf u = some x) : (frm h n).cellsOf u = some x := by
 unfold Heap.cellsOf frm at *
 dsimp only
 rw [if_pos hu]; exact e
theorem from_lat {h : Heap} {n0 esz n : Nat} {nm : Option Nat} {v : Value} {cells : List Value} (hx : ∀ x,nm = some x → n0 ≤ x) (l : LAt h esz nm v n cells) : LAt (frm h n0) esz nm v n cells := by
 rcases l with q | ⟨u,md,e,h1,h2,h3,h4⟩
 ·exact .inl q
 ·exact .inr ⟨u,md,e,h1,h2,from_cells (hx u h1) h3,h4⟩
theorem from_cut {h : Heap} {n : Nat} {v : Value} (c : Cut1 h v) : Cut1 (frm h n) v := fun b o n' c' cs m e h1 h2 => by
 refine c b o n' c' cs m e h1 ?_
 unfold Heap.cellsOf frm at h2
 dsimp only at h2
 unfold Heap.cellsOf
 split at h2
 ·rename_i hm
  split at hm
  ·rw [hm]; exact h2
  ·cases hm
 ·cases h2
structure CodK (H : Heap) (c k s f : Nat) (gw : Value) (d p n : Nat) : Prop where
 cc : H.cellsOf c = some ([.pointer (some ⟨k,0,none⟩),.int .i64 d,.int .i64 p,.int .i64 n,.pointer (some ⟨s,0,none⟩)],.ex,1)
 ck : CodeK H k f (d + p) d gw
 cs : CrcK H s
theorem CodK.keep {H H' : Heap} {c k s f : Nat} {gw : Value} {d p n : Nat} (q : CodK H c k s f gw d p n) (g : Gr H H') : CodK H' c k s f gw d p n := ⟨cellsOf_keep g.m q.cc,q.ck.keep g,q.cs.keep g.m⟩
def gc0 : List Value := [.int .i64 0,.int .i64 0,.int .i64 0]
theorem gc0_eq : ([.int .i64 0,.int .i64 0,.int .i64 0] : List Value) = gc0 := rfl
theorem cgeo_ok (c k s f : Nat) (gw : Value) (d p n : Nat) (h : Heap) (hk : CodK h c k s f gw d p n) : ACalls Tryz.prog 56 [.pointer (some ⟨c,0,none⟩)] h fun r h' => r = gv d p n ∧ h' = h := by
 refine ACalls.same (.agg fun i hi => ?_) ?_
 ·match i,hi with
  | 0,_ => exact .int
  | 1,_ => exact .int
  | 2,_ => exact .int
 ·refine acalls_ofR mix Tryz.func56 k56 n56 (by simp) fun hcl hb => ?_
  have hq := ptrq
  have c1 := hk.cc
  have k1 := cellsOf_keep (keep_push hcl (.cells (gc0 : List Value) .ex 1)) c1
  have fz := cellsOf_new h gc0 .ex 1
  have fx := cellsOf_new h [.int .i64 (d : Int),.int .i64 (p : Int),.int .i64 (n : Int)] .ex 1
  have hac : acut [.pointer (some ⟨k,0,none⟩),.int .i64 (d : Int),.int .i64 (p : Int),.int .i64 (n : Int),.pointer (some ⟨s,0,none⟩)] 1 3 = some [.int .i64 (d : Int),.int .i64 (p : Int),.int .i64 (n : Int)] := rfl
  have hac2 : acut [.int .i64 (d : Int),.int .i64 (p : Int),.int .i64 (n : Int)] 0 3 = some [.int .i64 (d : Int),.int .i64 (p : Int),.int .i64 (n : Int)] := rfl
  have hput : aput gc0 0 [.int .i64 (d : Int),.int .i64 (p : Int),.int .i64 (n : Int)] = [.int .i64 (d : Int),.int .i64 (p : Int),.int .i64 (n : Int)] := rfl
  have hm : mcells (.agg #[.int .i64 (d : Int),.int .i64 (p : Int),.int .i64 (n : Int)]) = some [.int .i64 (d : Int),.int .i64 (p : Int),.int .i64 (n : Int)] := rfl
  have hl0 : (gc0 : List Value).length = 3 := rfl
  simp [c56,hq,c1,apart,gc0_eq,k1,hac,hac2,fz,fx,hm,hput,hl0,set_push]
  exact ⟨rfl,(Heap.Ext.refl h).push hcl _⟩
theorem snew_ok (d p n : Nat) (hr : right d p n = true) (h : Heap) : ACalls Tryz.prog 59 [gv d p n] h fun r h' => ∃ c k s f gw,r = .tuple #[.pointer (some ⟨c,0,none⟩),.int .i64 0] ∧ CodK (frm h' h.n) c k s f gw d p n ∧ Gr h h' ∧ h.n ≤ c := by
 refine acalls_of mix Tryz.func59 k59 n59 (by simp) fun hcl hb => ?_
 obtain ⟨⟨hd1,hd8⟩,⟨hp2,hp6⟩,hn1,hn8⟩ := right_prop.1 hr
 have hm : mcells (gv d p n) = some [.int .i64 (d : Int),.int .i64 (p : Int),.int .i64 (n : Int)] := rfl
 have hw : wide d p n = ((d + p : Nat) : Int) := by unfold wide; rw [if_pos hr]; omega
 have hac2 : acut [.int .i64 (d : Int),.int .i64 (p : Int),.int .i64 (n : Int)] 0 3 = some [.int .i64 (d : Int),.int .i64 (p : Int),.int .i64 (n : Int)] := rfl
 have hgv : (.agg #[.int .i64 (d : Int),.int .i64 (p : Int),.int .i64 (n : Int)] : Value) = gv d p n := rfl
 have f1 := cellsOf_new h [.int .i64 (d : Int),.int .i64 (p : Int),.int .i64 (n : Int)] .ex 1
 have c1 : (h.push (.cells [.int .i64 (d : Int),.int .i64 (p : Int),.int .i64 (n : Int)] .ex 1)).Closed := closed_push hcl (fun x hx => by simp at hx; rcases hx with rfl | rfl | rfl <;> exact .int)
 have g1 : Gr h (h.push (.cells [.int .i64 (d : Int),.int .i64 (p : Int),.int .i64 (n : Int)] .ex 1)) := ⟨Nat.le_succ _,c1,keep_push hcl _⟩
 simp [c59,hm,f1,hac2,apart,hgv]
 generalize h.push (.cells [.int .i64 (d : Int),.int .i64 (p : Int),.int .i64 (n : Int)] .ex 1) = H1 at *
 refine (gfnew_ok H1).eqK ?_
 have c2 : (H1.push (.cells (fldC 255) .ex 1)).Closed := closed_push c1 fldC_bel
 have g2 : Gr h (H1.push (.cells (fldC 255) .ex 1)) := g1.trans ⟨Nat.le_succ _,c2,keep_push c1 _⟩
 have f2 := cellsOf_keep (keep_push c1 (.cells (fldC 255) .ex 1)) f1
 have hf : GfK (H1.push (.cells (fldC 255) .ex 1)) H1.n := cellsOf_new _ _ _ _
 generalize H1.push (.cells (fldC 255) .ex 1) = H2 at *
 simp [f2,hac2,apart,hgv]
 refine (wide_ok d p n H2).eqK ?_
 rw [hw]
 simp [f2,hac2,apart,hgv,-Int.natCast_add]
 refine (rsnew_ok H1.n (d + p) d (by omega) (by omega) (by omega) (by omega) H2 hf).mono' ?_
 rintro _ H3 c3 _ ⟨k,gw,rfl,ck,g3,hkn,nm,lg,xg⟩
 have g4 := g2.trans g3
 have f3 := cellsOf_keep g3.m f2
 have hg0 : (d : Int) = (d : Int) := rfl
 simp [f3,hac2,apart,hgv]
 refine (rightG_ok d p n H3).eqK ?_
 rw [hr]
 simp [aun,f3,hac2,apart,hgv]
 refine (crcnew_ok H3).eqK ?_
 have c5 : (H3.push (.cells (crcC 256) .ex 1)).Closed := closed_push c3 crcC_bel
 have g5 : Gr H3 (H3.push (.cells (crcC 256) .ex 1)) := ⟨Nat.le_succ _,c5,keep_push c3 _⟩
 have f5 := cellsOf_keep g5.m f3
 have hs : CrcK (H3.push (.cells (crcC 256) .ex 1)) H3.n := cellsOf_new _ _ _ _
 have ck5 := ck.keep g5
 have bk := cellsOf_lt c5 ck5.1
 have bs5 := cellsOf_lt c5 hs
 have g6 := g4.trans g5
 generalize H3.push (.cells (crcC 256) .ex 1) = H5 at *
 have fil : afill [.pointer none,.int .i64 0,.int .i64 0,.int .i64 0,.pointer none] [(0,1,.pointer (some ⟨k,0,none⟩)),(1,3,gv d p n),(4,1,.pointer (some ⟨H3.n,0,none⟩))] = some [.pointer (some ⟨k,0,none⟩),.int .i64 d,.int .i64 p,.int .i64 n,.pointer (some ⟨H3.n,0,none⟩)] := rfl
 have hm5 : ∀ l : List Value,mcells (.agg l.toArray) = some l := fun l => rfl
 simp [f5,hac2,apart,hgv,fil,mcells]
 have c7 : (H5.push (.cells [.pointer (some ⟨k,0,none⟩),.int .i64 d,.int .i64 p,.int .i64 n,.pointer (some ⟨H3.n,0,none⟩)] .ex 1)).Closed := closed_push c5 (fun x hx => by
  simp at hx
  rcases hx with rfl | rfl | rfl | rfl | rfl
  ·exact .ptr (by show k < _; omega)
  ·exact .int
  ·exact .int
  ·exact .int
  ·exact .ptr (by show H3.n < _; omega))
 have g7 : Gr H5 (H5.push (.cells [.pointer (some ⟨k,0,none⟩),.int .i64 d,.int .i64 p,.int .i64 n,.pointer (some ⟨H3.n,0,none⟩)] .ex 1)) := ⟨Nat.le_succ _,c7,keep_push c5 _⟩
 have gg := g6.trans g7
 have n1h := g1.n
 have n2h := g2.n
 have n4h := g4.n
 have n6h := g6.n
 have ckF := ck5.keep g7
 have lgF : LAt (H5.push (.cells [.pointer (some ⟨k,0,none⟩),.int .i64 d,.int .i64 p,.int .i64 n,.pointer (some ⟨H3.n,0,none⟩)] .ex 1)) 1 nm gw _ _ := lg.up fun u e ob e2 => g7.m u ob (g5.m u ob e2)
 refine ⟨⟨k,H3.n,H1.n,gw,⟨from_cells n6h (cellsOf_new _ _ _ _),⟨from_cells (by omega) ckF.1,from_cells n1h ckF.2.1,?_,?_⟩,from_cells n4h (hs.keep g7.m)⟩⟩,gg,n6h⟩
 ·exact LAt.sl (from_lat (fun x e => Nat.le_trans n2h (xg x e)) lgF)
 ·exact from_cut ckF.2.2.2
def c98_2 : AC := sO [oP 53 (bT .lss 52 51)] (.seq (cT 53 .skip (.exit 2)) (.seq (.block 3 (sO [oP 54 (iA 60 50 52),oP 55 (.load (some 60) (tP 54)),oP 12 (.alloc (zl .u8 60)),nP (.store 60 (tP 12) (tP 55))] (.draw [([mV 56 10,mV 57 0,oP 58 (nC 57),oP 59 (fA 4 58),oP 60 (lN 59),oP 61 (.load (some 60) (tP 12))],[oP 62 (.call 75 [tP 60,tP 61])],[]),([],[oP 63 (.buildS 1 [.string ⟨⟨[]⟩⟩] [(0,1,.tmp 62)])],[]),([],[oP 64 (.app 1 16 9 (tP 56) (tP 63))],[]),([],[mV 10 64],[]),([],[],[])]))) (.ops [oP 65 (bK .add 52 1),mV 52 65])))
def c98_0 : AC := sO [oP 32 (bK .lss 31 60)] (.seq (cT 32 .skip (.exit 0)) (.seq (.block 1 (sO [mV 33 31,mV 7 33] (.seq (.draw [([mV 35 0,oP 36 (nC 35),oP 37 (fA 0 36),oP 38 (lN 37),mV 39 1,mV 40 7],[oP 41 (.call 107 [tP 39,tP 40])],[oP 38 (lN 37)]),([],[oP 42 (.call 129 [tP 38,tP 41])],[]),([mV 34 42,oP 43 (xR 34 0),oP 44 (xR 34 1),mV 8 43,mV 9 44],[],[])]) (.ops [mV 45 6,mV 46 7,mV 47 8,oP 48 (.call 108 [tP 45,tP 46,tP 47])])))) (.ops [oP 49 (bK .add 31 1),mV 31 49])))
def c98 : AC := sO [oP 4 (.mv (.const (.slice none 0 0))),oP 5 (.mv (kI 0))] (.seq (sO [mV 13 0,oP 14 (.eqv false .ptr (tP 13) (.const (.pointer none))),mV 15 14,gP 16 15 false (.mv (tP 1)),gP 17 15 false (lS 16),gP 18 15 false (.mv (tP 0)),gP 19 15 false (nC 18),gP 20 15 false (fA 1 19),gP 21 15 false (fA 0 20),gP 22 15 false (lN 21),gP 23 15 false (bT .neq 17 22),oP 24 (pT 15 23)] (cT 24 (sO [oP 4 (.mv (.const (.slice none 0 0))),oP 5 (.mv (kI 1))] .ret) .skip)) (sO [mV 25 0,oP 26 (nC 25),oP 27 (fA 1 26),oP 28 (.load (some 3) (tP 27)),oP 29 (.call 70 [tP 28]),oP 30 (.mkSl (zl .u8 60) 60 (tP 29) (tP 29)),mV 6 30] (.seq (sO [oP 31 (.mv (kI 0))] (.block 0 (.loop c98_0))) (sO [oP 10 (.mv (.const (.slice none 0 0)))] (.seq (sO [mV 50 6,oP 51 (lS 50),oP 52 (.mv (kI 0))] (.block 2 (.loop c98_2))) (sO [mV 66 10,mV 4 66,oP 5 (.mv (kI 0))] .ret))))))
theorem k98 : compF Tryz.prog Tryz.f98 = some (c98,[4,5]) := by kernel_rfl
theorem n98 : Tryz.f98.ntmps = 67 := by kernel_rfl
def encW (p : Nat) (L : List (List UInt8)) (q : Nat) : List UInt8 := colF L q ++ Pl.parF p (colF L q)
def foldE (d p : Nat) (L : List (List UInt8)) : Nat → List (List UInt8)
 | 0 => List.replicate (d + p) (List.replicate 60 0)
 | a + 1 => setK (foldE d p L a) a (encW p L a) (d + p)
def encB (d p : Nat) (L : List (List UInt8)) : List (List UInt8) := foldE d p L 60
theorem foldE_len (d p : Nat) (L : List (List UInt8)) : ∀ a,(foldE d p L a).length = d + p
 | 0 => by simp [foldE]
 | a + 1 => by show (setK _ _ _ _).length = _; rw [setK_len]; exact foldE_len d p L a
theorem foldE_60 (d p : Nat) (L : List (List UInt8)) : ∀ a,∀ x ∈ foldE d p L a,x.length = 60
 | 0 => fun x hx => by
   have : x = List.replicate 60 0 := List.eq_of_mem_replicate (show x ∈ List.replicate (d + p) (List.replicate 60 0) from hx)
   rw [this]; rfl
 | a + 1 => setK_60 (foldE_60 d p L a) a _ _ (by rw [foldE_len]; omega)
def NewS (h H : Heap) (v : Value) (l : List (List UInt8)) : Prop := ∃ nm,LAt H 1 nm v l.length (l.map sv) ∧ (∀ x,nm = some x → h.n ≤ x) ∧ Gr h H
theorem NewS.nil {h : Heap} (hc : h.Closed) : NewS h h (.slice none 0 0) [] := ⟨none,.inl ⟨rfl,rfl,rfl,rfl⟩,fun _ e => (by cases e),⟨Nat.le_refl _,hc,fun _ _ e => e⟩⟩
theorem NewS.gr {h H : Heap} {v : Value} {l : List (List UInt8)} (n : NewS h H v l) : Gr h H := by obtain ⟨_,_,_,g⟩ := n; exact g
theorem NewS.grow {a b c : Heap} {v : Value} {l : List (List UInt8)} (n : NewS a b v l) (g : Gr b c) : NewS a c v l := by
 obtain ⟨nm,q,x,y⟩ := n
 refine ⟨nm,?_,x,y.trans g⟩
 rcases q with q | ⟨u,md,e,h1,h2,h3,h4⟩
 ·exact .inl q
 ·exact .inr ⟨u,md,e,h1,h2,cellsOf_keep g.m h3,h4⟩
theorem NewS.from {a b c : Heap} {v : Value} {l : List (List UInt8)} (g : Gr a b) (n : NewS b c v l) : NewS a c v l := by
 obtain ⟨nm,q,x,y⟩ := n
 exact ⟨nm,q,fun u e => Nat.le_trans g.n (x u e),g.trans y⟩
theorem NewS.below {h H : Heap} {v : Value} {l : List (List UInt8)} (n : NewS h H v l) : VBelow H.n v := by
 obtain ⟨nm,q,x,y⟩ := n
 rcases q with ⟨_,rfl,_,_⟩ | ⟨u,md,e,h1,rfl,h3,h4⟩
 ·exact .snil
 ·exact .slice (cellsOf_lt y.cl h3)
theorem NewS.text {h H : Heap} {v : Value} {l : List (List UInt8)} (hc : h.Closed) (n : NewS h H v l) (y : List UInt8) (hl : l.length ≤ 1000000) : ∃ a,v = .slice a l.length l.length ∧ ∃ v2 H2,aapp (H.push (.cells [sv y] .ex 1)) 9 1 16 a l.length l.length [sv y] 1 = some (v2,H2) ∧ NewS h H2 v2 (l ++ [y]) := by
 obtain ⟨nm,q,hx,g⟩ := n
 have cp : (H.push (.cells [sv y] .ex 1)).Closed := closed_push g.cl (fun x hx => by simp at hx; subst hx; exact .string)
 have q2 : LAt (H.push (.cells [sv y] .ex 1)) 1 nm v l.length (l.map sv) := by
  rcases q with q | ⟨u,md,e,h1,h2,h3,h4⟩
  ·exact .inl q
  ·exact .inr ⟨u,md,e,h1,h2,cellsOf_keep (keep_push g.cl _) h3,h4⟩
 obtain ⟨a,e,v2,H2,happ,l2,k2,n2,c2⟩ := lat_app (t := 9) (bytes := 16) (k := 1) (new := [sv y]) cp q2 (by omega) (by simp) (fun x hx => by simp at hx; subst hx; exact .string) (by omega)
 refine ⟨a,e,v2,H2,happ,some (H.n + 1),?_,fun x e => by cases e; have := g.n; omega,⟨by rw [n2]; have := g.n; show h.n ≤ H.n + 1 + 1; omega,c2,fun u ob e => k2 u ob (keep_push g.cl _ u ob (g.m u ob e)) fun q => by have := hx u q; have := (hc u ob e).1; omega⟩⟩
 rw [List.map_append,List.length_append]
 exact l2
structure EnS where
 i : Nat
 v : Value
 H : Heap
theorem cenc_ok (c k s f : Nat) (gw : Value) (d p n : Nat) (hr : right d p n = true) (L : List (List UInt8)) (hLd : L.length = d) (v : Value) (h : Heap) (hk : CodK h c k s f gw d p n) (hl : BlS h v L) :
  ACalls Tryz.prog 98 [.pointer (some ⟨c,0,none⟩),v] h fun r h' => ∃ vr,r = .tuple #[vr,.int .i64 0] ∧ NewS h h' vr ((encB d p L).map crE) := by
 refine acalls_of mix Tryz.func98 k98 n98 (by simp) fun hcl hb => ?_
 obtain ⟨⟨hd1,hd8⟩,⟨hp2,hp6⟩,hn1,hn8⟩ := right_prop.1 hr
 have hq := ptrq
 have hw : wide d p n = ((d + p : Nat) : Int) := by unfold wide; rw [if_pos hr]; omega
 have c1 := hk.cc
 have hac : acut [.pointer (some ⟨k,0,none⟩),.int .i64 (d : Int),.int .i64 (p : Int),.int .i64 (n : Int),.pointer (some ⟨s,0,none⟩)] 1 3 = some [.int .i64 (d : Int),.int .i64 (p : Int),.int .i64 (n : Int)] := rfl
 have hgv : (.agg #[.int .i64 (d : Int),.int .i64 (p : Int),.int .i64 (n : Int)] : Value) = gv d p n := rfl
 obtain ⟨a,cc,rfl⟩ := hl.form
 have bl := hl.below hcl
 have bc := cellsOf_lt hcl c1
 have hLi : (L.length : Int) = (d : Int) := by omega
 simp [c98,hq,c1,apart,alen,hac,hgv,hLi]
 refine (wide_ok d p n h).eqK ?_
 rw [hw]
 have hwm : ((d + p : Nat) : Int) * 61 ≤ 1099511627776 := by omega
 have hz : (List.replicate (d + p) (zl .u8 60)).flatten = ubs (foldE d p L 0).flatten := by
  show _ = ubs (List.replicate (d + p) (List.replicate 60 0)).flatten
  induction d + p with
  | zero => rfl
  | succ m ih => rw [List.replicate_succ,List.replicate_succ,List.flatten_cons,List.flatten_cons,ubs_app,ih,← ubs_rep]; rfl
 simp [hwm,-Int.natCast_add,hz]
 have h60 := foldE_60 d p L
 have hfl := foldE_len d p L
 obtain ⟨HA,hHA⟩ : ∃ HA : Nat → Heap,HA = fun q => h.push (.cells (ubs (foldE d p L q).flatten) .ex 1) := ⟨_,rfl⟩
 have hHc : ∀ q,(HA q).Closed := fun q => by rw [hHA]; exact closed_push hcl ubs_bel
 have hHn : ∀ q,(HA q).n = h.n + 1 := fun q => by rw [hHA]; rfl
 have hHx : ∀ q,(HA q).cellsOf h.n = some (ubs (foldE d p L q).flatten,.ex,1) := fun q => by rw [hHA]; exact cellsOf_new _ _ _ _
 have hHg : ∀ q,Gr h (HA q) := fun q => ⟨by rw [hHn]; omega,hHc q,by rw [hHA]; exact keep_push hcl _⟩
 have hH0 : h.push (.cells (ubs (foldE d p L 0).flatten) .ex 1) = HA 0 := by rw [hHA]
 rw [hH0]
 refine awp_loop_of (α := Nat) (fun q => q ≤ 60) (fun q => [(0,.pointer (some ⟨c,0,none⟩)),(1,.slice a L.length cc),(6,.slice (some ⟨h.n,0,none⟩) (d + p) (d + p)),(31,.int .i64 (q : Int))]) HA (fun q => 60 - q) 0
  (by omega) ⟨by rw [hHn]; omega,Nat.le_refl _,fun _ _ e => e,hHc 0⟩ (by simp [hHn]; exact ⟨.ptr (by show c < _; omega),bl.mono (by omega),.slice (by show h.n < _; omega),.int⟩) ?_
 intro q hq60
 have kq := hk.keep (hHg q)
 have cq := kq.cc
 by_cases hlt : q < 60
 ·have hi' : (q : Int) < 60 := by omega
  have w4 := w64n (i := q) (by omega)
  simp [c98_0, hi', cq, apart]
  refine (column_ok _ L q hlt (by omega) (HA q) (hl.keep (hHg q).m)).mono' ?_
  rintro v1 H1 c1' _ n1
  have g1 := n1.gr
  have k1 := kq.keep g1
  have cc1 := k1.cc
  have hcl1 : (colF L q).length = d := by unfold colF; rw [List.length_map,hLd]
  simp [cc1,apart]
  refine (encode_ok k f (d + p) d gw (by omega) (by omega) (by omega) (by omega) (colF L q) hcl1 v1 H1 k1.ck n1.sl n1.cut).mono' ?_
  rintro _ H2 c2' _ ⟨v2,rfl,n2⟩
  have g2 := n2.gr
  have hpp : d + p - d = p := by omega
  rw [hpp] at n2
  have hWl : (encW p L q).length = d + p := by
   unfold encW
   rw [List.length_append,hcl1,(Pl.par_len (p := p) (by omega) _).2]
  simp
  have g12 := g1.trans g2
  have x2 := cellsOf_keep g12.m (hHx q)
  have hv2 : ∀ C,SlB (H2.set h.n (.cells C .ex 1)) v2 (encW p L q) := fun C => by
   obtain ⟨nm, l2, x2', _⟩ := n2
   have e2 : LAt (H2.set h.n (.cells C .ex 1)) 1 nm v2 (encW p L q).length (ubs (encW p L q)) := by
    refine l2.keep fun u e => ?_
    rw [set_m,if_neg]
    intro q2
    have := x2' u e
    have := g1.n
    rw [hHn] at this
    omega
   exact e2.sl
  have hpu := bput_ok h.n (d + p) q .ex 1 (foldE d p L q) (h60 q) hlt (by rw [hfl]; omega) (encW p L q) (by rw [hWl,hfl]) v2 H2 x2 (by simp) hv2 (by rw [hfl]; omega)
  rw [hfl] at hpu
  refine hpu.mono ?_
  rintro _ h9 e
  rw [e]; clear e h9
  have hsk : setK (foldE d p L q) q (encW p L q) (d + p) = foldE d p L (q + 1) := rfl
  rw [hsk]
  simp [w4,-Int.natCast_add]
  refine ⟨q + 1,by omega,by omega,⟨by rw [hHn]; omega,by rw [hHn]; have := g12.n; rw [hHn] at this; exact this,fun u ob e => ?_,hHc _⟩,.ptr (by show c < _; rw [hHn]; omega),bl.mono (by rw [hHn]; omega),.slice (by show h.n < _; rw [hHn]; omega),rfl,.int⟩
  rw [hHA] at e
  rw [set_m]
  dsimp only at e
  rw [push_m] at e
  by_cases hu : u = h.n
  ·rw [if_pos hu] at e ⊢; exact e
  ·rw [if_neg hu] at e ⊢
   exact g12.m u ob ((hHg q).m u ob e)
 ·have hqe : q = 60 := by omega
  subst hqe
  simp [c98_0]
  have hB : ∀ i (hi : i < d + p),acut (ubs (foldE d p L 60).flatten) (i * 60) 60 = some (ubs ((foldE d p L 60)[i]'(by rw [hfl]; exact hi))) := fun i hi => flat_cut (h60 60) i (by rw [hfl]; exact hi)
  have hEB : encB d p L = foldE d p L 60 := rfl
  rw [hEB]
  refine awp_loop_of (α := EnS) (fun z => z.i ≤ d + p ∧ NewS (HA 60) z.H z.v (((foldE d p L 60).map crE).take z.i)) (fun z => [(0,.pointer (some ⟨c,0,none⟩)),(10,z.v),(50,.slice (some ⟨h.n,0,none⟩) (d + p) (d + p)),(51,.int .i64 ((d : Int) + (p : Int))),(52,.int .i64 (z.i : Int))]) (fun z => z.H) (fun z => d + p - z.i) ⟨0,.slice none 0 0,HA 60⟩
   ⟨Nat.zero_le _,NewS.nil (hHc 60)⟩ ⟨by rw [hHn]; omega,Nat.le_refl _,fun _ _ e => e,hHc 60⟩ (by simp [hHn]; exact ⟨.ptr (by show c < _; omega),.snil,.slice (by show h.n < _; omega),.int,.int⟩) ?_
  rintro ⟨i,v,H⟩ ⟨hi,nb⟩
  dsimp only at hi nb ⊢
  have gH := nb.gr
  have gn := gH.n
  rw [hHn] at gn
  have xH := cellsOf_keep gH.m (hHx 60)
  by_cases hlt2 : i < d + p
  ·have hi' : (i : Int) < (d : Int) + (p : Int) := by omega
   have w4 := w64n (i := i) (by omega)
   have hlB : i < (foldE d p L 60).length := by rw [hfl]; exact hlt2
   have hcut := hB i hlt2
   have hx60 : ((foldE d p L 60)[i]).length = 60 := h60 60 _ (List.getElem_mem hlB)
   have hts : (foldE d p L 60).take (i + 1) = (foldE d p L 60).take i ++ [(foldE d p L 60)[i]] := List.take_succ_eq_append_getElem hlB
   obtain ⟨X,hX⟩ : ∃ X,(foldE d p L 60)[i] = X := ⟨_,rfl⟩
   rw [hX] at hcut hx60 hts
   have f1 := cellsOf_new H (zl .u8 60) .ex 1
   have f2 := cellsOf_new H (ubs X) .ex 1
   have gX : Gr H (H.push (.cells (ubs X) .ex 1)) := (Gr.refl gH.cl).pushB _ _ _
   have nb2 := nb.grow gX
   have gHX := (hHg 60).trans (gH.trans gX)
   have kX := hk.keep gHX
   have cX := kX.cc
   have hacX : acut (ubs X) 0 60 = some (ubs X) := acut_full (by rw [ubs_len]; exact hx60)
   simp [c98_2, hi', aidx_of hlt2, xH, apart, hcut, f1, m_agB, ubs_len, hx60, zl_len, put60 hx60, set_push, f2, cX, hacX]
   refine (tagseal_ok s X hx60 _ kX.cs).eqK ?_
   have hlen : (((foldE d p L 60).map crE).take i).length = i := by rw [List.length_take,List.length_map]; omega
   obtain ⟨a2,ev,v2,H2,happ,n2⟩ := nb2.text (hHc 60) (crE X) (by rw [hlen]; omega)
   rw [hlen] at ev happ
   have hcs : ((foldE d p L 60).map crE).take i ++ [crE X] = ((foldE d p L 60).map crE).take (i + 1) := by rw [← List.map_take,← List.map_take,hts,List.map_append]; rfl
   rw [hcs] at n2
   have n2n := n2.gr.n
   rw [hHn] at n2n
   subst ev
   have fil : ∀ y,afill [.string (bs [])] [(0,1,.string (bs y))] = some [sv y] := fun _ => rfl
   have hfst : afirst ((H.push (.cells (ubs X) .ex 1)).push (.cells [sv (crE X)] .ex 1)) 1 1 (.slice (some ⟨H.n + 1,0,none⟩) 1 1) = some [sv (crE X)] := by
    have := cellsOf_new (H.push (.cells (ubs X) .ex 1)) [sv (crE X)] .ex 1
    rw [push_n] at this
    simp [afirst,this,acut]
   simp [bs_lit,fil,alen,hfst,happ,w4,-Int.natCast_add]
   exact ⟨⟨i + 1,v2,H2⟩,by show d + p - (i + 1) < d + p - i; omega,⟨by show i + 1 ≤ d + p; omega,n2⟩,⟨by show h.n ≤ H2.n; omega,Nat.le_refl _,fun _ _ e => e,n2.gr.cl⟩,.ptr (by show c < H2.n; omega),⟨rfl,n2.below⟩,.slice (by show h.n < H2.n; omega),.int,rfl,.int⟩
  ·have hie : i = d + p := by omega
   have hi2 : ¬ ((i : Int) < (d : Int) + (p : Int)) := by omega
   rw [hie,List.take_of_length_le (by rw [List.length_map,hfl]; omega)] at nb
   simp [c98_2,hi2]
   exact NewS.from (hHg 60) nb
def c105_0 : AC := sO [oP 15 (bT .lss 14 13)] (.seq (cT 15 .skip (.exit 0)) (.seq (.block 1 (sO [mV 16 14,oP 17 (iA 1 12 14),oP 18 (lN 17),mV 8 16,mV 9 18] (sO [mV 20 0,oP 21 (nC 20),oP 22 (fA 4 21),oP 23 (lN 22),mV 24 9,oP 25 (.call 138 [tP 23,tP 24]),mV 19 25,oP 26 (xR 19 0),oP 27 (xR 19 1),oP 10 (.alloc (zl .u8 60)),nP (.store 60 (tP 10) (tP 26)),mV 11 27] (sO [mV 28 6,oP 29 (.load (some 60) (tP 10)),oP 30 (.buildS 1 (zl .u8 60) [(0,60,.tmp 29)]),oP 31 (.app 60 60 109 (tP 28) (tP 30)),mV 6 31] (sO [mV 32 11,oP 33 (.un .not (tP 32))] (cT 33 (.ops [mV 34 7,mV 35 8,oP 36 (.buildS 1 [.int .i64 0] [(0,1,.tmp 35)]),oP 37 (.app 1 8 3 (tP 34) (tP 36)),mV 7 37]) .skip)))))) (.ops [oP 38 (bK .add 14 1),mV 14 38])))
def c105 : AC := sO [oP 4 (.mv (.const (.slice none 0 0))),oP 5 (.mv (.const (.slice none 0 0)))] (sO [oP 6 (.mv (.const (.slice none 0 0)))] (sO [oP 7 (.mv (.const (.slice none 0 0)))] (.seq (sO [mV 12 1,oP 13 (lS 12),oP 14 (.mv (kI 0))] (.block 0 (.loop c105_0))) (sO [mV 39 6,mV 40 7,mV 4 39,mV 5 40] .ret))))
theorem k105 : compF Tryz.prog Tryz.f105 = some (c105,[4,5]) := by kernel_rfl
theorem n105 : Tryz.f105.ntmps = 41 := by kernel_rfl
theorem lat_push1 {H : Heap} {esz bytes t n : Nat} {nm : Option Nat} {v : Value} {cells : List Value} (hc : H.Closed) (q : LAt H esz nm v n cells) (new : List Value) (e : Nat) (hnew : new.length = esz) (hb : ∀ k,∀ x ∈ new,VBelow k x) (hsm : (n + 1) * (bytes + 1) ≤ 1099511627776) :
  ∃ a,v = .slice a n n ∧ ∃ v2 H2,aapp (H.push (.cells new .ex e)) t esz bytes a n n new 1 = some (v2,H2) ∧ LAt H2 esz (some (H.n + 1)) v2 (n + 1) (cells ++ new) ∧ (∀ u ob,H.m u = some ob → nm ≠ some u → H2.m u = some ob) ∧ H2.n = H.n + 2 ∧ H2.Closed := by
 have cp : (H.push (.cells new .ex e)).Closed := closed_push hc (fun x hx => hb _ x hx)
 have q2 : LAt (H.push (.cells new .ex e)) esz nm v n cells := by
  rcases q with q | ⟨u, md, e', h1, h2, h3, h4⟩
  ·exact .inl q
  ·exact .inr ⟨u, md, e', h1, h2, cellsOf_keep (keep_push hc _) h3, h4⟩
 obtain ⟨a,ev,v2,H2,happ,l2,k2,n2,c2⟩ := lat_app (t := t) (bytes := bytes) (k := 1) (new := new) cp q2 (by omega) (by omega) (fun x hx => hb _ x hx) hsm
 exact ⟨a,ev,v2,H2,happ,l2,fun u ob e1 e2 => k2 u ob (keep_push hc _ u ob e1) e2,by rw [n2]; rfl,c2⟩
def erF (l : List (List UInt8)) : List Nat := (List.range l.length).filter fun i => decide (crE (l[i]!.take 60) ≠ l[i]!)
theorem range_filter_succ (f : Nat → Bool) (i : Nat) : (List.range (i + 1)).filter f = if f i then (List.range i).filter f ++ [i] else (List.range i).filter f := by
 rw [List.range_succ,List.filter_append]
 by_cases h : f i
 ·rw [if_pos h]; simp [h]
 ·rw [if_neg h]; simp [h]
structure OpS where
 i : Nat
 v : Value
 w : Value
 H : Heap
def OpI (h : Heap) (l : List (List UInt8)) (z : OpS) : Prop := ∃ nm nn,LAt z.H 60 nm z.v z.i (ubs ((l.take z.i).map (List.take 60)).flatten) ∧ LAt z.H 1 nn z.w ((List.range z.i).filter fun i => decide (crE (l[i]!.take 60) ≠ l[i]!)).length (((List.range z.i).filter fun i => decide (crE (l[i]!.take 60) ≠ l[i]!)).map ei) ∧
 (∀ x,nm = some x → h.n ≤ x) ∧ (∀ x,nn = some x → h.n ≤ x) ∧ (∀ x,nm = some x → nn ≠ some x) ∧ Gr h z.H
theorem lat_bel {H : Heap} {esz n : Nat} {nm : Option Nat} {v : Value} {cells : List Value} (hc : H.Closed) (q : LAt H esz nm v n cells) : VBelow H.n v := by
 rcases q with ⟨_,rfl,_,_⟩ | ⟨u,md,e,_,rfl,h3,_⟩
 ·exact .snil
 ·exact .slice (cellsOf_lt hc h3)
theorem lat_lt {H : Heap} {esz n : Nat} {nm : Option Nat} {v : Value} {cells : List Value} (hc : H.Closed) (q : LAt H esz nm v n cells) : ∀ u,nm = some u → u < H.n := fun u e => by
 rcases q with ⟨rfl, _⟩ | ⟨x, md, e', rfl, _, h3, _⟩
 ·cases e
 ·cases e; exact cellsOf_lt hc h3
theorem open_ok (c k s f : Nat) (gw : Value) (d p n : Nat) (l : List (List UInt8)) (hl64 : ∀ x ∈ l,x.length = 64) (hll : l.length ≤ 1000) (v : Value) (h : Heap) (hk : CodK h c k s f gw d p n) (hl : Sl sv h v l) :
  ACalls Tryz.prog 105 [.pointer (some ⟨c,0,none⟩),v] h fun r h' => ∃ va ve,r = .tuple #[va,ve] ∧ OpI h l ⟨l.length,va,ve,h'⟩ := by
 refine acalls_of mix Tryz.func105 k105 n105 (by simp) fun hcl hb => ?_
 have bl := Sl.below hl hcl
 have c1 := hk.cc
 have bc := cellsOf_lt hcl c1
 obtain ⟨a,cc,rfl⟩ := Sl.form hl
 simp [c105]
 refine awp_loop_of (α := OpS) (fun z => z.i ≤ l.length ∧ OpI h l z) (fun z => [(0,.pointer (some ⟨c,0,none⟩)),(6,z.v),(7,z.w),(12,.slice a l.length cc),(13,.int .i64 l.length),(14,.int .i64 (z.i : Int))]) (fun z => z.H) (fun z => l.length - z.i) ⟨0,.slice none 0 0,.slice none 0 0,h⟩
  ⟨Nat.zero_le _,none,none,.inl ⟨rfl,rfl,rfl,rfl⟩,.inl ⟨rfl,rfl,rfl,rfl⟩,(fun _ e => by cases e),(fun _ e => by cases e),(fun _ e => by cases e),Gr.refl hcl⟩ (Heap.Sub.refl hcl) (by simp; exact ⟨.ptr bc,.snil,bl,.int,.int⟩) ?_
 rintro ⟨i,va,ve,H⟩ ⟨hi,nm,nn,la,le,xa,xe,xd,gH⟩
 dsimp only at hi la le gH ⊢
 by_cases hlt : i < l.length
 ·have hi' : (i : Int) < (l.length : Int) := by omega
  have w4 := w64n (i := i) (by omega)
  obtain ⟨b1,o1,cs,m1,e1,rfl,_,g1,g1'⟩ := Sl.at (Sl.keep hl gH.m) hlt
  have kH := hk.keep gH
  have cH := kH.cc
  have h64 := hl64 _ (List.getElem_mem hlt)
  obtain ⟨x,hx⟩ : ∃ x,l[i] = x := ⟨_,rfl⟩
  rw [hx] at g1' h64
  have hsv : sv x = .string (bs x) := rfl
  simp [c105_0, hi', aidx_of hlt, g1, apart, g1', hsv, cH, -Int.natCast_add]
  refine (tagopen_ok s x H kH.cs (by omega) h64).eqK ?_
  obtain ⟨X,hX⟩ : ∃ X,x.take 60 = X := ⟨_,rfl⟩
  have hX60 : X.length = 60 := by rw [← hX,List.length_take]; omega
  rw [hX]
  have f1 := cellsOf_new H (zl .u8 60) .ex 1
  have f2 := cellsOf_new H (ubs X) .ex 1
  have gX : Gr H (H.push (.cells (ubs X) .ex 1)) := (Gr.refl gH.cl).pushB _ _ _
  have hacX : acut (ubs X) 0 60 = some (ubs X) := acut_full (by rw [ubs_len]; exact hX60)
  have filX : afill (zl .u8 60) [(0,60,agB X)] = some (ubs X) := by
   show (if (ubs X).length = 60 ∧ 0 + 60 ≤ (zl .u8 60).length then afill ((zl .u8 60).take 0 ++ ubs X ++ (zl .u8 60).drop (0 + 60)) [] else none) = _
   rw [if_pos ⟨by rw [ubs_len]; exact hX60,by rw [zl_len]; omega⟩,List.take_zero,List.nil_append,List.drop_of_length_le (by rw [zl_len]; omega),List.append_nil]
   rfl
  have gHX := gH.trans gX
  have la2 : LAt (H.push (.cells (ubs X) .ex 1)) 60 nm va i (ubs ((l.take i).map (List.take 60)).flatten) := la.up fun u e ob e2 => gX.m u ob e2
  have le2 := le.up (H := H.push (.cells (ubs X) .ex 1)) fun u e ob e2 => gX.m u ob e2
  obtain ⟨a2,ea,v2,H2,happ,l2,fr2,n2,c2⟩ := lat_push1 (t := 109) (bytes := 60) gHX.cl la2 (ubs X) 1 (by rw [ubs_len]; exact hX60) (fun k => ubs_bel) (by omega)
  have hn1 : (H.push (.cells (ubs X) .ex 1)).n = H.n + 1 := rfl
  rw [hn1] at n2 l2
  have hfst : afirst ((H.push (.cells (ubs X) .ex 1)).push (.cells (ubs X) .ex 1)) 60 1 (.slice (some ⟨H.n + 1,0,none⟩) 1 1) = some (ubs X) := by
   have := cellsOf_new (H.push (.cells (ubs X) .ex 1)) (ubs X) .ex 1
   rw [push_n] at this
   simp [afirst,this,hacX]
  have hts : ubs ((l.take i).map (List.take 60)).flatten ++ ubs X = ubs ((l.take (i + 1)).map (List.take 60)).flatten := by
   rw [List.take_succ_eq_append_getElem hlt,List.map_append,List.flatten_append,ubs_app,hx]
   simp [hX]
  rw [hts] at l2
  have le3 := le2.up (H := H2) fun u e ob e2 => fr2 u ob e2 (fun q => xd u q e)
  have g2 : Gr h H2 := ⟨by rw [n2]; have := gH.n; omega,c2,fun u ob e => fr2 u ob (gHX.m u ob e) (fun q => by have := xa u q; have := (hcl u ob e).1; omega)⟩
  have hxi : l[i]! = x := by rw [getElem!_pos l i hlt,hx]
  have hfs := range_filter_succ (fun i => decide (crE (l[i]!.take 60) ≠ l[i]!)) i
  rw [hxi,hX] at hfs
  subst ea
  by_cases hE : crE X = x
  ·rw [if_neg (by simp [hE])] at hfs
   simp [f1,m_agB,ubs_len,hX60,zl_len,put60 hX60,set_push,f2,apart,hacX,filX,alen,hfst,happ,hE,aun,w4,-Int.natCast_add]
   have hl3 := l2
   refine ⟨⟨i + 1,v2,ve,H2⟩,by show l.length - (i + 1) < l.length - i; omega,⟨by show i + 1 ≤ l.length; omega,some (H.n + 1 + 1),nn,l2,by dsimp only; rw [hfs]; exact le3,fun u e => by cases e; have := gH.n; omega,xe,fun u e q => by cases e; have := lat_lt gH.cl le _ q; omega,g2⟩,⟨by show h.n ≤ H2.n; exact g2.n,Nat.le_refl _,fun _ _ e => e,c2⟩,.ptr (by show c < H2.n; have := g2.n; omega),⟨rfl,lat_bel c2 l2⟩,⟨rfl,lat_bel c2 le3⟩,bl.mono g2.n,.int,rfl,.int⟩
  ·rw [if_pos (by simp [hE])] at hfs
   simp [f1,m_agB,ubs_len,hX60,zl_len,put60 hX60,set_push,f2,apart,hacX,filX,alen,hfst,happ,hE,aun]
   obtain ⟨E,hEE⟩ : ∃ E,((List.range i).filter fun i => decide (crE (l[i]!.take 60) ≠ l[i]!)) = E := ⟨_,rfl⟩
   rw [hEE] at hfs le3 le
   have hElen : E.length ≤ i := by
    rw [← hEE]
    exact Nat.le_trans (List.length_filter_le _ _) (by simp)
   obtain ⟨a3,e3,v3,H3,happ3,l3,fr3,n3,c3⟩ := lat_push1 (t := 3) (bytes := 8) c2 le3 [ei i] 1 (by simp) (fun k x hx => by simp at hx; subst hx; exact .int) (by omega)
   have hfst3 : afirst (H2.push (.cells [ei i] .ex 1)) 1 1 (.slice (some ⟨H2.n,0,none⟩) 1 1) = some [ei i] := by
    have := cellsOf_new H2 [ei i] .ex 1
    simp [afirst,this,acut]
   have fili : afill [.int .i64 0] [(0,1,.int .i64 (i : Int))] = some [ei i] := rfl
   have l4 := l2.up (H := H3) fun u e ob e2 => fr3 u ob e2 (fun q => by cases e; have := lat_lt gH.cl le _ q; omega)
   have g3 : Gr h H3 := ⟨by rw [n3]; have := g2.n; omega,c3,fun u ob e => fr3 u ob (g2.m u ob e) (fun q => by have := xe u q; have := (hcl u ob e).1; omega)⟩
   have hms : E.map ei ++ [ei i] = (E ++ [i]).map ei := by rw [List.map_append]; rfl
   rw [hms] at l3
   subst e3
   simp [fili,alen,hfst3,happ3,w4,-Int.natCast_add]
   refine ⟨⟨i + 1,v2,v3,H3⟩,by show l.length - (i + 1) < l.length - i; omega,⟨by show i + 1 ≤ l.length; omega,some (H.n + 1 + 1),some (H2.n + 1),l4,by dsimp only; rw [hfs,List.length_append]; exact l3,fun u e => by cases e; have := gH.n; omega,fun u e => by cases e; have := g2.n; omega,fun u e q => by cases e; have := Option.some.inj q; omega,g3⟩,⟨by show h.n ≤ H3.n; exact g3.n,Nat.le_refl _,fun _ _ e => e,c3⟩,.ptr (by show c < H3.n; have := g3.n; omega),⟨rfl,lat_bel c3 l4⟩,⟨rfl,lat_bel c3 l3⟩,bl.mono g3.n,.int,rfl,.int⟩
 ·have hie : i = l.length := by omega
  subst hie
  simp [c105_0]
  exact ⟨_,_,⟨rfl,rfl⟩,nm,nn,la,le,xa,xe,xd,gH⟩
def c73_2 : AC := sO [oP 63 (bT .lss 62 61)] (.seq (cT 63 .skip (.exit 2)) (.seq (.block 3 (sO [mV 64 62,oP 65 (iA 1 60 62),oP 66 (lN 65),mV 13 64,mV 14 66] (.seq (.draw [([mV 67 0,oP 68 (nC 67),oP 69 (fA 4 68),oP 70 (lN 69),mV 71 6,mV 72 13,oP 73 (iA 60 71 72),oP 74 (.load (some 60) (tP 73)),mV 76 14],[oP 75 (.call 75 [tP 70,tP 74])],[]),([oP 77 (bT .neq 75 76)],[],[])]) (cT 77 (.ops [oP 78 (fA 1 12),oP 79 (lN 78),mV 80 13,oP 81 (.buildS 1 [.int .i64 0] [(0,1,.tmp 80)]),oP 82 (.app 1 8 3 (tP 79) (tP 81)),oP 83 (fA 1 12),nP (.store 1 (tP 83) (tP 82))]) .skip)))) (.ops [oP 84 (bK .add 62 1),mV 62 84])))
def c73_0 : AC := sO [oP 35 (bK .lss 34 60)] (.seq (cT 35 .skip (.exit 0)) (.seq (.block 1 (sO [mV 36 34,mV 8 36] (.seq (.draw [([mV 38 0,oP 39 (nC 38),oP 40 (fA 0 39),oP 41 (lN 40),mV 42 6,mV 43 8,mV 45 7],[oP 44 (.call 107 [tP 42,tP 43])],[oP 41 (lN 40)]),([],[oP 46 (.call 106 [tP 41,tP 44,tP 45])],[]),([mV 37 46,oP 47 (xR 37 0),oP 48 (xR 37 1),oP 49 (xR 37 2),mV 9 47,mV 10 48,mV 11 49],[],[])]) (.seq (sO [mV 50 11,oP 51 (bK .neq 50 0)] (cT 51 (sO [oP 52 (.build [.slice none 0 0,.slice none 0 0] []),nP (.store 2 (tP 4) (tP 52)),oP 5 (.mv (kI 8))] .ret) .skip)) (.ops [mV 53 6,mV 54 8,mV 55 9,oP 56 (.call 108 [tP 53,tP 54,tP 55])]))))) (.ops [oP 57 (bK .add 34 1),mV 34 57])))
def c73 : AC := sO [oP 4 (.alloc [.slice none 0 0,.slice none 0 0]),oP 5 (.mv (kI 0))] (.seq (sO [mV 15 0,oP 16 (.eqv false .ptr (tP 15) (.const (.pointer none))),mV 17 16,gP 18 17 false (.mv (tP 1)),gP 19 17 false (lS 18),gP 20 17 false (.mv (tP 0)),gP 21 17 false (nC 20),gP 22 17 false (fA 1 21),gP 23 17 false (.load (some 3) (tP 22)),gP 24 17 false (.call 70 [tP 23]),gP 25 17 false (bT .neq 19 24),oP 26 (pT 17 25)] (cT 26 (sO [oP 27 (.build [.slice none 0 0,.slice none 0 0] []),nP (.store 2 (tP 4) (tP 27)),oP 5 (.mv (kI 1))] .ret) .skip)) (sO [mV 29 0,mV 30 1,oP 31 (.call 105 [tP 29,tP 30]),mV 28 31,oP 32 (xR 28 0),oP 33 (xR 28 1),mV 6 32,mV 7 33] (.seq (sO [oP 34 (.mv (kI 0))] (.block 0 (.loop c73_0))) (sO [mV 58 6,oP 59 (.build [.slice none 0 0,.slice none 0 0] [(0,1,.tmp 58)]),oP 12 (.alloc [.slice none 0 0,.slice none 0 0]),nP (.store 2 (tP 12) (tP 59))] (.seq (sO [mV 60 1,oP 61 (lS 60),oP 62 (.mv (kI 0))] (.block 2 (.loop c73_2))) (sO [oP 85 (.load (some 2) (tP 12)),nP (.store 2 (tP 4) (tP 85)),oP 5 (.mv (kI 0))] .ret))))))
theorem k73 : compR Tryz.prog Tryz.f73 = some (c73,[.c 4 (some 2),.t 5]) := by kernel_rfl
theorem n73 : Tryz.f73.ntmps = 86 := by kernel_rfl
def MendC (n : Nat) (o : Option (List UInt8)) (h : Heap) (r : Value) (h' : Heap) : Prop := match o with
 | none => r = .tuple #[.slice none 0 0,.slice none 0 0,.int .i64 8] ∧ Gr h h'
 | some W => ∃ vw vx,r = .tuple #[vw,vx,.int .i64 0] ∧ NewB h h' vw W ∧ W.length = n
def foldR (n : Nat) (B : List (List UInt8)) (W : Nat → Option (List UInt8)) : Nat → Option (List (List UInt8))
 | 0 => some B
 | q + 1 => match foldR n B W q,W q with
   | some X,some w => some (setK X q w n)
   | _,_ => none
theorem foldR_none {n : Nat} {B : List (List UInt8)} {W : Nat → Option (List UInt8)} {q : Nat} (h : foldR n B W q = none) : ∀ j,foldR n B W (q + j) = none
 | 0 => h
 | j + 1 => by show (match foldR n B W (q + j),W (q + j) with | some X,some w => some (setK X (q + j) w n) | _,_ => none) = none; rw [foldR_none h j]
theorem foldR_len {n : Nat} {B : List (List UInt8)} {W : Nat → Option (List UInt8)} : ∀ {q X},foldR n B W q = some X → X.length = B.length
 | 0,X,h => by cases h; rfl
 | q + 1,X,h => by
   unfold foldR at h
   cases h1 : foldR n B W q with
   | none => rw [h1] at h; cases h
   | some Y =>
     cases h2 : W q with
     | none => rw [h1,h2] at h; cases h
     | some w => rw [h1,h2] at h; cases h; rw [setK_len]; exact foldR_len h1
theorem foldR_60 {n : Nat} {B : List (List UInt8)} (hB : ∀ x ∈ B,x.length = 60) (hn : n = B.length) {W : Nat → Option (List UInt8)} : ∀ {q X},foldR n B W q = some X → ∀ x ∈ X,x.length = 60
 | 0,X,h => by cases h; exact hB
 | q + 1,X,h => by
   unfold foldR at h
   cases h1 : foldR n B W q with
   | none => rw [h1] at h; cases h
   | some Y =>
     cases h2 : W q with
     | none => rw [h1,h2] at h; cases h
     | some w => rw [h1,h2] at h; cases h; exact setK_60 (foldR_60 hB hn h1) q w n (by rw [foldR_len h1]; omega)
theorem setK_get {L : List (List UInt8)} {p : Nat} {w : List UInt8} : ∀ (j : Nat),j ≤ L.length → ∀ i,(setK L p w j)[i]! = if i < j then (L[i]!).set p (w[i]!) else L[i]!
 | 0,_,i => by rw [if_neg (by omega)]; rfl
 | j + 1,hj,i => by
   show ((setK L p w j).set j ((setK L p w j)[j]!.set p (w[j]!)))[i]! = _
   have hl := setK_len L p w j
   by_cases h : i = j
   ·subst h
    rw [if_pos (by omega),getElem!_pos _ i (by rw [List.length_set]; omega),List.getElem_set_self,setK_get i (by omega) i,if_neg (by omega)]
   ·have ih := setK_get (L := L) (p := p) (w := w) j (by omega) i
    by_cases hi : i < L.length
    ·rw [getElem!_pos _ i (by rw [List.length_set]; omega),List.getElem_set_ne (fun q => h q.symm),← getElem!_pos (setK L p w j) i (by omega),ih]
     by_cases h3 : i < j
     ·rw [if_pos h3,if_pos (by omega)]
     ·rw [if_neg h3,if_neg (by omega)]
    ·rw [if_neg (by omega)]
     rw [if_neg (by omega)] at ih
     rw [getElem!_neg _ i (by rw [List.length_set]; omega)]
     rw [getElem!_neg _ i (by omega)]
theorem foldR_col {n : Nat} {B : List (List UInt8)} (hn : n = B.length) {W : Nat → Option (List UInt8)} : ∀ {q X},foldR n B W q = some X → ∀ j,q ≤ j → colF X j = colF B j
 | 0,X,h,j,hj => by cases h; rfl
 | q + 1,X,h,j,hj => by
   unfold foldR at h
   cases h1 : foldR n B W q with
   | none => rw [h1] at h; cases h
   | some Y =>
     cases h2 : W q with
     | none => rw [h1,h2] at h; cases h
     | some w =>
       rw [h1,h2] at h; cases h
       rw [← foldR_col hn h1 j (by omega)]
       have hl := foldR_len h1
       have hs := setK_len Y q w n
       unfold colF
       refine List.ext_getElem (by rw [List.length_map,List.length_map,hs]) fun i g1 g2 => ?_
       rw [List.getElem_map,List.getElem_map]
       rw [List.length_map] at g1 g2
       have := setK_get (L := Y) (p := q) (w := w) n (by omega) i
       rw [getElem!_pos _ i g1,getElem!_pos Y i g2] at this
       rw [this]
       split
       ·rw [List.getElem!_eq_getElem?_getD,List.getElem?_set_ne (by omega),← List.getElem!_eq_getElem?_getD]
       ·rfl
def wrF (X l : List (List UInt8)) (i : Nat) : List Nat := (List.range i).filter fun i => decide (crE X[i]! ≠ l[i]!)
def FdI (h : Heap) (X l : List (List UInt8)) (va vw : Value) (H : Heap) : Prop := ∃ nm nn,LAt H 60 nm va X.length (ubs X.flatten) ∧ LAt H 1 nn vw (wrF X l l.length).length ((wrF X l l.length).map ei) ∧
 (∀ x,nm = some x → h.n ≤ x) ∧ (∀ x,nn = some x → h.n ≤ x) ∧ (∀ x,nm = some x → nn ≠ some x) ∧ Gr h H
def ReadR (h : Heap) (l : List (List UInt8)) (o : Option (List (List UInt8))) (r : Value) (h' : Heap) : Prop := match o with
 | none => r = .tuple #[.agg #[.slice none 0 0,.slice none 0 0],.int .i64 8] ∧ Gr h h'
 | some X => ∃ va vw,r = .tuple #[.agg #[va,vw],.int .i64 0] ∧ FdI h X l va vw h'
structure RdS where
 q : Nat
 H : Heap
structure WrS where
 i : Nat
 v : Value
 H : Heap
theorem cread_ok (c k s f : Nat) (gw : Value) (d p n : Nat) (hr : right d p n = true) (l : List (List UInt8)) (hl64 : ∀ x ∈ l,x.length = 64) (hll : l.length = d + p) (W : Nat → Option (List UInt8)) (v : Value) (h : Heap) (hk : CodK h c k s f gw d p n) (hl : Sl sv h v l)
  (hM : ∀ q,q < 60 → ∀ (H : Heap) (v1 v2 : Value),CodeK H k f (d + p) d gw → SlB H v1 (colF (l.map (List.take 60)) q) → Sl ei H v2 (erF l) → ACalls Tryz.prog 106 [.pointer (some ⟨k,0,none⟩),v1,v2] H (MendC (d + p) (W q) H)) :
  ACalls Tryz.prog 73 [.pointer (some ⟨c,0,none⟩),v] h (ReadR h l (foldR (d + p) (l.map (List.take 60)) W 60)) := by
 refine acalls_ofR mix Tryz.func73 k73 n73 (by simp) fun hcl hb => ?_
 obtain ⟨⟨hd1,hd8⟩,⟨hp2,hp6⟩,hn1,hn8⟩ := right_prop.1 hr
 have hq := ptrq
 have hw : wide d p n = ((d + p : Nat) : Int) := by unfold wide; rw [if_pos hr]; omega
 have hac : acut [.pointer (some ⟨k,0,none⟩),.int .i64 (d : Int),.int .i64 (p : Int),.int .i64 (n : Int),.pointer (some ⟨s,0,none⟩)] 1 3 = some [.int .i64 (d : Int),.int .i64 (p : Int),.int .i64 (n : Int)] := rfl
 have hgv : (.agg #[.int .i64 (d : Int),.int .i64 (p : Int),.int .i64 (n : Int)] : Value) = gv d p n := rfl
 have bl := Sl.below hl hcl
 obtain ⟨a,cc,rfl⟩ := Sl.form hl
 have c0 : (h.push (.cells [.slice none 0 0,.slice none 0 0] .ex 1)).Closed := closed_push hcl (fun x hx => by simp at hx; subst hx; exact .snil)
 have f0 := cellsOf_new h [.slice none 0 0,.slice none 0 0] .ex 1
 have g0 : Gr h (h.push (.cells [.slice none 0 0,.slice none 0 0] .ex 1)) := ⟨Nat.le_succ _,c0,keep_push hcl _⟩
 have n0 : (h.push (.cells [.slice none 0 0,.slice none 0 0] .ex 1)).n = h.n + 1 := rfl
 simp [c73]
 generalize h.push (.cells [.slice none 0 0,.slice none 0 0] .ex 1) = H0 at *
 have k0 := hk.keep g0
 have cc0 := k0.cc
 have hLi : (l.length : Int) = ((d + p : Nat) : Int) := by omega
 simp [hq,cc0,apart,alen,hac,hgv]
 refine (wide_ok d p n H0).eqK ?_
 rw [hw]
 simp [hll,-Int.natCast_add]
 have hop := open_ok c k s f gw d p n l hl64 (by omega) (.slice a l.length cc) H0 k0 (Sl.keep hl g0.m)
 rw [hll] at hop
 refine hop.mono' ?_
 rintro _ H1 c1 _ ⟨va,ve,rfl,nm,nn,la,le,xa,xe,xd,g1⟩
 dsimp only at la le g1
 obtain ⟨B,hB⟩ : ∃ B,l.map (List.take 60) = B := ⟨_,rfl⟩
 have hBl : B.length = d + p := by rw [← hB,List.length_map,hll]
 have hB60 : ∀ x ∈ B,x.length = 60 := fun x hx => by
  rw [← hB] at hx
  obtain ⟨y,hy,rfl⟩ := List.mem_map.1 hx
  rw [List.length_take,hl64 y hy]; rfl
 have htk : (l.take (d + p)).map (List.take 60) = B := by rw [List.take_of_length_le (by omega),hB]
 rw [htk] at la
 have hEf : ((List.range (d + p)).filter fun i => decide (crE (l[i]!.take 60) ≠ l[i]!)) = erF l := by unfold erF; rw [hll]
 rw [hEf] at le
 rw [hB] at hM
 obtain ⟨x,md,es,rfl,rfl,hx,hxl,hro,hes⟩ : ∃ x md e,nm = some x ∧ va = .slice (some ⟨x,0,none⟩) (d + p) (d + p) ∧ H1.cellsOf x = some (ubs B.flatten,md,e) ∧ (ubs B.flatten).length = (d + p) * 60 ∧ md ≠ .ro ∧ (md.isLoose = true → e = 60) := by
  rcases la with ⟨_,_,q,_⟩ | q
  ·omega
  ·exact q
 have hxn : h.n + 1 ≤ x := by have := xa x rfl; omega
 have f1 := cellsOf_keep g1.m f0
 have g01 := g0.trans g1
 have beE := lat_bel c1 le
 have bx := cellsOf_lt c1 hx
 have b0 := cellsOf_lt c1 f1
 have k1 := hk.keep g01
 have bc := cellsOf_lt c1 k1.cc
 rw [hB]
 simp
 refine awp_loop_of (α := RdS) (fun z => z.q ≤ 60 ∧ ∃ X,foldR (d + p) B W z.q = some X ∧ z.H.cellsOf x = some (ubs X.flatten,md,es) ∧ LAt z.H 1 nn ve (erF l).length ((erF l).map ei) ∧ z.H.cellsOf h.n = some ([.slice none 0 0,.slice none 0 0],.ex,1) ∧ Gr h z.H ∧ H1.n ≤ z.H.n)
  (fun z => [(0,.pointer (some ⟨c,0,none⟩)),(1,.slice a (d + p) cc),(4,.pointer (some ⟨h.n,0,none⟩)),(6,.slice (some ⟨x,0,none⟩) (d + p) (d + p)),(7,ve),(34,.int .i64 (z.q : Int))]) (fun z => z.H) (fun z => 60 - z.q) ⟨0,H1⟩
  ⟨Nat.zero_le _,B,rfl,hx,le,f1,g01,Nat.le_refl _⟩ ⟨g01.n,Nat.le_refl _,fun _ _ e => e,c1⟩ (by simp; exact ⟨.ptr bc,(by rw [← hll]; exact bl.mono g01.n),.ptr b0,.slice bx,beE,.int⟩) ?_
 rintro ⟨q,H⟩ ⟨hq60,X,hX,xX,lE,fX,gX,nX⟩
 dsimp only at hq60 hX xX lE fX gX nX ⊢
 have kX := hk.keep gX
 have ccX := kX.cc
 have hXl : X.length = d + p := by rw [foldR_len hX,hBl]
 have hX60 := foldR_60 hB60 hBl.symm hX
 by_cases hlt : q < 60
 ·have hi' : (q : Int) < 60 := by omega
  have w4 := w64n (i := q) (by omega)
  have hbl : BlS H (.slice (some ⟨x,0,none⟩) (d + p) (d + p)) X := ⟨hX60,.inr ⟨x,0,_,_,_,_,by rw [hXl],xX,fun i hi => by rw [Nat.zero_add]; exact flat_cut hX60 i hi⟩⟩
  simp [c73_0, hi', ccX, apart]
  refine (column_ok _ X q hlt (by omega) H hbl).mono' ?_
  rintro v1 H2 c2 _ n2
  rw [foldR_col hBl.symm hX q (Nat.le_refl _)] at n2
  have g2 := n2.gr
  have k2 := kX.keep g2
  have cc2 := k2.cc
  have lE2 := lE.up (H := H2) fun u e ob e2 => g2.m u ob e2
  simp [cc2,apart]
  have sE : Sl ei H2 ve (erF l) := NewI.sl (h := ⟨fun _ => none,0⟩) ⟨nn,lE2,fun _ _ => Nat.zero_le _,⟨Nat.zero_le _,c2,fun u ob e => by cases e⟩⟩
  refine (hM q hlt H2 v1 ve k2.ck n2.sl sE).mono' ?_
  intro r H3 c3 _ hm
  cases hWq : W q with
  | none =>
    rw [hWq] at hm
    obtain ⟨rfl,g3⟩ := hm
    have g23 := g2.trans g3
    have f3 := cellsOf_keep g23.m fX
    have hN1 : foldR (d + p) B W (q + 1) = none := by unfold foldR; rw [hX,hWq]
    have hN : foldR (d + p) B W 60 = none := by
     have := foldR_none hN1 (60 - (q + 1))
     rwa [show q + 1 + (60 - (q + 1)) = 60 by omega] at this
    rw [hN]
    have fil0 : afill [.slice none 0 0,.slice none 0 0] [] = some [.slice none 0 0,.slice none 0 0] := rfl
    have hp0 : aput [.slice none 0 0,.slice none 0 0] 0 [.slice none 0 0,.slice none 0 0] = [.slice none 0 0,.slice none 0 0] := rfl
    have hac0 : acut [.slice none 0 0,.slice none 0 0] 0 2 = some [.slice none 0 0,.slice none 0 0] := rfl
    have hm0 : mcells (.agg #[.slice none 0 0,.slice none 0 0]) = some [.slice none 0 0,.slice none 0 0] := rfl
    have hs3 := set_same (m_of_cells f3)
    simp [fil0,f3,hm0,hp0,hs3,apart,hac0]
    exact ⟨rfl,gX.trans g23⟩
  | some w =>
    rw [hWq] at hm
    obtain ⟨vw,vx,rfl,n3,hwl⟩ := hm
    have g3 := n3.gr
    have g23 := g2.trans g3
    have x3 := cellsOf_keep g23.m xX
    have b2 := g2.n
    have hxlt := cellsOf_lt gX.cl xX
    have hv3 : ∀ C,SlB (H3.set x (.cells C md es)) vw w := fun C => by
     obtain ⟨nm3, l3, x3', _⟩ := n3
     have e3 : LAt (H3.set x (.cells C md es)) 1 nm3 vw w.length (ubs w) := by
      refine l3.keep fun u e => ?_
      rw [set_m,if_neg]
      intro q2
      have := x3' u e
      omega
     exact e3.sl
    have hpu := bput_ok x (d + p) q md es X hX60 hlt (by omega) w (by omega) vw H3 x3 hro hv3 (by omega)
    rw [hXl] at hpu
    simp
    refine hpu.mono ?_
    rintro _ h9 e
    rw [e]; clear e h9
    have hX1 : foldR (d + p) B W (q + 1) = some (setK X q w (d + p)) := by unfold foldR; rw [hX,hWq]
    simp [w4,-Int.natCast_add]
    have hb3 := cellsOf_lt c3 x3
    have cN : (H3.set x (.cells (ubs (setK X q w (d + p)).flatten) md es)).Closed := closed_set c3 hb3 ubs_bel
    have n23 := g23.n
    have gN : Gr h (H3.set x (.cells (ubs (setK X q w (d + p)).flatten) md es)) := ⟨by have := gX.n; show h.n ≤ H3.n; omega,cN,fun u ob e => by
     have hu := (hcl u ob e).1
     rw [set_m,if_neg (by omega)]
     exact g23.m u ob (gX.m u ob e)⟩
    have lE3 := lE.up (H := H3.set x (.cells (ubs (setK X q w (d + p)).flatten) md es)) fun u e ob e2 => by
     rw [set_m,if_neg (fun q2 => xd x rfl (by rw [e,q2]))]
     exact g23.m u ob e2
    refine ⟨⟨q + 1,H3.set x (.cells (ubs (setK X q w (d + p)).flatten) md es)⟩,by show 60 - (q + 1) < 60 - q; omega,⟨by show q + 1 ≤ 60; omega,_,hX1,cells_setJ' _ _ _ _ _,lE3,by rw [cells_setJ _ (by omega)]; exact cellsOf_keep g23.m fX,gN,by show H1.n ≤ H3.n; omega⟩,⟨gN.n,Nat.le_refl _,fun _ _ e => e,cN⟩,.ptr (by show c < H3.n; omega),(by rw [← hll]; exact bl.mono gN.n),.ptr (by show h.n < H3.n; omega),.slice (by show x < H3.n; omega),beE.mono (by show H1.n ≤ H3.n; omega),rfl,.int⟩
 ·have hqe : q = 60 := by omega
  subst hqe
  rw [hX]
  have fil2 : afill [.slice none 0 0,.slice none 0 0] [(0,1,.slice (some ⟨x,0,none⟩) (d + p) (d + p))] = some [.slice (some ⟨x,0,none⟩) (d + p) (d + p),.slice none 0 0] := rfl
  have hm2 : ∀ u v : Value,mcells (.agg #[u,v]) = some [u,v] := fun _ _ => rfl
  have fz := cellsOf_new H [.slice none 0 0,.slice none 0 0] .ex 1
  have hp2 : ∀ u v : Value,aput [.slice none 0 0,.slice none 0 0] 0 [u,v] = [u,v] := fun _ _ => rfl
  simp [c73_0,fil2,fz,hm2,hp2,set_push]
  have cz : (H.push (.cells [.slice (some ⟨x,0,none⟩) (d + p) (d + p),.slice none 0 0] .ex 1)).Closed := closed_push gX.cl (fun u hu => by
   have := cellsOf_lt gX.cl xX
   simp at hu
   rcases hu with rfl | rfl
   ·exact .slice (by show x < H.n + 1; omega)
   ·exact .snil)
  have fzz := cellsOf_new H [.slice (some ⟨x,0,none⟩) (d + p) (d + p),.slice none 0 0] .ex 1
  have gz : Gr H (H.push (.cells [.slice (some ⟨x,0,none⟩) (d + p) (d + p),.slice none 0 0] .ex 1)) := ⟨Nat.le_succ _,cz,keep_push gX.cl _⟩
  have hzn : (H.push (.cells [.slice (some ⟨x,0,none⟩) (d + p) (d + p),.slice none 0 0] .ex 1)).n = H.n + 1 := rfl
  have hhn := gX.n
  have hxH := cellsOf_lt gX.cl xX
  have hbc := cellsOf_lt gX.cl ccX
  have hb0 := cellsOf_lt gX.cl fX
  generalize H.push (.cells [.slice (some ⟨x,0,none⟩) (d + p) (d + p),.slice none 0 0] .ex 1) = HZ at *
  refine awp_loop_of (α := WrS) (fun z => z.i ≤ d + p ∧ ∃ nw,LAt z.H 1 nw z.v (wrF X l z.i).length ((wrF X l z.i).map ei) ∧ (∀ u,nw = some u → H.n + 1 ≤ u) ∧ z.H.cellsOf H.n = some ([.slice (some ⟨x,0,none⟩) (d + p) (d + p),z.v],.ex,1) ∧ Gr H z.H ∧ H.n + 1 ≤ z.H.n)
   (fun z => [(0,.pointer (some ⟨c,0,none⟩)),(4,.pointer (some ⟨h.n,0,none⟩)),(6,.slice (some ⟨x,0,none⟩) (d + p) (d + p)),(12,.pointer (some ⟨H.n,0,none⟩)),(60,.slice a (d + p) cc),(61,.int .i64 ((d : Int) + (p : Int))),(62,.int .i64 (z.i : Int))]) (fun z => z.H) (fun z => d + p - z.i) ⟨0,.slice none 0 0,HZ⟩
   ⟨Nat.zero_le _,none,.inl ⟨rfl,rfl,rfl,rfl⟩,(fun _ e => by cases e),fzz,gz,by show H.n + 1 ≤ HZ.n; omega⟩ ⟨by show h.n ≤ HZ.n; omega,Nat.le_refl _,fun _ _ e => e,cz⟩ (by simp [hzn]; exact ⟨.ptr (by show c < _; omega),.ptr (by show h.n < _; omega),.slice (by show x < _; omega),.ptr (by show H.n < _; omega),(by rw [← hll]; exact bl.mono (by omega)),.int,.int⟩) ?_
  rintro ⟨i,v,K⟩ ⟨hi,nw,lw,xw,fK,gK,nK⟩
  dsimp only at hi lw fK gK nK ⊢
  have gT := gX.trans gK
  have xK := cellsOf_keep gK.m xX
  by_cases hlt2 : i < d + p
  ·have hi' : (i : Int) < (d : Int) + (p : Int) := by omega
   have w4 := w64n (i := i) (by omega)
   have hil : i < l.length := by omega
   have hiX : i < X.length := by omega
   have hlK := Sl.keep hl gT.m
   rw [hll] at hlK
   obtain ⟨b1, o1, cs, m1, e1, rfl, _, g1', g1''⟩ := Sl.at hlK hil
   have kK := hk.keep gT
   have cK := kK.cc
   have hcut : acut (ubs X.flatten) (i * 60) 60 = some (ubs X[i]) := flat_cut hX60 i hiX
   have hXi : X[i]! = X[i] := getElem!_pos X i hiX
   have hli : l[i]! = l[i] := getElem!_pos l i hil
   have hx60 : (X[i]).length = 60 := hX60 _ (List.getElem_mem hiX)
   have hfs := range_filter_succ (fun i => decide (crE X[i]! ≠ l[i]!)) i
   obtain ⟨Y,hY⟩ : ∃ Y,X[i] = Y := ⟨_,rfl⟩
   obtain ⟨y,hy⟩ : ∃ y,l[i] = y := ⟨_,rfl⟩
   rw [hXi,hli,hY,hy] at hfs
   rw [hY] at hcut hx60
   rw [hy] at g1''
   have hsv : sv y = .string (bs y) := rfl
   have hwf : ∀ j,wrF X l j = (List.range j).filter fun i => decide (crE X[i]! ≠ l[i]!) := fun _ => rfl
   have hac2 : (.agg (ubs Y).toArray : Value) = agB Y := rfl
   simp [c73_2, hi', aidx_of hlt2, g1', apart, g1'', hsv, cK, xK, hcut, hac2]
   refine (tagseal_ok s Y hx60 K kK.cs).eqK ?_
   by_cases hE : crE Y = y
   ·rw [if_neg (by simp [hE])] at hfs
    simp [bs_injJ, hE, g1', apart, g1'', hsv, cK, xK, hcut, hac2, w4, -Int.natCast_add]
    refine ⟨⟨i + 1,v,K⟩,by show d + p - (i + 1) < d + p - i; omega,⟨by show i + 1 ≤ d + p; omega,nw,by dsimp only; rw [hwf,hfs]; exact lw,xw,fK,gK,nK⟩,⟨gT.n,Nat.le_refl _,fun _ _ e => e,gK.cl⟩,.ptr (by show c < K.n; omega),.ptr (by show h.n < K.n; omega),.slice (by show x < K.n; omega),.ptr (by show H.n < K.n; omega),(by have := bl.mono gT.n; rw [hll] at this; exact this),.int,rfl,.int⟩
   ·rw [if_pos (by simp [hE])] at hfs
    obtain ⟨E,hEE⟩ : ∃ E,wrF X l i = E := ⟨_,rfl⟩
    rw [← hwf,← hwf,hEE] at hfs
    rw [hEE] at lw
    have hElen : E.length ≤ i := by
     rw [← hEE]
     exact Nat.le_trans (List.length_filter_le _ _) (by simp)
    obtain ⟨a3,e3,v3,H3,happ3,l3,fr3,n3,c3⟩ := lat_push1 (t := 3) (bytes := 8) gK.cl lw [ei i] 1 (by simp) (fun k x hx => by simp at hx; subst hx; exact .int) (by omega)
    have hfst3 : afirst (K.push (.cells [ei i] .ex 1)) 1 1 (.slice (some ⟨K.n,0,none⟩) 1 1) = some [ei i] := by
     have := cellsOf_new K [ei i] .ex 1
     simp [afirst,this,acut]
    have fili : afill [.int .i64 0] [(0,1,.int .i64 (i : Int))] = some [ei i] := rfl
    have hms : E.map ei ++ [ei i] = (E ++ [i]).map ei := by rw [List.map_append]; rfl
    rw [hms] at l3
    have f3 : H3.cellsOf H.n = some ([.slice (some ⟨x,0,none⟩) (d + p) (d + p),v],.ex,1) := by
     have := fr3 H.n _ (m_of_cells fK) (fun q => by have := xw _ q; omega)
     unfold Heap.cellsOf
     rw [this]
    obtain ⟨a4,ev4⟩ := LAt.form l3
    have hm3 : mcells v3 = some [v3] := by rw [ev4]; rfl
    have hp3 : ∀ u w : Value,aput [u,w] 1 [v3] = [u,v3] := fun _ _ => rfl
    subst e3
    simp [bs_injJ,hE,fK,apart,fili,alen,hfst3,happ3,f3,hm3,hp3,w4,-Int.natCast_add]
    have bv3 := lat_bel c3 l3
    have cN : (H3.set H.n (.cells [.slice (some ⟨x,0,none⟩) (d + p) (d + p),v3] .ex 1)).Closed := closed_set c3 (by omega) (fun u hu => by
     simp at hu
     rcases hu with rfl | rfl
     ·exact .slice (by show x < H3.n; omega)
     ·exact bv3)
    have lN := l3.up (H := H3.set H.n (.cells [.slice (some ⟨x,0,none⟩) (d + p) (d + p),v3] .ex 1)) fun u e ob e2 => by
     rw [set_m,if_neg (by have := Option.some.inj e; omega)]
     exact e2
    have gN : Gr H (H3.set H.n (.cells [.slice (some ⟨x,0,none⟩) (d + p) (d + p),v3] .ex 1)) := ⟨by show H.n ≤ H3.n; omega,cN,fun u ob e => by
     have hu := (gX.cl u ob e).1
     rw [set_m,if_neg (by omega)]
     exact fr3 u ob (gK.m u ob e) (fun q => by have := xw u q; omega)⟩
    refine ⟨⟨i + 1,v3,H3.set H.n (.cells [.slice (some ⟨x,0,none⟩) (d + p) (d + p),v3] .ex 1)⟩,by show d + p - (i + 1) < d + p - i; omega,⟨by show i + 1 ≤ d + p; omega,some (K.n + 1),by dsimp only; rw [hfs,List.length_append]; exact lN,fun u e => by have := Option.some.inj e; omega,cells_setJ' _ _ _ _ _,gN,by show H.n + 1 ≤ H3.n; omega⟩,⟨by show h.n ≤ H3.n; omega,Nat.le_refl _,fun _ _ e => e,cN⟩,.ptr (by show c < H3.n; omega),.ptr (by show h.n < H3.n; omega),.slice (by show x < H3.n; omega),.ptr (by show H.n < H3.n; omega),(by have := bl.mono (show h.n ≤ H3.n by omega); rw [hll] at this; exact this),.int,rfl,.int⟩
  ·have hie : i = d + p := by omega
   have hi2 : ¬ ((i : Int) < (d : Int) + (p : Int)) := by omega
   have f4 := cellsOf_keep gK.m fX
   have hac4 : acut [.slice (some ⟨x,0,none⟩) (d + p) (d + p),v] 0 2 = some [.slice (some ⟨x,0,none⟩) (d + p) (d + p),v] := rfl
   have bv := lat_bel gK.cl lw
   have f5 := cells_setJ' K h.n [.slice (some ⟨x,0,none⟩) (d + p) (d + p),v] .ex 1
   simp [c73_2,hi2,fK,apart,hac4,f4,hm2,hp2,f5]
   rw [hie,← hll] at lw
   have cN : (K.set h.n (.cells [.slice (some ⟨x,0,none⟩) (d + p) (d + p),v] .ex 1)).Closed := closed_set gK.cl (by omega) (fun u hu => by
    simp at hu
    rcases hu with rfl | rfl
    ·exact .slice (by show x < K.n; omega)
    ·exact bv)
   refine ⟨_,_,rfl,some x,nw,.inr ⟨x,md,es,rfl,by rw [hXl],by rw [cells_setJ _ (by omega)]; exact xK,by rw [ubs_len,flat60_len hX60],hro,hes⟩,lw.up fun u e ob e2 => by
    rw [set_m,if_neg (by have := xw u e; omega)]; exact e2,fun u e => by have := Option.some.inj e; omega,fun u e => by have := xw u e; omega,fun u e q => by have := Option.some.inj e; have := xw u q; omega,⟨by show h.n ≤ K.n; omega,cN,fun u ob e => by
     have hu := (hcl u ob e).1
     rw [set_m,if_neg (by omega)]
     exact gT.m u ob e⟩⟩
theorem setK_self {L : List (List UInt8)} (q : Nat) : setK L q (colF L q) L.length = L := by
 have hs := setK_len L q (colF L q) L.length
 refine List.ext_getElem hs fun i g1 g2 => ?_
 have := setK_get (L := L) (p := q) (w := colF L q) L.length (Nat.le_refl _) i
 rw [getElem!_pos _ i g1,getElem!_pos L i g2,if_pos g2] at this
 rw [this]
 have hc : (colF L q)[i]! = L[i][q]! := by
  unfold colF
  rw [getElem!_pos _ i (by rw [List.length_map]; exact g2),List.getElem_map]
 rw [hc]
 refine List.ext_getElem (by simp) fun j h1 h2 => ?_
 rw [List.getElem_set]
 split
 ·rename_i hj; subst hj; rw [getElem!_pos L[i] _ h2]
 ·rfl
theorem foldR_right {n : Nat} {B : List (List UInt8)} (hn : n = B.length) {W : Nat → Option (List UInt8)} : ∀ {j},(∀ q,q < j → W q = some (colF B q)) → foldR n B W j = some B
 | 0,_ => rfl
 | j + 1,h => by
   unfold foldR
   rw [foldR_right hn fun q hq => h q (by omega),h j (by omega)]
   dsimp only
   rw [hn,setK_self]
theorem foldR_bad {n : Nat} {B : List (List UInt8)} {W : Nat → Option (List UInt8)} (h : W 0 = none) : foldR n B W 60 = none := by
 have h1 : foldR n B W 1 = none := by unfold foldR; rw [h]; rfl
 exact foldR_none h1 59
theorem erF_lt (l : List (List UInt8)) : ∀ x ∈ erF l,x < l.length := fun x hx => by
 unfold erF at hx
 rw [List.mem_filter] at hx
 exact List.mem_range.1 hx.1
theorem erF_asc (l : List (List UInt8)) : (erF l).Pairwise (· < ·) := List.Pairwise.filter _ List.pairwise_lt_range
theorem erF_len (l : List (List UInt8)) : (erF l).length ≤ l.length := by
 unfold erF
 exact Nat.le_trans (List.length_filter_le _ _) (by simp)
theorem cread_right (c k s f : Nat) (gw : Value) (d p n : Nat) (hr : right d p n = true) (l : List (List UInt8)) (hl64 : ∀ x ∈ l,x.length = 64) (hll : l.length = d + p) (v : Value) (h : Heap) (hk : CodK h c k s f gw d p n) (hl : Sl sv h v l) (hE : (erF l).length ≤ p)
  (hR : ∀ q,q < 60 → rightF p (colF (l.map (List.take 60)) q)) :
  ACalls Tryz.prog 73 [.pointer (some ⟨c,0,none⟩),v] h (ReadR h l (some (l.map (List.take 60)))) := by
 obtain ⟨⟨hd1,hd8⟩,⟨hp2,hp6⟩,hn1,hn8⟩ := right_prop.1 hr
 have hcl : ∀ q,(colF (l.map (List.take 60)) q).length = d + p := fun q => by unfold colF; rw [List.length_map,List.length_map,hll]
 have := cread_ok c k s f gw d p n hr l hl64 hll (fun q => some (colF (l.map (List.take 60)) q)) v h hk hl fun q hq H v1 v2 ck s1 s2 => by
  refine (mend_ok k f (d + p) d gw (by omega) (by omega) (by omega) (by omega) _ (hcl q) v1 v2 (erF l) (fun x hx => by have := erF_lt l x hx; omega) (erF_asc l) (by have := erF_len l; omega) H ck s1 s2 (.inr (by have := hR q hq; rw [show d + p - d = p by omega]; exact this))).mono ?_
  rintro r h' (⟨q1,q2,q3⟩ | ⟨q1,vw,q2,q3⟩)
  ·omega
  ·exact ⟨vw,_,q2,q3,hcl q⟩
 rw [foldR_right (by rw [List.length_map,hll]) fun q _ => rfl] at this
 exact this
def c61 : AC := sO [oP 6 (.mv (kI 0))] (.seq (sO [mV 9 0,oP 10 (.eqv false .ptr (tP 9) (.const (.pointer none)))] (cT 10 (sO [oP 6 (.mv (kI 1))] .ret) .skip)) (sO [mV 12 0,oP 13 (nC 12),oP 14 (fA 2 13),oP 15 (.load (some 3) (tP 14)),mV 16 1,mV 17 2,oP 18 (.call 71 [tP 15,tP 16,tP 17,.const (.int .i64 0)]),mV 11 18,oP 19 (xR 11 0),oP 20 (xR 11 1),mV 7 19,mV 8 20] (sO [mV 21 8,mV 6 21] .ret)))
theorem k61 : compF Tryz.prog Tryz.f61 = some (c61,[6]) := by kernel_rfl
theorem n61 : Tryz.f61.ntmps = 22 := by kernel_rfl
def c74_0 : AC := .seq (sO [mV 36 14,oP 37 (bK .lss 36 64)] (cT 37 .skip (.exit 0))) (.seq (.block 1 (.seq (.draw [([mV 40 0,oP 41 (nC 40),oP 42 (fA 1 41),oP 43 (lN 42),mV 44 11,oP 45 (bK .mul 44 64),mV 46 14,oP 47 (bT .add 45 46),mV 48 4,mV 49 14,mV 50 14,oP 51 (bK .add 50 16),oP 52 (.slS (tP 48) (some (tP 49)) (some (tP 51)))],[oP 53 (.call 109 [tP 43,tP 47,tP 52])],[]),([mV 15 53],[],[])]) (sO [mV 54 15,oP 55 (bK .neq 54 0)] (cT 55 (sO [mV 56 15,mV 10 56] .ret) .skip)))) (.ops [mV 38 14,oP 39 (bK .add 38 16),mV 14 39]))
def c74 : AC := sO [oP 10 (.mv (kI 0))] (sO [mV 17 0,oP 18 (nC 17),oP 19 (fA 2 18),oP 20 (.load (some 3) (tP 19)),mV 21 1,mV 22 2,mV 23 3,oP 24 (.call 71 [tP 20,tP 21,tP 22,tP 23]),mV 16 24,oP 25 (xR 16 0),oP 26 (xR 16 1),mV 11 25,mV 12 26] (.seq (sO [mV 27 0,oP 28 (nC 27),oP 29 (fA 1 28),oP 30 (lN 29),mV 31 11,oP 32 (.call 46 [tP 30,tP 31]),mV 13 32] (sO [mV 33 13,oP 34 (bK .neq 33 0)] (cT 34 (sO [mV 35 13,mV 10 35] .ret) .skip))) (.seq (sO [oP 14 (.mv (kI 0))] (.block 0 (.loop c74_0))) (sO [oP 10 (.mv (kI 0))] .ret))))
theorem k74 : compF Tryz.prog Tryz.f74 = some (c74,[10]) := by kernel_rfl
theorem n74 : Tryz.f74.ntmps = 57 := by kernel_rfl
structure ArB where
 a : Nat
 c : Nat
 k : Nat
 s : Nat
 f : Nat
 gw : Value
 d : Nat
 x : Nat
 y : Nat
 z : Nat
 D : Nat
 P : Nat
 S : Nat
 n1 : Nat
structure ArK (H : Heap) (A : ArB) (V : DevS) : Prop where
 rt : right A.D A.P A.S = true
 ca : H.cellsOf A.a = some ([.pointer (some ⟨A.c,0,none⟩),.pointer (some ⟨A.d,0,none⟩),.int .i64 A.D,.int .i64 A.P,.int .i64 A.S],.ex,1)
 cd : CodK (frm H A.n1) A.c A.k A.s A.f A.gw A.D A.P A.S
 dv : DevK H A.d A.x A.y A.z V
 lo : A.d < A.n1 ∧ A.x < A.n1 ∧ A.y < A.n1 ∧ A.z < A.n1 ∧ A.n1 ≤ A.a
 du : DevU V
 sz : allS A.D A.P A.S ≤ V.lock.length
abbrev ArX (A : ArB) (h H : Heap) : Prop := Xd A.d A.x A.y A.z h H
theorem ArK.cod {H : Heap} {A : ArB} {V : DevS} (k : ArK H A V) (hc : H.Closed) : CodK H A.c A.k A.s A.f A.gw A.D A.P A.S := k.cd.keep (from_gr hc _)
theorem ArK.keepX {H H' : Heap} {A : ArB} {V V' : DevS} (k : ArK H A V) (g : ArX A H H') (k' : DevK H' A.d A.x A.y A.z V') (u : DevU V') (hl : V'.lock.length = V.lock.length) : ArK H' A V' := by
 obtain ⟨l1,l2,l3,l4,l5⟩ := k.lo
 have hfr : Gr (frm H A.n1) (frm H' A.n1) := ⟨g.n,fun b o e => g.cl b o (from_m e).2,fun b o e => by
  obtain ⟨q1,q2⟩ := from_m e
  show (if A.n1 ≤ b then H'.m b else none) = some o
  rw [if_pos q1]
  exact g.m b o q2 (by omega) (by omega) (by omega) (by omega)⟩
 refine ⟨k.rt, ?_, k.cd.keep hfr, k', k.lo, u, by rw [hl]; exact k.sz⟩
 have := g.m A.a _ (m_of_cells k.ca) (by omega) (by omega) (by omega) (by omega)
 unfold Heap.cellsOf
 rw [this]
theorem ArK.keep {H H' : Heap} {A : ArB} {V : DevS} (k : ArK H A V) (g : Gr H H') : ArK H' A V := by
 obtain ⟨mx,ex,cx,hx⟩ := k.dv.cx
 obtain ⟨my,ey,cy,hy⟩ := k.dv.cy
 obtain ⟨mz,ez,cz,hz⟩ := k.dv.cz
 exact k.keepX (Xd.of g) ⟨cellsOf_keep g.m k.dv.cd,⟨mx,ex,cellsOf_keep g.m cx,hx⟩,⟨my,ey,cellsOf_keep g.m cy,hy⟩,⟨mz,ez,cellsOf_keep g.m cz,hz⟩,k.dv.ne⟩ k.du rfl
def secN (D P S slot at' i : Nat) : Nat := slot * ((D + P) * S) + i * S + at'
theorem sectorR_in {D P S : Nat} (hr : right D P S = true) (a k i : Nat) (ha : a ≤ 2) (hk : k < S) (hi : i < D + P) : sectorR D P S a k i = .tuple #[.int .i64 (secN D P S a k i : Nat),.int .i64 0] := by
 have hw : wide D P S = ((D + P : Nat) : Int) := by unfold wide; rw [if_pos hr]; omega
 unfold sectorR
 rw [if_neg (by rw [hr]; decide),if_pos ⟨by omega,by omega,by omega,by omega,by omega,by rw [hw]; omega⟩,(slot_right hr).1]
 unfold secN
 simp only [cI]
 congr 3
def thereF (S : Nat) (slot at' : Int) : Bool := decide (0 ≤ slot ∧ slot ≤ 2 ∧ 0 ≤ at' ∧ at' ≤ (S : Int) - 1)
theorem sectorR_0 {D P S : Nat} (hr : right D P S = true) (a k : Int) : ∃ x,sectorR D P S a k 0 = .tuple #[.int .i64 x,.int .i64 (if thereF S a k then 0 else 2)] := by
 obtain ⟨⟨hd1,hd8⟩,⟨hp2,hp6⟩,hn1,hn8⟩ := right_prop.1 hr
 have hw : wide D P S = ((D + P : Nat) : Int) := by unfold wide; rw [if_pos hr]; omega
 unfold sectorR thereF
 rw [if_neg (by rw [hr]; decide),hw]
 by_cases hv : 0 ≤ a ∧ a ≤ 2 ∧ 0 ≤ k ∧ k ≤ (S : Int) - 1
 ·rw [if_pos ⟨hv.1,hv.2.1,hv.2.2.1,hv.2.2.2,by omega,by omega⟩,if_pos (by simpa using hv)]
  exact ⟨_,rfl⟩
 ·rw [if_neg (fun q => hv ⟨q.1,q.2.1,q.2.2.1,q.2.2.2.1⟩),if_neg (by simpa using hv)]
  exact ⟨_,rfl⟩
theorem acut_area (c d : Value) (D P S : Value) : acut [c,d,D,P,S] 2 3 = some [D,P,S] := rfl
theorem there_ok (A : ArB) (V : DevS) (slot at' : Int) (h : Heap) (k : ArK h A V) :
  ACalls Tryz.prog 61 [.pointer (some ⟨A.a,0,none⟩),.int .i64 slot,.int .i64 at'] h fun r h' => r = .int .i64 (if thereF A.S slot at' then 0 else 2) ∧ h' = h := by
 refine acalls_of mix Tryz.func61 k61 n61 (by simp) fun hcl hb => ?_
 have hq := ptrq
 have c1 := k.ca
 have hgv : (.agg #[.int .i64 (A.D : Int),.int .i64 (A.P : Int),.int .i64 (A.S : Int)] : Value) = gv A.D A.P A.S := rfl
 simp [c61,hq,c1,apart,acut_area,hgv]
 refine (sector_ok A.D A.P A.S slot at' 0 h).eqK ?_
 obtain ⟨x,hx⟩ := sectorR_0 k.rt slot at'
 rw [hx]
 generalize (if thereF A.S slot at' = true then (0 : Int) else 2) = y
 simp
def secF (V : DevS) (i : Nat) : List UInt8 := V.read (64 * i) 64
theorem secF_len {V : DevS} (u : DevU V) {i : Nat} (hi : i < V.lock.length) : (secF V i).length = 64 := by
 have := u.dl
 unfold secF DevS.read
 simp; omega
theorem secF_put (L : List UInt8) (n : Nat) (s : List UInt8) (hs : s.length = 64) (N : Nat) (hL : L.length = 64 * N) (hn : n < N) (m : Nat) (hm : m < N) : ((putB L (64 * n) s).drop (64 * m)).take 64 = if m = n then s else (L.drop (64 * m)).take 64 := by
 have hl := putB_len L (64 * n) s (by omega)
 refine List.ext_getElem ?_ fun j h1 h2 => ?_
 ·rw [List.length_take,List.length_drop,hl]
  split
  ·omega
  ·rw [List.length_take,List.length_drop]
 ·have hj : j < 64 := by rw [List.length_take] at h1; omega
  rw [List.getElem_take,List.getElem_drop]
  have hg : ∀ (t : Nat) (ht : t < (putB L (64 * n) s).length),(putB L (64 * n) s)[t] = if q : 64 * n ≤ t ∧ t < 64 * n + 64 then s[t - 64 * n]'(by omega) else L[t]'(by omega) := fun t ht => by
   have e : putB L (64 * n) s = L.take (64 * n) ++ s ++ L.drop (64 * n + s.length) := rfl
   simp only [e,List.getElem_append,List.length_append,List.length_take,List.getElem_take,List.getElem_drop]
   have hmin : min (64 * n) L.length = 64 * n := by omega
   simp only [hmin,hs]
   by_cases q1 : t < 64 * n
   ·rw [dif_pos (by omega),dif_pos q1,dif_neg (by omega)]
   ·by_cases q2 : t < 64 * n + 64
    ·rw [dif_pos q2,dif_neg q1,dif_pos ⟨by omega,q2⟩]
    ·rw [dif_neg q2,dif_neg (by omega)]
     congr 1
     omega
  rw [hg]
  by_cases q : m = n
  ·subst q
   rw [dif_pos (by omega)]
   simp
  ·rw [dif_neg (by omega)]
   simp [q]
theorem putB_get? {α : Type} (L : List α) (o : Nat) (X : List α) (h : o + X.length ≤ L.length) (t : Nat) : (putB L o X)[t]? = if o ≤ t ∧ t < o + X.length then X[t - o]? else L[t]? := by
 have e : putB L o X = L.take o ++ X ++ L.drop (o + X.length) := rfl
 have hmin : min o L.length = o := by omega
 rw [e,List.getElem?_append,List.getElem?_append,List.length_append,List.length_take,hmin]
 by_cases q1 : t < o
 ·rw [if_pos (by omega),if_pos q1,if_neg (by omega),List.getElem?_take,if_pos q1]
 ·by_cases q2 : t < o + X.length
  ·rw [if_pos q2,if_neg q1,if_pos ⟨by omega,q2⟩]
  ·rw [if_neg q2,if_neg (by omega),List.getElem?_drop]
   congr 1
   omega
theorem putB_read {α : Type} (L : List α) (o a b : Nat) (X : List α) (h : o + X.length ≤ L.length) (hab : a + b ≤ X.length) : ((putB L o X).drop (o + a)).take b = (X.drop a).take b := by
 refine List.ext_getElem? fun t => ?_
 rw [List.getElem?_take,List.getElem?_take,List.getElem?_drop,List.getElem?_drop]
 by_cases ht : t < b
 ·rw [if_pos ht,if_pos ht,putB_get? L o X h,if_pos ⟨by omega,by omega⟩]
  congr 1
  omega
 ·rw [if_neg ht,if_neg ht]
theorem putB_putB {α : Type} (L : List α) (o : Nat) (A X Y : List α) (h : o + (A.length + X.length) ≤ L.length) (hY : Y.length ≤ X.length) : putB (putB L o (A ++ X)) (o + A.length) Y = putB L o (A ++ Y ++ X.drop Y.length) := by
 have hl := putB_len L o (A ++ X) (by rw [List.length_append]; exact h)
 refine List.ext_getElem? fun t => ?_
 rw [putB_get? _ _ _ (by rw [hl]; omega),putB_get? _ _ _ (by rw [List.length_append]; exact h),putB_get? _ _ _ (by simp only [List.length_append,List.length_drop]; omega)]
 simp only [List.length_append,List.length_drop,List.getElem?_append,List.getElem?_drop]
 by_cases q1 : t < o
 ·rw [if_neg (by omega),if_neg (by omega),if_neg (by omega)]
 ·by_cases q2 : t < o + A.length
  ·rw [if_neg (by omega),if_pos ⟨by omega,by omega⟩,if_pos (by omega),if_pos ⟨by omega,by omega⟩,if_pos (by omega),if_pos (by omega)]
  ·by_cases q3 : t < o + A.length + Y.length
   ·rw [if_pos ⟨by omega,by omega⟩,if_pos ⟨by omega,by omega⟩,if_pos (by omega),if_neg (by omega)]
    congr 1
    omega
   ·rw [if_neg (by omega)]
    by_cases q4 : t < o + (A.length + X.length)
    ·rw [if_pos ⟨by omega,q4⟩,if_neg (by omega),if_pos ⟨by omega,by omega⟩,if_neg (by omega)]
     congr 1
     omega
    ·rw [if_neg (by omega),if_neg (by omega)]
theorem and255 (pg : List UInt8) : andL (List.replicate pg.length 255) pg = pg := by
 induction pg with
 | nil => rfl
 | cons b pg ih =>
   show (255 &&& b) :: andL (List.replicate pg.length 255) pg = _
   rw [ih]
   congr 1
   exact Pl.all256 (p := fun b => 255 &&& b = b) (by decide +kernel) b
def layD (L : List UInt8) (n : Nat) (s : List UInt8) (j : Nat) : List UInt8 := putB L (64 * n) (s.take (16 * j) ++ List.replicate (64 - 16 * j) 255)
theorem layD_len (L : List UInt8) (n : Nat) (s : List UInt8) (hs : s.length = 64) (hL : 64 * n + 64 ≤ L.length) (j : Nat) (hj : j ≤ 4) : (layD L n s j).length = L.length := putB_len _ _ _ (by simp; omega)
theorem layD_step (L : List UInt8) (n : Nat) (s : List UInt8) (hs : s.length = 64) (hL : 64 * n + 64 ≤ L.length) (j : Nat) (hj : j < 4) :
  putB (layD L n s j) (64 * n + 16 * j) (andL (((layD L n s j).drop (64 * n + 16 * j)).take 16) ((s.drop (16 * j)).take 16)) = layD L n s (j + 1) := by
 have hA : (s.take (16 * j)).length = 16 * j := by simp; omega
 have hpg : ((s.drop (16 * j)).take 16).length = 16 := by simp; omega
 have hr : ((layD L n s j).drop (64 * n + 16 * j)).take 16 = List.replicate 16 255 := by
  unfold layD
  rw [putB_read _ _ _ _ _ (by simp; omega) (by simp; omega),List.drop_append,List.drop_of_length_le (by omega),hA,Nat.sub_self,List.drop_zero,List.nil_append,List.take_replicate]
  congr 1
  omega
 have h255 := and255 ((s.drop (16 * j)).take 16)
 rw [hpg] at h255
 rw [hr,h255]
 unfold layD
 have := putB_putB L (64 * n) (s.take (16 * j)) (List.replicate (64 - 16 * j) 255) ((s.drop (16 * j)).take 16) (by rw [hA]; simp; omega) (by rw [hpg]; simp; omega)
 rw [hA] at this
 rw [this]
 congr 1
 rw [hpg,List.drop_replicate,show 16 * (j + 1) = 16 * j + 16 by omega,List.take_add]
 congr 2
structure LaS where
 j : Nat
 V : DevS
 H : Heap
structure Laid (V V' : DevS) (n : Nat) (s : List UInt8) : Prop where
 u : DevU V'
 lk : V'.lock = V.lock
 se : ∀ m,m < V.lock.length → secF V' m = if m = n then s else secF V m
theorem secN_lt {D P S : Nat} (hr : right D P S = true) {a k i : Nat} (ha : a ≤ 2) (hk : k < S) (hi : i < D + P) : (secN D P S a k i : Int) < allS D P S ∧ secN D P S a k i < 3 * ((D + P) * S) := by
 obtain ⟨⟨hd1,hd8⟩,⟨hp2,hp6⟩,hn1,hn8⟩ := right_prop.1 hr
 have h1 : secN D P S a k i < 3 * ((D + P) * S) := by
  unfold secN
  have e1 : i * S + k < (D + P) * S := by
   calc i * S + k < i * S + S := by omega
    _ = (i + 1) * S := by rw [Nat.add_mul,Nat.one_mul]
    _ ≤ (D + P) * S := Nat.mul_le_mul_right _ (by omega)
  have e2 : a * ((D + P) * S) ≤ 2 * ((D + P) * S) := Nat.mul_le_mul_right _ ha
  omega
 refine ⟨?_,h1⟩
 unfold allS
 rw [if_pos hr,(slot_right hr).1]
 have : ((3 * ((D + P) * S) : Nat) : Int) = 3 * (((D : Int) + P) * S) := by push_cast; rfl
 omega
theorem allS_le {D P S : Nat} : allS D P S ≤ 354 := by
 unfold allS
 have := (slot_bound (d := (D : Int)) (p := P) (s := S)).2
 split <;> omega
theorem lay_ok (A : ArB) (V : DevS) (a k i : Nat) (ha : a ≤ 2) (hk : k < A.S) (hi : i < A.D + A.P) (s : List UInt8) (hs : s.length = 64) (h : Heap) (K : ArK h A V) (hlk : V.lock[secN A.D A.P A.S a k i]! = false) :
  ACalls Tryz.prog 74 [.pointer (some ⟨A.a, 0, none⟩), .int .i64 (a : Int), .int .i64 (k : Int), .int .i64 (i : Int), .string (bs s)] h fun r h' => r = .int .i64 0 ∧ ∃ V', ArK h' A V' ∧ Laid V V' (secN A.D A.P A.S a k i) s ∧ ArX A h h' := by
 refine acalls_of mix Tryz.func74 k74 n74 (by simp) fun hcl hb => ?_
 have hq := ptrq
 have c1 := K.ca
 have hgv : (.agg #[.int .i64 (A.D : Int),.int .i64 (A.P : Int),.int .i64 (A.S : Int)] : Value) = gv A.D A.P A.S := rfl
 have hse := sectorR_in K.rt a k i ha hk hi
 have hlt := (secN_lt K.rt ha hk hi).1
 have hsz := K.sz
 have hall : allS (A.D : Int) A.P A.S ≤ 354 := allS_le
 obtain ⟨n,hn⟩ : ∃ n,secN A.D A.P A.S a k i = n := ⟨_,rfl⟩
 rw [hn] at hse hlk hlt ⊢
 have hnl : n < V.lock.length := by omega
 have hba := cellsOf_lt hcl c1
 simp [c74,hq,c1,apart,acut_area,hgv]
 refine (sector_ok A.D A.P A.S a k i h).eqK ?_
 rw [hse]
 simp [c1,apart]
 refine (ferase_ok A.d A.x A.y A.z V K.du n hnl hlk h K.dv).mono' ?_
 rintro _ H1 hc1 _ ⟨rfl,k1,g1⟩
 have hU := K.du
 have hdl := hU.dl
 have hnl5 := hU.nl
 have hlayl := layD_len V.data n s hs (by omega)
 have hU1 : DevU (V.erase n) := ⟨hU.up,hU.lf,by show (putB V.data (64 * n) (List.replicate 64 255)).length = 64 * V.lock.length; rw [putB_len _ _ _ (by simp; omega),hdl],by show (putB V.wear n [_]).length = V.lock.length; rw [putB_len _ _ _ (by have := hU.wl; simp; omega),hU.wl],hU.nl⟩
 have K1 := K.keepX g1 k1 hU1 rfl
 have hd0 : (V.erase n).data = layD V.data n s 0 := by
  show putB V.data (64 * n) (List.replicate 64 255) = _
  unfold layD
  simp
 have hbs : (bs s).size = 64 := by rw [bs_size,hs]
 simp
 refine awp_loop_of (α := LaS) (fun z => z.j ≤ 4 ∧ ArK z.H A z.V ∧ z.V.data = layD V.data n s z.j ∧ z.V.lock = V.lock ∧ ArX A h z.H) (fun z => [(0,.pointer (some ⟨A.a,0,none⟩)),(4,.string (bs s)),(11,.int .i64 (n : Int)),(14,.int .i64 ((16 * z.j : Nat) : Int))]) (fun z => z.H) (fun z => 4 - z.j) ⟨0,V.erase n,H1⟩
  ⟨Nat.zero_le _,K1,hd0,rfl,g1⟩ ⟨g1.n,Nat.le_refl _,fun _ _ e => e,hc1⟩ (by simp; exact ⟨.ptr (by have := g1.n; show A.a < _; omega),.string,.int,.int⟩) ?_
 rintro ⟨j,V2,H⟩ ⟨hj,K2,hd2,hl2,g2⟩
 dsimp only at hj K2 hd2 hl2 g2 ⊢
 have c2 := K2.ca
 by_cases hlt4 : j < 4
 ·have hi' : ((16 * j : Nat) : Int) < 64 := by omega
  have w4 : IntKind.i64.wrap (((16 * j : Nat) : Int) + 16) = ((16 * (j + 1) : Nat) : Int) := wI (by omega)
  have w5 : IntKind.i64.wrap ((n : Int) * 64) = ((64 * n : Nat) : Int) := wI (by omega)
  have w6 : IntKind.i64.wrap (((64 * n : Nat) : Int) + ((16 * j : Nat) : Int)) = ((64 * n + 16 * j : Nat) : Int) := wI (by omega)
  have hab : abounds 64 64 (some (.int .i64 ((16 * j : Nat) : Int))) (some (.int .i64 ((16 * (j + 1) : Nat) : Int))) none = some (16 * j,16 * (j + 1),64) := abounds_lohi (by omega) (by omega)
  have hex : (bs s).extract (16 * j) (16 * (j + 1)) = bs ((s.drop (16 * j)).take 16) := by
   rw [bs_extract]
   congr 1
   rw [List.drop_take]
   congr 1
   omega
  have hpg : ((s.drop (16 * j)).take 16).length = 16 := by simp; omega
  simp [c74_0, hi', c2, apart, w4, w5, w6, hbs, hab, hex, -Int.natCast_mul, -Int.natCast_add]
  have hU2 := K2.du
  have hla : 64 * n + 16 * j + 16 ≤ V2.data.length := by rw [hd2,hlayl j (by omega)]; omega
  have hlk2 : V2.lock[(64 * n + 16 * j) / 64]! = false := by rw [hl2,show (64 * n + 16 * j) / 64 = n by omega]; exact hlk
  refine (fprog_ok A.d A.x A.y A.z V2 hU2 (64 * n + 16 * j) hla (by omega) hlk2 _ hpg H K2.dv).mono' ?_
  rintro _ H3 c3 _ ⟨rfl,k3,g3⟩
  have hd3 : (V2.prog (64 * n + 16 * j) ((s.drop (16 * j)).take 16)).data = layD V.data n s (j + 1) := by
   show putB V2.data (64 * n + 16 * j) (andL ((V2.data.drop (64 * n + 16 * j)).take 16) ((s.drop (16 * j)).take 16)) = _
   rw [hd2]
   exact layD_step V.data n s hs (by omega) j hlt4
  have hU3 : DevU (V2.prog (64 * n + 16 * j) ((s.drop (16 * j)).take 16)) := ⟨hU2.up,hU2.lf,by rw [hd3,hlayl (j + 1) (by omega),hdl,← hl2]; rfl,hU2.wl,hU2.nl⟩
  have K3 := K2.keepX g3 k3 hU3 rfl
  have g23 := Xd.trans g2 g3
  simp [w4,-Int.natCast_mul,-Int.natCast_add]
  exact ⟨⟨j + 1,_,H3⟩,by show 4 - (j + 1) < 4 - j; omega,⟨by show j + 1 ≤ 4; omega,K3,hd3,hl2,g23⟩,⟨g23.n,Nat.le_refl _,fun _ _ e => e,c3⟩,.ptr (by have := g23.n; show A.a < H3.n; omega),.string,.int,rfl,.int⟩
 ·have hje : j = 4 := by omega
  subst hje
  simp [c74_0]
  refine ⟨V2,K2,⟨K2.du,hl2,fun m hm => ?_⟩,g2⟩
  unfold secF DevS.read
  rw [hd2]
  have : layD V.data n s 4 = putB V.data (64 * n) s := by
   unfold layD
   rw [List.take_of_length_le (by omega)]
   simp
  rw [this]
  exact secF_put V.data n s hs V.lock.length hdl hnl m hm
def c63_0 : AC := sO [oP 37 (bT .lss 36 35)] (.seq (cT 37 .skip (.exit 0)) (.seq (.block 1 (sO [mV 38 36,oP 39 (iA 1 34 36),oP 40 (lN 39),mV 12 38,mV 13 40] (sO [mV 41 0,mV 42 1,mV 43 2,mV 44 12,mV 45 13,oP 46 (.call 74 [tP 41,tP 42,tP 43,tP 44,tP 45]),mV 14 46] (sO [mV 47 14,oP 48 (bK .neq 47 0)] (cT 48 (sO [mV 49 14,mV 8 49] .ret) .skip))))) (.ops [oP 50 (bK .add 36 1),mV 36 50])))
def c63 : AC := sO [oP 8 (.mv (kI 0))] (.seq (sO [mV 15 0,mV 16 1,mV 17 2,oP 18 (.call 61 [tP 15,tP 16,tP 17]),mV 9 18] (sO [mV 19 9,oP 20 (bK .neq 19 0)] (cT 20 (sO [mV 21 9,mV 8 21] .ret) .skip))) (sO [mV 23 0,oP 24 (nC 23),oP 25 (fA 0 24),oP 26 (lN 25),mV 27 3,oP 28 (.call 98 [tP 26,tP 27]),mV 22 28,oP 29 (xR 22 0),oP 30 (xR 22 1),mV 10 29,mV 11 30] (.seq (sO [mV 31 11,oP 32 (bK .neq 31 0)] (cT 32 (sO [mV 33 11,mV 8 33] .ret) .skip)) (.seq (sO [mV 34 10,oP 35 (lS 34),oP 36 (.mv (kI 0))] (.block 0 (.loop c63_0))) (sO [oP 8 (.mv (kI 0))] .ret)))))
theorem k63 : compF Tryz.prog Tryz.f63 = some (c63,[8]) := by kernel_rfl
theorem n63 : Tryz.f63.ntmps = 51 := by kernel_rfl
structure Wrote (A : ArB) (V V' : DevS) (a k : Nat) (T : List (List UInt8)) (j : Nat) : Prop where
 lk : V'.lock = V.lock
 at' : ∀ i,i < j → secF V' (secN A.D A.P A.S a k i) = T[i]!
 no : ∀ m,m < V.lock.length → (∀ i,i < j → m ≠ secN A.D A.P A.S a k i) → secF V' m = secF V m
theorem secN_inj {D P S a k i j : Nat} (hS : 0 < S) (h : secN D P S a k i = secN D P S a k j) : i = j := by
 unfold secN at h
 exact Nat.eq_of_mul_eq_mul_right hS (by omega)
theorem Wrote.zero (A : ArB) (V : DevS) (a k : Nat) (T : List (List UInt8)) : Wrote A V V a k T 0 := ⟨rfl,fun i hi => by omega,fun _ _ _ => rfl⟩
theorem Wrote.succ {A : ArB} {V V1 V2 : DevS} {a k : Nat} {T : List (List UInt8)} {j : Nat} (hS : 0 < A.S) (w : Wrote A V V1 a k T j) (hj : ∀ i,i ≤ j → secN A.D A.P A.S a k i < V.lock.length) (l : Laid V1 V2 (secN A.D A.P A.S a k j) T[j]!) : Wrote A V V2 a k T (j + 1) := by
 refine ⟨l.lk.trans w.lk,fun i hi => ?_,fun m hm h => ?_⟩
 ·rw [l.se _ (by rw [w.lk]; exact hj i (by omega))]
  by_cases q : i = j
  ·subst q; rw [if_pos rfl]
  ·rw [if_neg fun e => q (secN_inj hS e)]
   exact w.at' i (by omega)
 ·rw [l.se m (by rw [w.lk]; exact hm),if_neg (h j (by omega))]
  exact w.no m hm fun i hi => h i (by omega)
def secs (A : ArB) (L : List (List UInt8)) : List (List UInt8) := (encB A.D A.P L).map crE
theorem secs_len (A : ArB) (L : List (List UInt8)) : (secs A L).length = A.D + A.P := by unfold secs encB; rw [List.length_map,foldE_len]
theorem crE_len (t : List UInt8) : (crE t).length = t.length + 4 := by unfold crE; rw [List.length_append,bN_len]
theorem secs_64 (A : ArB) (L : List (List UInt8)) : ∀ x ∈ secs A L,x.length = 64 := fun x hx => by
 unfold secs at hx
 obtain ⟨y,hy,rfl⟩ := List.mem_map.1 hx
 rw [crE_len,foldE_60 _ _ _ _ y hy]
theorem thereF_in {S a k : Nat} (ha : a ≤ 2) (hk : k < S) : thereF S a k = true := by unfold thereF; simp; omega
theorem awrite_ok (A : ArB) (V : DevS) (a k : Nat) (ha : a ≤ 2) (hk : k < A.S) (L : List (List UInt8)) (hL : L.length = A.D) (v : Value) (h : Heap) (K : ArK h A V) (hv : BlS h v L) (hlk : ∀ i,i < A.D + A.P → V.lock[secN A.D A.P A.S a k i]! = false) :
  ACalls Tryz.prog 63 [.pointer (some ⟨A.a, 0, none⟩), .int .i64 (a : Int), .int .i64 (k : Int), v] h fun r h' => r = .int .i64 0 ∧ ∃ V', ArK h' A V' ∧ Wrote A V V' a k (secs A L) (A.D + A.P) ∧ ArX A h h' := by
 refine acalls_of mix Tryz.func63 k63 n63 (by simp) fun hcl hb => ?_
 have c1 := K.ca
 have hba := cellsOf_lt hcl c1
 simp [c63]
 refine (there_ok A V a k h K).eqK ?_
 rw [thereF_in ha hk]
 simp [c1,apart]
 refine (cenc_ok A.c A.k A.s A.f A.gw A.D A.P A.S K.rt L hL v h (K.cod hcl) hv).mono' ?_
 rintro _ H1 hc1 _ ⟨vs,rfl,n1⟩
 have g1 := n1.gr
 have K1 := K.keep g1
 have hsl := secs_len A L
 have hs64 := secs_64 A L
 have hT : (encB A.D A.P L).map crE = secs A L := rfl
 rw [hT] at n1
 generalize secs A L = T at *
 obtain ⟨nm,lT,xT,_⟩ := n1
 rw [hsl] at lT
 obtain ⟨av,rfl⟩ := LAt.form lT
 have bT := lat_bel hc1 lT
 have g1n := g1.n
 obtain ⟨l1,l2,l3,l4,l5⟩ := K.lo
 obtain ⟨⟨hd1,hd8⟩,⟨hp2,hp6⟩,hn1,hn8⟩ := right_prop.1 K.rt
 have hsz := K.sz
 have hall : ∀ i,i < A.D + A.P → secN A.D A.P A.S a k i < V.lock.length := fun i hi => by have := (secN_lt K.rt ha hk hi).1; omega
 simp
 refine awp_loop_of (α := LaS) (fun z => z.j ≤ A.D + A.P ∧ ArK z.H A z.V ∧ Wrote A V z.V a k T z.j ∧ LAt z.H 1 nm (.slice av (A.D + A.P) (A.D + A.P)) (A.D + A.P) (T.map sv) ∧ ArX A h z.H ∧ H1.n ≤ z.H.n) (fun z => [(0,.pointer (some ⟨A.a,0,none⟩)),(1,.int .i64 (a : Int)),(2,.int .i64 (k : Int)),(34,.slice av (A.D + A.P) (A.D + A.P)),(35,.int .i64 ((A.D : Int) + (A.P : Int))),(36,.int .i64 (z.j : Int))]) (fun z => z.H) (fun z => A.D + A.P - z.j) ⟨0,V,H1⟩
  ⟨Nat.zero_le _,K1,Wrote.zero A V a k T,lT,Xd.of g1,Nat.le_refl _⟩ ⟨g1n,Nat.le_refl _,fun _ _ e => e,hc1⟩ (by simp; exact ⟨.ptr (by show A.a < _; omega),.int,.int,bT,.int,.int⟩) ?_
 rintro ⟨j,V2,H⟩ ⟨hj,K2,w2,lT2,g2,n2⟩
 dsimp only at hj K2 w2 lT2 g2 n2 ⊢
 by_cases hlt : j < A.D + A.P
 ·have hi' : (j : Int) < (A.D : Int) + (A.P : Int) := by omega
  have w4 := w64n (i := j) (by omega)
  have hjT : j < T.length := by omega
  have sT : Sl sv H (.slice av (A.D + A.P) (A.D + A.P)) T := by
   rcases lT2 with ⟨_,q1,q2,_⟩ | ⟨x,md,e,_,q1,h3,h4,_⟩
   ·omega
   ·exact .inr ⟨x,0,_,_,md,e,by rw [q1,hsl],h3,by omega,fun _ => by rw [List.length_map]; omega,fun i hi => by simp [hi]⟩
  obtain ⟨b1,o1,cs,m1,e1,rfl,_,q1,q2⟩ := Sl.at sT hjT
  have hTj : T[j]! = T[j] := getElem!_pos T j hjT
  have h64 : (T[j]).length = 64 := hs64 _ (List.getElem_mem hjT)
  have hsv : sv T[j] = .string (bs T[j]) := rfl
  simp [c63_0, hi', aidx_of hlt, q1, apart, q2, hsv, -Int.natCast_add]
  refine (lay_ok A V2 a k j ha hk hlt T[j] h64 H K2 (by rw [w2.lk]; exact hlk j hlt)).mono' ?_
  rintro _ H3 c3 _ ⟨rfl, V3, K3, l3', g3⟩
  rw [← hTj] at l3'
  have g23 := Xd.trans g2 g3
  have w3 := w2.succ (by omega) (fun i hi => hall i (by omega)) l3'
  have lT3 := lT2.up (H := H3) fun u e ob e2 => by
   have := xT u e
   exact g3.m u ob e2 (by omega) (by omega) (by omega) (by omega)
  have n3 := g3.n
  simp [w4,-Int.natCast_add]
  exact ⟨⟨j + 1,V3,H3⟩,by show A.D + A.P - (j + 1) < A.D + A.P - j; omega,⟨by show j + 1 ≤ A.D + A.P; omega,K3,w3,lT3,g23,by show H1.n ≤ H3.n; omega⟩,⟨g23.n,Nat.le_refl _,fun _ _ e => e,c3⟩,.ptr (by show A.a < H3.n; omega),.int,.int,lat_bel c3 lT3,.int,rfl,.int⟩
 ·have hje : j = A.D + A.P := by omega
  have hi2 : ¬ ((j : Int) < (A.D : Int) + (A.P : Int)) := by omega
  subst hje
  simp [c63_0]
  exact ⟨V2,K2,w2,g2⟩
end Go.Proofs.YtdnmkenamgfjoaaGreat.arbd
