/-
 Ab: words for contracts: frames as lists,loops,heaps with a few blocks more,slices that read as lists.
-/
import Derived.Test.YtdnmkenamgfjoaaGreatAbCells
set_option linter.unusedSimpArgs false
set_option linter.unusedVariables false
namespace Go.Ab
set_option linter.unusedSectionVars false
variable [Inhabited TabBox]
open Go.RowKit
def mkF : List (Nat × Value) → AF
 | [],_ => unk
 | (t,v) :: l,i => if i = t then v else mkF l i
theorem mask_mkF {n : Nat} {f : AF} : ∀ {l : List (Nat × Value)},(∀ p ∈ l,f p.1 = p.2 ∧ VBelow n p.2) → Mask n (mkF l) f
 | [],_ => fun i => .inl rfl
 | (t,v) :: l,h => fun i => by
   unfold mkF
   by_cases hi : i = t
   ·rw [if_pos hi]
    have := h (t,v) (by simp)
    exact .inr ⟨by rw [hi]; exact this.1.symm,this.2⟩
   ·rw [if_neg hi]
    exact mask_mkF (fun p hp => h p (by simp [hp])) i
theorem ACalls.mono' {P : Program} {g : FuncId} {args : List Value} {h : Heap} {R R' : Value → Heap → Prop} (hh : ACalls P g args h R) (hr : ∀ v h', h'.Closed → VBelow h'.n v → R v h' → R' v h') : ACalls P g args h R' :=
 fun B μ w args' rel la => (hh B μ w args' rel la).mono fun _ _ ⟨v, v', h', μ', e, r, hr', b, x, l, q⟩ => ⟨v, v', h', μ', e, r, hr', b, x, l, hr _ _ hr'.closed (r.vbelow fun b mi e => (hr'.dom b mi e).1) q⟩
theorem awpD_mono {P : Program} {K K' : AF → Heap → Prop} (hk : ∀ f h,K f h → K' f h) : ∀ {st : List (List AOper × List AOper × List AOper)} {f : AF} {h : Heap},awpD P st f h K → awpD P st f h K'
 | [],_,_,hh => hk _ _ hh
 | (e,w,rc) :: r,f,h,hh => by
   simp only [awpD] at hh ⊢
   exact awpL_imp (fun f h q => awpL_imp (fun f h q => ⟨q.1,awpD_mono hk q.2⟩) q) hh
theorem awpT_mono {P : Program} {K K' : AF → Heap → Prop} (hk : ∀ f h,K f h → K' f h) : ∀ {t : DT} {b : Bool} {f : AF} {h : Heap},awpT P b t f h K → awpT P b t f h K'
 | .nil,true,_,_,hh => hk _ _ hh
 | .nil,false,_,_,_ => trivial
 | .br w rc e t alt,b,f,h,hh => by
   rw [awpT_br] at hh ⊢
   exact ⟨awpL_imp (fun f h q => ⟨q.1,awpL_imp (fun f h q => awpT_mono hk q) q.2⟩) hh.1,awpT_mono hk hh.2⟩
theorem awp_mono {P : Program} {n0 : Nat} : ∀ {c : AC} {Q Q' : AQ} {f : AF} {h : Heap},(∀ e f h,Q e f h → Q' e f h) → awp P n0 c Q f h → awp P n0 c Q' f h
 | .ops l, Q, Q', f, h, hq, hh => awpL_imp (fun f h q => hq _ _ _ q) hh
 | .draw st, Q, Q', f, h, hq, hh => awpD_mono (fun f h q => hq _ _ _ q) hh
 | .drawT e t, Q, Q', f, h, hq, hh => awpL_imp (fun f h q => awpT_mono (fun f h q => hq _ _ _ q) q) hh
 | .seq a b, Q, Q', f, h, hq, hh => awp_mono (c := a) (fun e f h q => by
   cases e with
   | normal => exact awp_mono (c := b) hq q
   | _ => exact hq _ _ _ q) hh
 | .cond c a b, Q, Q', f, h, hq, hh => by
   simp only [awp] at hh ⊢
   split at hh
   ·exact ⟨fun e => awp_mono (c := a) hq (hh.1 e),fun e => awp_mono (c := b) hq (hh.2 e)⟩
   ·exact hh
 | .block id c, Q, Q', f, h, hq, hh => awp_mono (c := c) (fun e f h q => by
   cases e with
   | exit id' =>
     simp only [ablock] at q ⊢
     split
     ·rename_i hi; rw [if_pos hi] at q; exact hq _ _ _ q
     ·rename_i hi; rw [if_neg hi] at q; exact hq _ _ _ q
   | _ => exact hq _ _ _ q) hh
 | .loop c, Q, Q', f, h, hq, hh => by
   obtain ⟨I,hi,hr⟩ := hh
   refine ⟨I,hi,fun n f h i => awp_mono (c := c) (fun e f h q => ?_) (hr n f h i)⟩
   cases e with
   | normal => exact q
   | _ => exact hq _ _ _ q
 | .exit id, Q, Q', f, h, hq, hh => hq _ _ _ hh
 | .ret, Q, Q', f, h, hq, hh => hq _ _ _ hh
 | .skip, Q, Q', f, h, hq, hh => hq _ _ _ hh
section
variable {P : Program} {n0 : Nat} {Q : AQ} {f : AF} {h : Heap} {c : AC}
theorem awp_loop_of {α : Type} (Inv : α → Prop) (F : α → List (Nat × Value)) (H : α → Heap) (meas : α → Nat) (x0 : α) (hi : Inv x0) (hs : (H x0).Sub n0 h) (hm : ∀ p ∈ F x0,f p.1 = p.2 ∧ VBelow (H x0).n p.2)
  (round : ∀ x,Inv x → awp P n0 c (athen (fun f' h' => ∃ y,meas y < meas x ∧ Inv y ∧ (H y).Sub n0 h' ∧ ∀ p ∈ F y,f' p.1 = p.2 ∧ VBelow (H y).n p.2) Q) (mkF (F x)) (H x)) : awp P n0 (.loop c) Q f h := by
 refine ⟨fun n f h => ∃ x,Inv x ∧ meas x = n ∧ f = mkF (F x) ∧ h = H x,⟨meas x0,mkF (F x0),H x0,⟨x0,hi,rfl,rfl,rfl⟩,hs,mask_mkF hm⟩,?_⟩
 rintro n f h ⟨x,hix,rfl,rfl,rfl⟩
 have := round x hix
 refine awp_mono ?_ this
 intro e f h q
 cases e with
 | normal =>
   obtain ⟨y,hlt,hiy,hs,hm⟩ := q
   exact ⟨meas y,_,_,hlt,⟨y,hiy,rfl,rfl,rfl⟩,hs,mask_mkF hm⟩
 | _ => exact q
end
@[simp] theorem ne_s2 (n : Nat) : (n = n + 1 + 1) = False := by simp only [eq_iff_iff,iff_false]; omega
@[simp] theorem lt_s2 (n : Nat) : (n < n + 1 + 1) = True := by simp only [eq_iff_iff,iff_true]; omega
@[simp] theorem ne_s3 (n : Nat) : (n = n + 1 + 1 + 1) = False := by simp only [eq_iff_iff,iff_false]; omega
@[simp] theorem lt_s3 (n : Nat) : (n < n + 1 + 1 + 1) = True := by simp only [eq_iff_iff,iff_true]; omega
@[simp] theorem ne_s4 (n : Nat) : (n = n + 1 + 1 + 1 + 1) = False := by simp only [eq_iff_iff,iff_false]; omega
@[simp] theorem lt_s4 (n : Nat) : (n < n + 1 + 1 + 1 + 1) = True := by simp only [eq_iff_iff,iff_true]; omega
@[simp] theorem ne_s5 (n : Nat) : (n = n + 1 + 1 + 1 + 1 + 1) = False := by simp only [eq_iff_iff,iff_false]; omega
@[simp] theorem lt_s5 (n : Nat) : (n < n + 1 + 1 + 1 + 1 + 1) = True := by simp only [eq_iff_iff,iff_true]; omega
@[simp] theorem ne_s6 (n : Nat) : (n = n + 1 + 1 + 1 + 1 + 1 + 1) = False := by simp only [eq_iff_iff,iff_false]; omega
@[simp] theorem lt_s6 (n : Nat) : (n < n + 1 + 1 + 1 + 1 + 1 + 1) = True := by simp only [eq_iff_iff,iff_true]; omega
@[simp] theorem ne_s7 (n : Nat) : (n = n + 1 + 1 + 1 + 1 + 1 + 1 + 1) = False := by simp only [eq_iff_iff,iff_false]; omega
@[simp] theorem lt_s7 (n : Nat) : (n < n + 1 + 1 + 1 + 1 + 1 + 1 + 1) = True := by simp only [eq_iff_iff,iff_true]; omega
@[simp] theorem ne_s8 (n : Nat) : (n = n + 1 + 1 + 1 + 1 + 1 + 1 + 1 + 1) = False := by simp only [eq_iff_iff,iff_false]; omega
@[simp] theorem lt_s8 (n : Nat) : (n < n + 1 + 1 + 1 + 1 + 1 + 1 + 1 + 1) = True := by simp only [eq_iff_iff,iff_true]; omega
theorem nrn {a b : Nat} (h : a = b) : a = b := h
@[simp] theorem push_n (h : Heap) (o : AObj) : (h.push o).n = h.n + 1 := nrn rfl
@[simp] theorem set_n (h : Heap) (b : Nat) (o : AObj) : (h.set b o).n = h.n := nrn rfl
@[simp] theorem kill_n (h : Heap) (b : Nat) : (h.kill b).n = h.n := nrn rfl
theorem push_m (h : Heap) (o : AObj) (b : Nat) : (h.push o).m b = if b = h.n then some o else h.m b := rfl
theorem set_m (h : Heap) (b : Nat) (o : AObj) (b' : Nat) : (h.set b o).m b' = if b' = b then some o else h.m b' := rfl
theorem kill_m (h : Heap) (b b' : Nat) : (h.kill b).m b' = if b' = b then none else h.m b' := rfl
theorem Heap.Sub.refl {h : Heap} (hc : h.Closed) : h.Sub h.n h := ⟨Nat.le_refl _,Nat.le_refl _,fun _ _ e => e,hc⟩
theorem AObj.Below.mono {o : AObj} {n m : Nat} (h : o.Below n) (hle : n ≤ m) : o.Below m := by
 cases o with
 | cells c md e => exact fun v hv => (h v hv).mono hle
 | map es cl => exact fun e he => ⟨(h e he).1.mono hle,(h e he).2.mono hle⟩
 | strIter s p => trivial
 | mapIter m a b c => exact fun b hb => by have := h b hb; omega
theorem closed_push {h : Heap} {o : AObj} (hc : h.Closed) (ho : o.Below (h.n + 1)) : (h.push o).Closed := by
 intro b o' e
 rw [push_m] at e
 split at e
 ·cases e; exact ⟨by simp; omega,ho⟩
 ·have := hc b o' e; exact ⟨by simp; omega,this.2.mono (by simp)⟩
theorem closed_set {h : Heap} {b : Nat} {o : AObj} (hc : h.Closed) (hb : b < h.n) (ho : o.Below h.n) : (h.set b o).Closed := by
 intro b' o' e
 rw [set_m] at e
 split at e
 ·cases e; rename_i hb'; subst hb'; exact ⟨hb,ho⟩
 ·exact hc b' o' e
def Heap.with1 (h : Heap) (b : Nat) (o : AObj) (n : Nat) : Heap := ⟨fun b' => if b' = b then some o else h.m b', n⟩
@[simp] theorem with1_n (h : Heap) (b : Nat) (o : AObj) (n : Nat) : (h.with1 b o n).n = n := nrn rfl
theorem with1_m (h : Heap) (b : Nat) (o : AObj) (n b' : Nat) : (h.with1 b o n).m b' = if b' = b then some o else h.m b' := rfl
theorem closed_with1 {h : Heap} {b : Nat} {o : AObj} {n : Nat} (hc : h.Closed) (hb : b < n) (hn : h.n ≤ n) (ho : o.Below n) : (h.with1 b o n).Closed := by
 intro b' o' e
 rw [with1_m] at e
 split at e
 ·cases e; rename_i hb'; subst hb'; exact ⟨hb,ho⟩
 ·have := hc b' o' e; exact ⟨by show _ < n; omega,this.2.mono hn⟩
def Sl {α : Type} (enc : α → Value) (h : Heap) (v : Value) (l : List α) : Prop :=
 (∃ c,v = .slice none 0 c ∧ l = []) ∨ ∃ b o cap c m e,v = .slice (some ⟨b,o,none⟩) l.length cap ∧ h.cellsOf b = some (c,m,e) ∧ l.length ≤ cap ∧ (0 < l.length → o + l.length ≤ c.length) ∧ ∀ i (hi : i < l.length),c[o + i]? = some (enc l[i])
def Heap.upto (h : Heap) (n : Nat) : Heap := ⟨h.m,n⟩
@[simp] theorem upto_n (h : Heap) (n : Nat) : (h.upto n).n = n := nrn rfl
@[simp] theorem upto_m (h : Heap) (n b : Nat) : (h.upto n).m b = h.m b := rfl
theorem closed_upto {h : Heap} {n : Nat} (hc : h.Closed) (hn : h.n ≤ n) : (h.upto n).Closed := by
 intro b o e
 have := hc b o e
 exact ⟨by show b < n; omega,this.2.mono hn⟩
def Own (h0 : Heap) (esz : Nat) (len : Nat) (cells : List Value) (v : Value) (H : Heap) : Prop :=
 h0.n ≤ H.n ∧ ((v = .slice none 0 0 ∧ cells = [] ∧ len = 0 ∧ H = h0.upto H.n) ∨
  ∃ nm md e,h0.n ≤ nm ∧ nm < H.n ∧ v = .slice (some ⟨nm,0,none⟩) len len ∧ cells.length = len * esz ∧ (md.isLoose = true → e = esz) ∧ H = h0.with1 nm (.cells cells md e) H.n)
theorem Own.start (h0 : Heap) (esz : Nat) : Own h0 esz 0 [] (.slice none 0 0) h0 := ⟨Nat.le_refl _,.inl ⟨rfl,rfl,rfl,rfl⟩⟩
theorem Own.made (h0 : Heap) (esz : Nat) : Own h0 esz 0 [] (.slice (some ⟨h0.n,0,none⟩) 0 0) (h0.push (.cells [] .ex 1)) :=
 ⟨Nat.le_succ _,.inr ⟨h0.n,.ex,1,Nat.le_refl _,Nat.lt_succ_self _,rfl,by simp,(fun e => absurd e (by decide)),rfl⟩⟩
theorem Own.closed {h0 H : Heap} {esz len : Nat} {cells : List Value} {v : Value} (o : Own h0 esz len cells v H) (hc : h0.Closed) (hb : ∀ x ∈ cells,VBelow h0.n x) : H.Closed := by
 obtain ⟨hn,⟨_,_,_,hH⟩ | ⟨nm,md,e,h1,h2,_,_,_,hH⟩⟩ := o
 ·rw [hH]; exact closed_upto hc hn
 ·rw [hH]; exact closed_with1 hc h2 hn (fun x hx => (hb x hx).mono hn)
theorem Own.below {h0 H : Heap} {esz len : Nat} {cells : List Value} {v : Value} (o : Own h0 esz len cells v H) : VBelow H.n v := by
 obtain ⟨hn,⟨rfl,_,_,_⟩ | ⟨nm,md,e,h1,h2,rfl,_,_,_⟩⟩ := o
 ·exact .snil
 ·exact .slice h2
theorem Own.old {h0 H : Heap} {esz len : Nat} {cells : List Value} {v : Value} (o : Own h0 esz len cells v H) {b : Nat} (hb : b < h0.n) : H.m b = h0.m b := by
 obtain ⟨hn,⟨_,_,_,hH⟩ | ⟨nm,md,e,h1,h2,_,_,_,hH⟩⟩ := o
 ·rw [hH]; rfl
 ·rw [hH,with1_m,if_neg (by omega)]
theorem Own.sub {h0 H : Heap} {esz len : Nat} {cells : List Value} {v : Value} (o : Own h0 esz len cells v H) (hc : h0.Closed) : h0.Sub h0.n H :=
 ⟨Nat.le_refl _,o.1,fun b ob e => by rw [o.old (hc b ob e).1]; exact e,hc⟩
theorem Own.len {h0 H : Heap} {esz len : Nat} {cells : List Value} {v : Value} (o : Own h0 esz len cells v H) : cells.length = len * esz := by
 obtain ⟨hn,⟨_,rfl,rfl,hH⟩ | ⟨nm,md,e,h1,h2,_,h3,_,hH⟩⟩ := o
 ·simp
 ·exact h3
theorem Own.sl {α : Type} {enc : α → Value} {h0 H : Heap} {len : Nat} {l : List α} {v : Value} (o : Own h0 1 len (l.map enc) v H) : Sl enc H v l := by
 have hl := o.len
 obtain ⟨hn,⟨rfl,h1,rfl,hH⟩ | ⟨nm,md,e,h1,h2,rfl,h3,_,hH⟩⟩ := o
 ·exact .inl ⟨0,rfl,by simpa using h1⟩
 ·have hle : l.length = len := by simpa using hl
  subst hle
  refine .inr ⟨nm,0,_,l.map enc,md,e,rfl,?_,Nat.le_refl _,by simp,fun i hi => by simp [hi]⟩
  unfold Heap.cellsOf
  rw [hH,with1_m,if_pos rfl]
theorem Own.first {h0 H : Heap} {len : Nat} {cells : List Value} {v : Value} (o : Own h0 1 len cells v H) : afirst H 1 len v = some cells := by
 obtain ⟨hn,⟨rfl,rfl,rfl,hH⟩ | ⟨nm,md,e,h1,h2,rfl,h3,_,hH⟩⟩ := o
 ·rfl
 ·have hcc : H.cellsOf nm = some (cells,md,e) := by
   unfold Heap.cellsOf
   rw [hH,with1_m,if_pos rfl]
  simp only [afirst,hcc,if_true]
  unfold acut
  rw [if_pos (by omega),List.drop_zero,List.take_of_length_le (by omega)]
theorem Own.app {h0 H H' : Heap} {t esz bytes len k : Nat} {cells new : List Value} {v : Value} (o : Own h0 esz len cells v H) (hc : h0.Closed)
  (hle : H.n ≤ H'.n) (hext : ∀ b,b < H.n → H'.m b = H.m b) (hk : 0 < k) (hnew : new.length = k * esz) (hsm : (len + k) * (bytes + 1) ≤ 1099511627776) :
  ∃ a c,v = .slice a len c ∧ ∃ v2 H2 H3,aapp H' t esz bytes a len c new k = some (v2,H2) ∧ Own h0 esz (len + k) (cells ++ new) v2 H3 ∧ H3.n = H2.n ∧ (∀ b o,H3.m b = some o → H2.m b = some o) := by
 obtain ⟨hn,⟨rfl,rfl,rfl,hH⟩ | ⟨nm,md,e,h1,h2,rfl,hcl,hmd,hH⟩⟩ := o
 ·refine ⟨none,0,rfl,.slice (some ⟨H'.n,0,none⟩) k k,H'.push (.cells new (.loose t) esz),h0.with1 H'.n (.cells new (.loose t) esz) (H'.n + 1),?_,⟨by show h0.n ≤ H'.n + 1; omega,.inr ⟨H'.n,.loose t,esz,by omega,by show H'.n < H'.n + 1; omega,by simp,by simpa using hnew,fun _ => rfl,by simp⟩⟩,rfl,fun b ob e => ?_⟩
  ·simp only [Nat.zero_add] at hsm
   unfold aapp
   simp only [Nat.zero_add]
   rw [if_pos ⟨hsm,hnew⟩]
   simp [show k ≠ 0 by omega]
  ·rw [with1_m] at e
   rw [push_m]
   split at e
   ·rename_i hb; rw [if_pos hb]; exact e
   ·rename_i hb
    rw [if_neg hb]
    have := (hc b ob e).1
    rw [hext b (by omega),hH]
    exact e
 ·have hcell : H'.cellsOf nm = some (cells,md,e) := by
   unfold Heap.cellsOf
   rw [hext nm h2,hH,with1_m,if_pos rfl]
  have hcut : acut cells 0 (len * esz) = some cells := by
   unfold acut
   rw [if_pos (by omega)]
   simp [← hcl]
  have hold : ∀ b ob,h0.m b = some ob → H'.m b = some ob := fun b ob e => by
   have := (hc b ob e).1
   rw [hext b (by omega),hH,with1_m,if_neg (by omega)]
   exact e
  by_cases hloose : md.isLoose = true
  ·have hgl : (md.grown t).isLoose = true := by unfold BMode.grown; split <;> (try split) <;> rfl
   obtain rfl := hmd hloose
   refine ⟨some ⟨nm,0,none⟩,len,rfl,.slice (some ⟨H'.n,0,none⟩) (len + k) (len + k),(H'.kill nm).push (.cells (cells ++ new) (md.grown t) e),h0.with1 H'.n (.cells (cells ++ new) (md.grown t) e) (H'.n + 1),?_,
    ⟨by show h0.n ≤ H'.n + 1; omega,.inr ⟨H'.n,md.grown t,e,by omega,by show H'.n < H'.n + 1; omega,rfl,by simp [hcl,hnew,Nat.add_mul],fun _ => rfl,rfl⟩⟩,rfl,fun b ob eb => ?_⟩
   ·unfold aapp
    dsimp only
    rw [if_pos ⟨hsm,hnew⟩,hcell]
    simp only [if_true]
    rw [hcut]
    simp only [hloose,if_true]
    rw [if_neg (by omega),if_pos (by omega)]
   ·rw [with1_m] at eb
    rw [push_m,kill_n]
    split at eb
    ·rename_i hb; rw [if_pos hb]; exact eb
    ·rename_i hb
     rw [if_neg hb,kill_m]
     have := (hc b ob eb).1
     rw [if_neg (by omega)]
     exact hold b ob eb
  ·refine ⟨some ⟨nm,0,none⟩,len,rfl,.slice (some ⟨H'.n,0,none⟩) (len + k) (len + k),H'.push (.cells (cells ++ new) (.loose t) esz),h0.with1 H'.n (.cells (cells ++ new) (.loose t) esz) (H'.n + 1),?_,
    ⟨by show h0.n ≤ H'.n + 1; omega,.inr ⟨H'.n,.loose t,esz,by omega,by show H'.n < H'.n + 1; omega,rfl,by simp [hcl,hnew,Nat.add_mul],fun _ => rfl,rfl⟩⟩,rfl,fun b ob eb => ?_⟩
   ·unfold aapp
    dsimp only
    rw [if_pos ⟨hsm,hnew⟩,hcell]
    simp only [if_true]
    rw [hcut]
    simp only
    rw [if_neg hloose,if_neg (by omega)]
   ·rw [with1_m] at eb
    rw [push_m]
    split at eb
    ·rename_i hb; rw [if_pos hb]; exact eb
    ·rename_i hb
     rw [if_neg hb]
     exact hold b ob eb
theorem Sl.form {α : Type} {enc : α → Value} {h : Heap} {v : Value} {l : List α} (s : Sl enc h v l) : ∃ a c,v = .slice a l.length c := by
 rcases s with ⟨c,rfl,rfl⟩ | ⟨b,o,cap,c,m,e,rfl,_⟩
 ·exact ⟨_,_,rfl⟩
 ·exact ⟨_,_,rfl⟩
theorem Sl.at {α : Type} {enc : α → Value} {h : Heap} {a : Option Addr} {n c : Nat} {l : List α} (s : Sl enc h (.slice a n c) l) {i : Nat} (hi : i < l.length) :
  ∃ b o cs m e,a = some ⟨b,o,none⟩ ∧ n = l.length ∧ h.cellsOf b = some (cs,m,e) ∧ cs[o + i]? = some (enc l[i]) := by
 rcases s with ⟨c,h1,rfl⟩ | ⟨b,o,cap,c,m,e,h1,h2,h3,h4,h5⟩
 ·simp at hi
 ·cases h1
  exact ⟨b,o,c,m,e,rfl,rfl,h2,h5 i hi⟩
theorem cellsOf_lt {h : Heap} (hc : h.Closed) {b : Nat} {x} (e : h.cellsOf b = some x) : b < h.n := by
 unfold Heap.cellsOf at e
 split at e
 ·rename_i hm; exact (hc b _ hm).1
 ·cases e
theorem Sl.below {α : Type} {enc : α → Value} {h : Heap} {v : Value} {l : List α} (s : Sl enc h v l) (hc : h.Closed) : VBelow h.n v := by
 rcases s with ⟨c,rfl,rfl⟩ | ⟨b,o,cap,c,m,e,rfl,h2,h3,h4,h5⟩
 ·exact .snil
 ·exact .slice (cellsOf_lt hc h2)
theorem cellsOf_keep {h h' : Heap} (hk : ∀ b o,h.m b = some o → h'.m b = some o) {b : Nat} {x} (e : h.cellsOf b = some x) : h'.cellsOf b = some x := by
 unfold Heap.cellsOf at e ⊢
 split at e
 ·rename_i hm; rw [hk b _ hm]; exact e
 ·cases e
theorem Sl.keep {α : Type} {enc : α → Value} {h h' : Heap} {v : Value} {l : List α} (s : Sl enc h v l) (hk : ∀ b o,h.m b = some o → h'.m b = some o) : Sl enc h' v l := by
 rcases s with ⟨c,rfl,rfl⟩ | ⟨b,o,cap,c,m,e,rfl,h2,h3,h4,h5⟩
 ·exact .inl ⟨c,rfl,rfl⟩
 ·exact .inr ⟨b,o,cap,c,m,e,rfl,cellsOf_keep hk h2,h3,h4,h5⟩
theorem Heap.Sub.trans {n0 : Nat} {a b c : Heap} (h1 : a.Sub n0 b) (h2 : b.Sub n0 c) : a.Sub n0 c := ⟨h1.lo,Nat.le_trans h1.hi h2.hi,fun x o e => h2.sub x o (h1.sub x o e),h1.cl⟩
theorem Heap.Sub.push {n0 : Nat} {a b : Heap} (h1 : a.Sub n0 b) (hb : b.Closed) (o : AObj) : a.Sub n0 (b.push o) :=
 ⟨h1.lo,Nat.le_succ_of_le h1.hi,fun x ob e => by
  have q := h1.sub x ob e
  rw [push_m,if_neg (by have := (hb x ob q).1; omega)]
  exact q,h1.cl⟩
structure Heap.Ext (a b : Heap) : Prop where
 n : a.n ≤ b.n
 m : ∀ x o,a.m x = some o → b.m x = some o
theorem Heap.Ext.refl (a : Heap) : a.Ext a := ⟨Nat.le_refl _,fun _ _ e => e⟩
theorem Heap.Ext.push {a b : Heap} (h : a.Ext b) (hc : a.Closed) (o : AObj) : a.Ext (b.push o) :=
 ⟨Nat.le_succ_of_le h.n,fun x ob e => by rw [push_m,if_neg (by have := (hc x ob e).1; have := h.n; omega)]; exact h.m x ob e⟩
theorem Heap.Ext.sub {a b : Heap} (h : a.Ext b) (hc : a.Closed) : a.Sub a.n b := ⟨Nat.le_refl _,h.n,h.m,hc⟩
theorem Heap.Ext.trans {a b c : Heap} (h1 : a.Ext b) (h2 : b.Ext c) : a.Ext c := ⟨Nat.le_trans h1.n h2.n,fun x o e => h2.m x o (h1.m x o e)⟩
theorem ACalls.same {P : Program} {g : FuncId} {args : List Value} {h : Heap} {v0 : Value} (hv : VBelow h.n v0) (hh : ACalls P g args h fun v h' => v = v0 ∧ h.Ext h') :
  ACalls P g args h fun v h' => v = v0 ∧ h' = h :=
 ACalls.closed fun hcl => hh.drop fun v h' q => ⟨h,q.2.sub hcl,by rw [q.1]; exact hv,q.1,rfl⟩
end Go.Ab
