/-
 Ab: what it means,of a piece of code and of a call,to do something to abstract states; rules.
-/
import Derived.Test.YtdnmkenamgfjoaaGreatAbCore
namespace Go.Ab
set_option linter.unusedSectionVars false
variable [Inhabited TabBox]
open Go.RowKit
abbrev AF := Nat → Value
abbrev AQ := Exit → AF → Heap → Prop
def FRel (N : Nat) (μ : Mu) (f : AF) (t : Array Value) : Prop := t.size = N ∧ ∀ i,i < N → VRel μ (f i) (t.getD i undef)
def LRel (μ : Mu) (xs : List Value) (ys : Array Value) : Prop := xs.length = ys.size ∧ ∀ i,i < xs.length → VRel μ (xs.getD i unk) (ys.getD i unk)
structure St (B n0 N : Nat) (μ0 : Mu) (w0 : World) (f : AF) (h : Heap) (a : Act) (w : World) (μ : Mu) : Prop where
 rel : HRel B μ h w
 fr : FRel N μ f a.tmps
 nod : a.defers = []
 bel : Below B w0 w
 ext : ∀ b,b < n0 → μ b = μ0 b
 le : n0 ≤ h.n
def AWp (P : Program) (n0 N : Nat) (c : Code) (Q : AQ) (f : AF) (h : Heap) : Prop :=
 ∀ B μ0 w0 a w μ, St B n0 N μ0 w0 f h a w μ → c.wp P (fun e a' w' => ∃ f' h' μ', St B n0 N μ0 w0 f' h' a' w' μ' ∧ Q e f' h') a w
def ACalls (P : Program) (g : FuncId) (args : List Value) (h : Heap) (R : Value → Heap → Prop) : Prop :=
 ∀ B μ w args', HRel B μ h w → LRel μ args args' → Calls P g args' w fun e w' =>
  ∃ v v' h' μ', e = .returned v' ∧ VRel μ' v v' ∧ HRel B μ' h' w' ∧ Below B w w' ∧ (∀ b, b < h.n → μ' b = μ b) ∧ h.n ≤ h'.n ∧ R v h'
theorem AWp.mono {P : Program} {n0 N : Nat} {c : Code} {Q Q' : AQ} {f : AF} {h : Heap} (hh : AWp P n0 N c Q f h) (hq : ∀ e f h,Q e f h → Q' e f h) : AWp P n0 N c Q' f h :=
 fun B μ0 w0 a w μ st => wp_mono (hh B μ0 w0 a w μ st) fun _ _ _ ⟨f', h', μ', s, q⟩ => ⟨f', h', μ', s, hq _ _ _ q⟩
theorem ACalls.mono {P : Program} {g : FuncId} {args : List Value} {h : Heap} {R R' : Value → Heap → Prop} (hh : ACalls P g args h R) (hr : ∀ v h', R v h' → R' v h') : ACalls P g args h R' :=
 fun B μ w args' rel la => (hh B μ w args' rel la).mono fun _ _ ⟨v, v', h', μ', e, r, hr', b, x, l, q⟩ => ⟨v, v', h', μ', e, r, hr', b, x, l, hr _ _ q⟩
theorem ACalls.closed {P : Program} {g : FuncId} {args : List Value} {h : Heap} {R : Value → Heap → Prop} (hh : h.Closed → ACalls P g args h R) : ACalls P g args h R :=
 fun B μ w args' rel la => hh rel.closed B μ w args' rel la
theorem LRel.below {μ : Mu} {n : Nat} (dom : ∀ b mi,μ b = some mi → b < n) {xs : List Value} {ys : Array Value} (r : LRel μ xs ys) : ∀ v ∈ xs,VBelow n v := by
 refine VRel.vbelow_all dom (cc := ys) (d := 0) fun i hi => ?_
 simpa using r.2 i hi
theorem ACalls.below {P : Program} {g : FuncId} {args : List Value} {h : Heap} {R : Value → Heap → Prop} (hh : (∀ v ∈ args,VBelow h.n v) → ACalls P g args h R) : ACalls P g args h R :=
 fun B μ w args' rel la => hh (la.below fun b mi e => (rel.dom b mi e).1) B μ w args' rel la
def Mu.cut (μ : Mu) (n : Nat) : Mu := fun b => if b < n then μ b else none
theorem Mu.cut_lt {μ : Mu} {n b : Nat} (h : b < n) : μ.cut n b = μ b := if_pos h
theorem HRel.cut {B : Nat} {μ : Mu} {h h2 : Heap} {w : World} (r : HRel B μ h w) (sub : ∀ b o,h2.m b = some o → h.m b = some o) (cl : h2.Closed) : HRel B (μ.cut h2.n) h2 w where
 base := r.base
 dom := fun b mi e => by
  unfold Mu.cut at e
  split at e
  ·exact ⟨by assumption,(r.dom b mi e).2⟩
  ·cases e
 obj := fun b o e => by
  obtain ⟨mi,hm,ro⟩ := r.obj b o (sub b o e)
  obtain ⟨hb,ob⟩ := cl b o e
  exact ⟨mi,(Mu.cut_lt hb).trans hm,ro.mono (fun b hb => Mu.cut_lt hb) ob⟩
 own := fun b o mi e hm hrw => by
  obtain ⟨hb,ob⟩ := cl b o e
  obtain ⟨h1,h2'⟩ := r.own b o mi (sub b o e) ((Mu.cut_lt hb).symm.trans hm) hrw
  refine ⟨h1,fun b2 o2 mi2 e2 hm2 => ?_⟩
  obtain ⟨hb2,_⟩ := cl b2 o2 e2
  exact h2' b2 o2 mi2 (sub b2 o2 e2) ((Mu.cut_lt hb2).symm.trans hm2)
 glob := r.glob
structure Heap.Sub (n0 : Nat) (h2 h : Heap) : Prop where
 lo : n0 ≤ h2.n
 hi : h2.n ≤ h.n
 sub : ∀ b o,h2.m b = some o → h.m b = some o
 cl : h2.Closed
theorem St.drop {B n0 N : Nat} {μ0 : Mu} {w0 : World} {f f2 : AF} {h h2 : Heap} {a : Act} {w : World} {μ : Mu} (s : St B n0 N μ0 w0 f h a w μ)
  (hs : h2.Sub n0 h) (hf : ∀ i,f2 i = unk ∨ (f2 i = f i ∧ VBelow h2.n (f2 i))) : St B n0 N μ0 w0 f2 h2 a w (μ.cut h2.n) where
 rel := s.rel.cut hs.sub hs.cl
 fr := ⟨s.fr.1,fun i hi => by
  rcases hf i with e | ⟨e,b⟩
  ·rw [e]; exact .any
  ·have := s.fr.2 i hi
   rw [← e] at this
   exact this.mono (fun b hb => Mu.cut_lt hb) b⟩
 nod := s.nod
 bel := s.bel
 ext := fun b hb => (Mu.cut_lt (Nat.lt_of_lt_of_le hb hs.lo)).trans (s.ext b hb)
 le := hs.lo
theorem AWp.drop {P : Program} {n0 N : Nat} {c : Code} {Q : AQ} {f f2 : AF} {h h2 : Heap} (hs : h2.Sub n0 h) (hf : ∀ i,f2 i = unk ∨ (f2 i = f i ∧ VBelow h2.n (f2 i)))
  (hh : AWp P n0 N c Q f2 h2) : AWp P n0 N c Q f h :=
 fun B μ0 w0 a w _ st => hh B μ0 w0 a w _ (st.drop hs hf)
theorem ACalls.drop {P : Program} {g : FuncId} {args : List Value} {h : Heap} {R R' : Value → Heap → Prop} (hh : ACalls P g args h R)
  (hr : ∀ v h', R v h' → ∃ h2 : Heap, h2.Sub h.n h' ∧ VBelow h2.n v ∧ R' v h2) : ACalls P g args h R' :=
 fun B μ w args' rel la => (hh B μ w args' rel la).mono fun _ _ ⟨v, v', h', μ', e, r, hr', b, x, _, q⟩ => by
  obtain ⟨h2,hs,hv,q'⟩ := hr _ _ q
  exact ⟨v, v', h2, μ'.cut h2.n, e, r.mono (fun b hb => Mu.cut_lt hb) hv, hr'.cut hs.sub hs.cl, b, fun b hb => (Mu.cut_lt (Nat.lt_of_lt_of_le hb hs.lo)).trans (x b hb), hs.lo, q'⟩
theorem exists_least {p : Nat → Prop} : ∀ n,p n → ∃ n,p n ∧ ∀ m,p m → n ≤ m := by
 intro n
 induction n using Nat.strongRecOn with
 | _ n ih =>
   intro hn
   by_cases hx : ∃ m,m < n ∧ p m
   ·obtain ⟨m,hm,pm⟩ := hx; exact ih m hm pm
   ·exact ⟨n,hn,fun m pm => Nat.le_of_not_lt fun hl => hx ⟨m,hl,pm⟩⟩
open Classical in
noncomputable def least (p : Nat → Prop) : Nat := if h : ∃ n,p n then Classical.choose (exists_least h.choose h.choose_spec) else 0
theorem least_spec {p : Nat → Prop} (h : ∃ n,p n) : p (least p) := by
 unfold least; rw [dif_pos h]; exact (Classical.choose_spec (exists_least h.choose h.choose_spec)).1
theorem least_le {p : Nat → Prop} {m : Nat} (hm : p m) : least p ≤ m := by
 have h : ∃ n,p n := ⟨m,hm⟩
 unfold least; rw [dif_pos h]; exact (Classical.choose_spec (exists_least h.choose h.choose_spec)).2 m hm
section
variable {P : Program} {n0 N : Nat} {Q : AQ} {f : AF} {h : Heap}
def athen (K : AF → Heap → Prop) (Q : AQ) : AQ
 | .normal => K
 | e => Q e
def ablock (id : Nat) (Q : AQ) : AQ
 | .exit id' => if id' = id then Q .normal else Q (.exit id')
 | e => Q e
theorem awp_skip (hh : Q .normal f h) : AWp P n0 N .skip Q f h := fun _ _ _ _ _ μ st => wp_skip ⟨f,h,μ,st,hh⟩
theorem awp_exit {id : Nat} (hh : Q (.exit id) f h) : AWp P n0 N (.exit id) Q f h := fun _ _ _ _ _ μ st => wp_exit ⟨f,h,μ,st,hh⟩
theorem awp_ret (hh : Q .ret f h) : AWp P n0 N .ret Q f h := fun _ _ _ _ _ μ st => wp_ret ⟨f,h,μ,st,hh⟩
theorem awp_seq {x y : Code} (hh : AWp P n0 N x (athen (AWp P n0 N y Q) Q) f h) : AWp P n0 N (.seq x y) Q f h :=
 fun B μ0 w0 a w μ st => wp_seq (wp_mono (hh B μ0 w0 a w μ st) fun e a' w' ⟨f', h', μ', s, q⟩ => by
  cases e with
  | normal => exact q B μ0 w0 a' w' μ' s
  | _ => exact ⟨f', h', μ', s, q⟩)
theorem awp_block {id : Nat} {c : Code} (hh : AWp P n0 N c (ablock id Q) f h) : AWp P n0 N (.block id c) Q f h :=
 fun B μ0 w0 a w μ st => wp_block (wp_mono (hh B μ0 w0 a w μ st) fun e a' w' ⟨f', h', μ', s, q⟩ => by
  cases e with
  | exit id' =>
    simp only [ablock,Exit.inBlock] at q ⊢
    split
    ·rename_i hi; rw [if_pos hi] at q; exact ⟨f', h', μ', s, q⟩
    ·rename_i hi; rw [if_neg hi] at q; exact ⟨f', h', μ', s, q⟩
  | _ => exact ⟨f', h', μ', s, q⟩)
theorem awp_loop {c : Code} (I : Nat → AF → Heap → Prop) {n : Nat} (h0 : I n f h)
  (round : ∀ n f h,I n f h → AWp P n0 N c (athen (fun f' h' => ∃ m f2 h2,m < n ∧ I m f2 h2 ∧ h2.Sub n0 h' ∧ ∀ i,f2 i = unk ∨ (f2 i = f' i ∧ VBelow h2.n (f2 i))) Q) f h) : AWp P n0 N (.loop c) Q f h := by
 intro B μ0 w0 a w μ st
 classical
 let J : Act → World → Nat → Prop := fun a w n => ∃ f h μ,St B n0 N μ0 w0 f h a w μ ∧ I n f h
 refine wp_loop (fun a w => ∃ n,J a w n) (fun a w => least (J a w)) ⟨n,f,h,μ,st,h0⟩ ?_
 intro a w hx
 obtain ⟨f1,h1,μ1,s1,i1⟩ := least_spec hx
 refine wp_mono (round _ f1 h1 i1 B μ0 w0 a w μ1 s1) fun e a' w' ⟨f', h', μ', s, q⟩ => ?_
 cases e with
 | normal =>
   obtain ⟨m,f2,h2,lt,im,hs,hf⟩ := q
   have hj : J a' w' m := ⟨f2,h2,_,s.drop hs hf,im⟩
   refine ⟨⟨m,hj⟩,?_⟩
   exact Nat.lt_of_le_of_lt (least_le hj) lt
 | _ => exact ⟨f', h', μ', s, q⟩
end
end Go.Ab
