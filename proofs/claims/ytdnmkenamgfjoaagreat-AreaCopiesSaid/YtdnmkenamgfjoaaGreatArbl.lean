/-
 Contracts.
-/
import Derived.Test.YtdnmkenamgfjoaaGreatArbk
import Derived.IntWalk
import Derived.KernelRfl
set_option linter.unusedSimpArgs false
set_option linter.unusedVariables false
set_option linter.unusedSectionVars false
namespace Go.Proofs.YtdnmkenamgfjoaaGreat.arbl
open Go Go.Ab Go.Proofs Go.RowKit str vers lin1 sha arba arbb arbc arbd arbe arbf arbg arbi arbj arbk
variable [Inhabited TabBox]
variable [Nonempty GF]
variable [Nonempty GE]
set_option maxRecDepth 100000
def hitF : Nat → List Int → List MEnt
 | _,[] => []
 | i,x :: r => ⟨.int .i64 x,.bool true,i⟩ :: hitF (i + 1) r
theorem hitF_app : ∀ (X : List Int) (i : Nat) (n : Int),hitF i (X ++ [n]) = hitF i X ++ [⟨.int .i64 n,.bool true,i + X.length⟩]
 | [],_,_ => rfl
 | x :: r,i,n => by
   have ih := hitF_app r (i + 1) n
   show ⟨_,_,_⟩ :: hitF (i + 1) (r ++ [n]) = ⟨_,_,_⟩ :: (hitF (i + 1) r ++ _)
   rw [ih]
   simp [Nat.add_assoc,Nat.add_comm 1]
theorem find_hit {n : Int} : ∀ {X : List Int} {i k : Nat},n ∈ X → ∃ j e,afind ⟨false,[.i]⟩ (.int .i64 n) (hitF k X) i = some (some (i + j)) ∧ (hitF k X)[j]? = some e ∧ e.val = .bool true
 | x :: r,i,k,h => by
   by_cases e : n = x
   ·subst e
    exact ⟨0,_,by simp [hitF,afind,sameKey,aeqC,aeq],rfl,rfl⟩
   ·obtain ⟨j, e', h1, h2, h3⟩ := find_hit (X := r) (i := i + 1) (k := k + 1) (by simpa [e] using h)
    refine ⟨j + 1, e', ?_, h2, h3⟩
    have : i + (j + 1) = i + 1 + j := by omega
    rw [this,← h1]
    simp [hitF,afind,sameKey,aeqC,aeq,e]
theorem find_nohit {n : Int} : ∀ {X : List Int} {i k : Nat},n ∉ X → afind ⟨false,[.i]⟩ (.int .i64 n) (hitF k X) i = some none
 | [],_,_,_ => rfl
 | x :: r,i,k,h => by
   have h' : ¬ n = x ∧ n ∉ r := by simpa using h
   have ih := find_nohit (X := r) (i := i + 1) (k := k + 1) h'.2
   rw [← ih]
   simp [hitF,afind,sameKey,aeqC,aeq,h'.1]
def manI (c : Int → Nat) : Nat → List Int → List MEnt
 | _,[] => []
 | i,q :: r => ⟨.int .i64 q,.int .i64 (c q),i⟩ :: manI c (i + 1) r
theorem manI_app (c : Int → Nat) : ∀ (K : List Int) (i : Nat) (q : Int),manI c i (K ++ [q]) = manI c i K ++ [⟨.int .i64 q,.int .i64 (c q),i + K.length⟩]
 | [],_,_ => rfl
 | x :: r,i,n => by
   have ih := manI_app c r (i + 1) n
   show ⟨_,_,_⟩ :: manI c (i + 1) (r ++ [n]) = ⟨_,_,_⟩ :: (manI c (i + 1) r ++ _)
   rw [ih]
   simp [Nat.add_assoc,Nat.add_comm 1]
theorem find_manI {c : Int → Nat} {q : Int} : ∀ {K : List Int} {i k : Nat},q ∈ K → ∃ j,afind ⟨false,[.i]⟩ (.int .i64 q) (manI c k K) i = some (some (i + j)) ∧ (manI c k K)[j]? = some ⟨.int .i64 q,.int .i64 (c q),k + j⟩ ∧ K[j]? = some q
 | x :: r,i,k,h => by
   by_cases e : q = x
   ·subst e
    exact ⟨0,by simp [manI,afind,sameKey,aeqC,aeq],rfl,rfl⟩
   ·obtain ⟨j,h1,h2,h3⟩ := find_manI (c := c) (K := r) (i := i + 1) (k := k + 1) (by simpa [e] using h)
    refine ⟨j + 1,?_,?_,h3⟩
    ·have : i + (j + 1) = i + 1 + j := by omega
     rw [this,← h1]
     simp [manI,afind,sameKey,aeqC,aeq,e]
    ·have : k + (j + 1) = k + 1 + j := by omega
     rw [this,← h2]
     rfl
theorem find_nomanI {c : Int → Nat} {q : Int} : ∀ {K : List Int} {i k : Nat},q ∉ K → afind ⟨false,[.i]⟩ (.int .i64 q) (manI c k K) i = some none
 | [],_,_,_ => rfl
 | x :: r,i,k,h => by
   have h' : ¬ q = x ∧ q ∉ r := by simpa using h
   have ih := find_nomanI (c := c) (K := r) (i := i + 1) (k := k + 1) h'.2
   rw [← ih]
   simp [manI,afind,sameKey,aeqC,aeq,h'.1]
theorem manI_cong {c c' : Int → Nat} : ∀ {K : List Int} {k : Nat},(∀ q ∈ K,c q = c' q) → manI c k K = manI c' k K
 | [],_,_ => rfl
 | x :: r,k,h => by
   unfold manI
   rw [manI_cong (K := r) fun q hq => h q (List.mem_cons_of_mem _ hq),h x List.mem_cons_self]
theorem manI_set {c c' : Int → Nat} {q : Int} : ∀ {K : List Int} {k j : Nat},K.Nodup → K[j]? = some q → (∀ r,r ≠ q → c' r = c r) → (manI c k K).set j ⟨.int .i64 q,.int .i64 (c' q),k + j⟩ = manI c' k K
 | x :: r,k,0,hn,hj,hc => by
   have e : x = q := by simpa using hj
   subst e
   have hx : x ∉ r := (List.nodup_cons.1 hn).1
   show ⟨_,_,_⟩ :: manI c (k + 1) r = ⟨_,_,_⟩ :: manI c' (k + 1) r
   rw [manI_cong (c := c) (c' := c') fun y hy => (hc y (fun e => hx (e ▸ hy))).symm]
   rfl
 | x :: r,k,j + 1,hn,hj,hc => by
   have hj' : r[j]? = some q := by simpa using hj
   have hx : x ≠ q := fun e => (List.nodup_cons.1 hn).1 (e ▸ List.mem_of_getElem? hj')
   have ih := manI_set (c := c) (c' := c') (k := k + 1) (List.nodup_cons.1 hn).2 hj' hc
   have e : k + (j + 1) = k + 1 + j := by omega
   show ⟨_,_,_⟩ :: (manI c (k + 1) r).set j _ = ⟨_,_,_⟩ :: manI c' (k + 1) r
   rw [e,ih,hc x hx]
theorem secF_rot {V : DevS} (u : DevU V) {p : Nat} (hp : p < V.data.length) (b : UInt8) (m : Nat) (hm : m < V.lock.length) : secF (V.rot p b) m = if m = p / 64 then (secF V m).set (p % 64) ((secF V m)[p % 64]! ^^^ b) else secF V m := by
 have hd := u.dl
 unfold secF DevS.read DevS.rot
 dsimp only
 have hl : ((V.data.drop (64 * m)).take 64).length = 64 := by simp; omega
 refine List.ext_getElem (by split <;> simp) fun j h1 h2 => ?_
 have hj : j < 64 := by simp at h1; omega
 rw [List.getElem_take,List.getElem_drop,List.getElem_set]
 by_cases e : m = p / 64
 ·have hjp : (p = 64 * m + j) ↔ (p % 64 = j) := by omega
  simp only [if_pos e]
  rw [List.getElem_set]
  by_cases q : p % 64 = j
  ·have hpj := hjp.2 q
   rw [if_pos hpj,if_pos q,getElem!_pos _ (p % 64) (by omega),getElem!_pos _ p hp]
   rw [List.getElem_take,List.getElem_drop]
   congr 2
   omega
  ·rw [if_neg fun x => q (hjp.1 x),if_neg q,List.getElem_take,List.getElem_drop]
 ·rw [if_neg (by omega)]
  simp only [if_neg e]
  rw [List.getElem_take,List.getElem_drop]
theorem _root_.Go.Proofs.YtdnmkenamgfjoaaGreat.arbc.DevU.rot {V : DevS} (u : DevU V) (p : Nat) (b : UInt8) : DevU (V.rot p b) := ⟨u.up,u.lf,by show (V.data.set p _).length = _; rw [List.length_set]; exact u.dl,u.wl,u.nl⟩
def plsF (A : ArB) (a : Nat) (X : List Int) (k : Nat) : List Nat := (List.range (A.D + A.P)).filter fun i => decide (((secN A.D A.P A.S a k i : Nat) : Int) ∈ X)
structure Turn (A : ArB) (a : Nat) (V V' : DevS) (X : List Int) (c : Int → Nat) : Prop where
 u : DevU V'
 lk : V'.lock = V.lock
 no : ∀ m : Nat,m < V.lock.length → (m : Int) ∉ X → secF V' m = secF V m
 yes : ∀ m : Nat,m < V.lock.length → (m : Int) ∈ X → ∃ (j : Nat) (b : UInt8),j < 64 ∧ b ≠ (secF V m)[j]! ∧ secF V' m = (secF V m).set j b
 cnt : ∀ k : Nat,k < A.S → (plsF A a X k).length = c k
 sum : ((List.range A.S).map fun k : Nat => c k).sum = X.length
 lim : ∀ k : Nat,k < A.S → c k ≤ A.P
theorem filter_one {i0 : Nat} {p q : Nat → Bool} (h0 : p i0 = false) (h1 : q i0 = true) (h : ∀ i,i ≠ i0 → q i = p i) : ∀ {n : Nat},i0 < n → ((List.range n).filter q).length = ((List.range n).filter p).length + 1
 | n + 1,hn => by
   rw [range_filter_succ,range_filter_succ]
   by_cases e : i0 = n
   ·subst e
    rw [if_pos h1,h0,if_neg (by decide),List.length_append]
    congr 2
    exact List.filter_congr fun i hi => h i (by have := List.mem_range.1 hi; omega)
   ·have ih := filter_one h0 h1 h (n := n) (by omega)
    rw [h n (by omega)]
    split
    ·rw [List.length_append,List.length_append,ih]; simp; try omega
    ·exact ih
theorem sum_one {k0 : Nat} {f g : Nat → Nat} (h1 : g k0 = f k0 + 1) (h : ∀ i,i ≠ k0 → g i = f i) : ∀ {n : Nat},k0 < n → ((List.range n).map g).sum = ((List.range n).map f).sum + 1
 | n + 1,hn => by
   rw [List.range_succ,List.map_append,List.map_append,List.sum_append,List.sum_append]
   by_cases e : k0 = n
   ·subst e
    have : (List.range k0).map g = (List.range k0).map f := List.map_congr_left fun i hi => h i (by have := List.mem_range.1 hi; omega)
    rw [this]
    simp [h1]; try omega
   ·have ih := sum_one h1 h (n := n) (by omega)
    rw [ih]
    simp [h n (by omega)]; try omega
theorem sum_zero : ∀ n : Nat,((List.range n).map fun _ => 0).sum = 0
 | 0 => rfl
 | n + 1 => by rw [List.range_succ,List.map_append,List.sum_append,sum_zero n]; rfl
theorem Turn.zero {A : ArB} {a : Nat} {V : DevS} (u : DevU V) : Turn A a V V [] fun _ => 0 := ⟨u,rfl,fun _ _ _ => rfl,fun _ _ h => (by cases h),fun k _ => (by unfold plsF; simp),sum_zero _,fun _ _ => Nat.zero_le _⟩
def bump (c : Int → Nat) (k : Int) : Int → Nat := fun r => if r = k then c r + 1 else c r
theorem Turn.succ {A : ArB} {a : Nat} {V V' : DevS} {X : List Int} {c : Int → Nat} (t : Turn A a V V' X c) (ux : DevU V) {k i p : Nat} {b : UInt8} (hb : b ≠ 0) (hk : k < A.S) (hi : i < A.D + A.P) (hp : p / 64 = secN A.D A.P A.S a k i) (hpl : p < V.data.length) (hx : ((p / 64 : Nat) : Int) ∉ X) (hc : c k < A.P) :
  Turn A a V (V'.rot p b) (X ++ [((p / 64 : Nat) : Int)]) (bump c k) := by
 have hl : V'.lock.length = V.lock.length := by rw [t.lk]
 have hd : V'.data.length = V.data.length := by rw [t.u.dl,ux.dl,hl]
 have hdl := ux.dl
 have hpm : p / 64 < V.lock.length := by omega
 refine ⟨t.u.rot p b,t.lk,fun m hm hn => ?_,fun m hm hn => ?_,fun k' hk' => ?_,?_,fun k' hk' => ?_⟩
 ·have h1 : (m : Int) ∉ X ∧ m ≠ p / 64 := ⟨fun q => hn (List.mem_append_left _ q),fun q => hn (by rw [q]; simp)⟩
  rw [secF_rot t.u (by omega) b m (by omega),if_neg h1.2]
  exact t.no m hm h1.1
 ·by_cases e : m = p / 64
  ·subst e
   have h0 := t.no _ hm hx
   have hs := secF_len t.u (i := p / 64) (by omega)
   refine ⟨p % 64,(secF V (p / 64))[p % 64]! ^^^ b,by omega,fun q => hb ?_,?_⟩
   ·have := congrArg ((secF V (p / 64))[p % 64]! ^^^ ·) q
    simpa [← UInt8.xor_assoc] using this
   ·rw [secF_rot t.u (by omega) b _ (by omega),if_pos rfl,h0]
  ·rw [secF_rot t.u (by omega) b m (by omega),if_neg e]
   refine t.yes m hm ?_
   rcases List.mem_append.1 hn with q | q
   ·exact q
   ·simp at q; omega
 ·unfold bump
  by_cases e : k' = k
  ·subst e
   rw [if_pos rfl,← t.cnt k' hk']
   unfold plsF
   refine filter_one (i0 := i) (decide_eq_false (by rw [← hp]; exact hx)) (decide_eq_true (by rw [← hp]; simp)) (fun j hj => ?_) hi
   rw [decide_eq_decide]
   constructor
   ·intro q
    rcases List.mem_append.1 q with q | q
    ·exact q
    ·have q1 : ((secN A.D A.P A.S a k' j : Nat) : Int) = ((p / 64 : Nat) : Int) := by simpa using q
     have q2 : secN A.D A.P A.S a k' j = p / 64 := by omega
     rw [hp] at q2
     exact absurd (secN_inj2 hk' hk' q2).2 hj
   ·exact fun q => List.mem_append_left _ q
  ·rw [if_neg (by omega),← t.cnt k' hk']
   unfold plsF
   congr 1
   refine List.filter_congr fun j hj => ?_
   rw [decide_eq_decide]
   constructor
   ·intro q
    rcases List.mem_append.1 q with q | q
    ·exact q
    ·have q1 : ((secN A.D A.P A.S a k' j : Nat) : Int) = ((p / 64 : Nat) : Int) := by simpa using q
     have q2 : secN A.D A.P A.S a k' j = p / 64 := by omega
     rw [hp] at q2
     exact absurd (secN_inj2 hk' hk q2).1 e
   ·exact fun q => List.mem_append_left _ q
 ·rw [List.length_append,← t.sum]
  exact sum_one (k0 := k) (f := fun k : Nat => c k) (g := fun r : Nat => bump c k r) (by unfold bump; rw [if_pos rfl]) (fun j hj => by unfold bump; rw [if_neg (by omega)]) hk
 ·unfold bump
  split
  ·rename_i e
   have : k' = k := by omega
   subst this; omega
  ·exact t.lim k' hk'
theorem Turn.wr {A : ArB} {a : Nat} {V V' : DevS} {X : List Int} {c : Int → Nat} (t : Turn A a V V' X c) {k : Nat} (B : List (List UInt8)) (hB : B.length = A.D + A.P) (hB6 : ∀ y ∈ B,y.length = 60) (hs : strF A V a k = B.map crE) (hlt : ∀ i,i < A.D + A.P → secN A.D A.P A.S a k i < V.lock.length) :
  erF (strF A V' a k) = plsF A a X k ∧ wrF B (strF A V' a k) (A.D + A.P) = plsF A a X k ∧ (∀ i,i < A.D + A.P → i ∉ plsF A a X k → ((strF A V' a k)[i]!).take 60 = B[i]!) := by
 have key : ∀ i,i < A.D + A.P → (B[i]!).length = 60 ∧ secF V (secN A.D A.P A.S a k i) = crE B[i]! ∧ (strF A V' a k)[i]! = secF V' (secN A.D A.P A.S a k i) := fun i hi => by
  have hiB : i < B.length := by omega
  rw [getElem!_pos B i hiB]
  refine ⟨hB6 _ (List.getElem_mem _),?_,?_⟩
  ·have := congrArg (fun l => l[i]!) hs
   rw [getElem!_pos _ i (by rw [strF_len]; exact hi),getElem!_pos _ i (by simpa using hiB),List.getElem_map] at this
   rw [← this]
   simp [strF]
  ·rw [getElem!_pos _ i (by rw [strF_len]; exact hi)]
   simp [strF]
 have two : ∀ i,i < A.D + A.P → (((secN A.D A.P A.S a k i : Nat) : Int) ∈ X → crE (((strF A V' a k)[i]!).take 60) ≠ (strF A V' a k)[i]! ∧ crE B[i]! ≠ (strF A V' a k)[i]!) ∧ (((secN A.D A.P A.S a k i : Nat) : Int) ∉ X → (strF A V' a k)[i]! = crE B[i]!) := fun i hi => by
  obtain ⟨h60,h1,h2⟩ := key i hi
  refine ⟨fun q => ?_,fun q => ?_⟩
  ·obtain ⟨j,b,hj,hb,e⟩ := t.yes _ (hlt i hi) q
   rw [h2,e,h1]
   rw [h1] at hb
   have hjl : j < (crE B[i]!).length := by rw [crE_len,h60]; omega
   rw [getElem!_pos _ j hjl] at hb
   refine ⟨crE_turn h60 hjl hb,fun e2 => hb ?_⟩
   have : (crE B[i]!)[j] = ((crE B[i]!).set j b)[j]'(by rw [List.length_set]; exact hjl) := List.getElem_of_eq e2 hjl
   rw [this]; simp
  ·rw [h2,t.no _ (hlt i hi) q,h1]
 have hsl := strF_len A V' a k
 refine ⟨?_,?_,fun i hi hn => ?_⟩
 ·unfold erF plsF
  rw [hsl]
  refine List.filter_congr fun i hi => ?_
  have hi' := List.mem_range.1 hi
  rw [decide_eq_decide]
  constructor
  ·intro q
   refine Classical.byContradiction fun hn => q ?_
   rw [(two i hi').2 hn,crE_take (key i hi').1]
  ·exact fun q => ((two i hi').1 q).1
 ·unfold wrF plsF
  refine List.filter_congr fun i hi => ?_
  have hi' := List.mem_range.1 hi
  rw [decide_eq_decide]
  constructor
  ·intro q
   refine Classical.byContradiction fun hn => q ?_
   rw [(two i hi').2 hn]
  ·exact fun q => ((two i hi').1 q).2
 ·have hn2 : ((secN A.D A.P A.S a k i : Nat) : Int) ∉ X := fun q => hn (by
   unfold plsF
   rw [List.mem_filter]
   exact ⟨List.mem_range.2 hi,decide_eq_true q⟩)
  rw [(two i hi).2 hn2,crE_take (key i hi).1]
theorem Turn.at' {A : ArB} {a : Nat} {V V' : DevS} {X : List Int} {c : Int → Nat} (t : Turn A a V V' X c) {k : Nat} (B : List (List UInt8)) (hB : B.length = A.D + A.P) (hs : strF A V a k = B.map crE) (hlt : ∀ i,i < A.D + A.P → secN A.D A.P A.S a k i < V.lock.length) (i : Nat) (hi : i < A.D + A.P) (hn : i ∉ plsF A a X k) : secF V' (secN A.D A.P A.S a k i) = crE B[i]! := by
 have hn2 : ((secN A.D A.P A.S a k i : Nat) : Int) ∉ X := fun q => hn (by
  unfold plsF
  rw [List.mem_filter]
  exact ⟨List.mem_range.2 hi,decide_eq_true q⟩)
 rw [t.no _ (hlt i hi) hn2]
 have hiB : i < B.length := by omega
 rw [getElem!_pos B i hiB]
 have := congrArg (fun l => l[i]!) hs
 rw [getElem!_pos _ i (by rw [strF_len]; exact hi),getElem!_pos _ i (by simpa using hiB),List.getElem_map] at this
 rw [← this]
 simp [strF]
abbrev eR (x : Int × UInt8) : List Value := [.int .i64 x.1,.int .u8 (x.2.toNat : Int)]
def SlG {α : Type} (ea : α → List Value) (n : Nat) (h : Heap) (v : Value) (l : List α) : Prop :=
 (∃ c,v = .slice none 0 c ∧ l = []) ∨ ∃ b o cap c m e,v = .slice (some ⟨b,o,none⟩) l.length cap ∧ h.cellsOf b = some (c,m,e) ∧ l.length ≤ cap ∧ (m.isLoose = true → e = n) ∧ ∀ i (hi : i < l.length),acut c (o + i * n) n = some (ea l[i])
theorem SlG.keep {α : Type} {ea : α → List Value} {n : Nat} {h H : Heap} {v : Value} {l : List α} (s : SlG ea n h v l) (g : ∀ u ob,h.m u = some ob → H.m u = some ob) : SlG ea n H v l := by
 rcases s with q | ⟨b,o,cap,c,m,e,h1,h2,h3,h4,h5⟩
 ·exact .inl q
 ·exact .inr ⟨b,o,cap,c,m,e,h1,cellsOf_keep g h2,h3,h4,h5⟩
theorem SlG.form {α : Type} {ea : α → List Value} {n : Nat} {h : Heap} {v : Value} {l : List α} (s : SlG ea n h v l) : ∃ a c,v = .slice a l.length c := by
 rcases s with ⟨c,rfl,rfl⟩ | ⟨b,o,cap,c,m,e,rfl,_⟩
 ·exact ⟨_,_,rfl⟩
 ·exact ⟨_,_,rfl⟩
theorem SlG.at' {α : Type} {ea : α → List Value} {n : Nat} {h : Heap} {v : Value} {l : List α} (s : SlG ea n h v l) {i : Nat} (hi : i < l.length) : ∃ b o cap c m e,v = .slice (some ⟨b,o,none⟩) l.length cap ∧ h.cellsOf b = some (c,m,e) ∧ acut c (o + i * n) n = some (ea l[i]) := by
 rcases s with ⟨c,_,rfl⟩ | ⟨b,o,cap,c,m,e,h1,h2,h3,h4,h5⟩
 ·simp at hi
 ·exact ⟨b,o,cap,c,m,e,h1,h2,h5 i hi⟩
structure ManK (H : Heap) (mm : Nat) (c : Int → Nat) (K : List Int) : Prop where
 nd : K.Nodup
 at' : H.m mm = some (.map (manI c 0 K) K.length)
 off : ∀ k,k ∉ K → c k = 0
def blkF (A : ArB) (x : Hd) (img : List UInt8) (k : Nat) : List (List UInt8) := encB A.D A.P (((txL A.D A.P A.S x img).drop (k * A.D)).take A.D)
structure Blk (A : ArB) (x : Hd) (img : List UInt8) : Prop where
 len : ∀ k,k < A.S → (blkF A x img k).length = A.D + A.P ∧ ∀ y ∈ blkF A x img k,y.length = 60
 rt : ∀ k,k < A.S → ∀ q,q < 60 → rightF A.P (colF (blkF A x img k) q)
 tk : ∀ k,k < A.S → (blkF A x img k).take A.D = ((txL A.D A.P A.S x img).drop (k * A.D)).take A.D
 get : getH (ldT A (blkF A x img) A.S) = (x,0)
 im : ((ldT A (blkF A x img) A.S).drop 48).take img.length = img
 n : x.n = img.length
 room : x.n ≤ roomF A.D A.P A.S
theorem blk_ok (A : ArB) (hr : right A.D A.P A.S = true) (x : Hd) (hx : x.hs.length = 32) (img : List UInt8) (hE : txE A.D A.P A.S x img.length = 0) : Blk A x img := by
 obtain ⟨⟨hd1,hd8⟩,⟨hp2,hp6⟩,hn1,hn8⟩ := right_prop.1 hr
 have hT : txL A.D A.P A.S x img = splitT (putH x ++ img) (A.D * A.S) := by
  unfold txL
  rw [if_pos hE]
  have : ((A.D : Int) * A.S) = ((A.D * A.S : Nat) : Int) := by push_cast; rfl
  rw [this]; rfl
 have hcond : right A.D A.P A.S = true ∧ rightH x ∧ x.n = img.length ∧ (img.length : Int) ≤ roomF A.D A.P A.S := by
  unfold txE at hE
  split at hE
  ·rename_i q
   refine ⟨q.1,q.2.1,q.2.2,?_⟩
   split at hE
   ·omega
   ·omega
  ·omega
 obtain ⟨_,hR,hn,hroom⟩ := hcond
 have hTl := splitT_len (putH x ++ img) (A.D * A.S)
 have hT60 := splitT_60 (putH x ++ img) (A.D * A.S)
 have hpl : (putH x).length = 48 := putH_len hx
 have hroomv : roomF A.D A.P A.S = max (60 * ((A.D * A.S : Nat) : Int) - 48) 0 := by
  unfold roomF
  rw [if_pos hr]
  push_cast; rfl
 have hfit : (putH x ++ img).length ≤ 60 * (A.D * A.S) := by
  have : 1 ≤ A.D * A.S := Nat.mul_pos (by omega) (by omega)
  rw [List.length_append,hpl]; omega
 have hTf := splitT_flat (A.D * A.S) (putH x ++ img) hfit
 rw [← hT] at hTl hT60 hTf
 have hLk : ∀ k,k < A.S → (((txL A.D A.P A.S x img).drop (k * A.D)).take A.D).length = A.D ∧ ∀ y ∈ ((txL A.D A.P A.S x img).drop (k * A.D)).take A.D,y.length = 60 := fun k hk => by
  refine ⟨?_,fun y hy => hT60 y (List.mem_of_mem_drop (List.mem_of_mem_take hy))⟩
  have : (k + 1) * A.D ≤ A.S * A.D := Nat.mul_le_mul_right _ hk
  rw [Nat.add_mul,Nat.one_mul,Nat.mul_comm A.S] at this
  rw [List.length_take,List.length_drop,hTl]; omega
 have hXD : ∀ k,k < A.S → (blkF A x img k).take A.D = ((txL A.D A.P A.S x img).drop (k * A.D)).take A.D := fun k hk => encB_data (hLk k hk).1 (by omega) (hLk k hk).2
 have hld : ldT A (blkF A x img) A.S = (txL A.D A.P A.S x img).flatten := by
  rw [ldT_eq]
  exact chunks_flat A.D A.S _ hTl (fun k => (blkF A x img k).take A.D) hXD
 refine ⟨fun k hk => ⟨encB_len _ _ _,encB_60 _ _ _⟩,fun k hk q hq => encB_right (hLk k hk).1 (by omega) q hq,hXD,?_,?_,hn,by rw [hn]; exact hroom⟩
 ·rw [hld,hTf,List.append_assoc]; exact get_put hx hR _
 ·rw [hld,hTf,List.append_assoc,List.drop_append_of_le_length (by omega),List.drop_of_length_le (by omega),List.nil_append,List.take_append_of_le_length (Nat.le_refl _),List.take_of_length_le (Nat.le_refl _)]
def Full (A : ArB) (V : DevS) (a : Nat) (x : Hd) (img : List UInt8) : Prop := ∀ k,k < A.S → strF A V a k = (blkF A x img k).map crE
theorem Full.of {A : ArB} {V0 V : DevS} {a : Nat} {x : Hd} {img : List UInt8} (w : Filled A V0 V a (txL A.D A.P A.S x img) A.S) : Full A V a x img := fun k hk => by rw [strF_filled w k hk]; rfl
theorem secN_fit {A : ArB} {V : DevS} {h : Heap} (K : ArK h A V) {a k i : Nat} (ha : a ≤ 2) (hk : k < A.S) (hi : i < A.D + A.P) : secN A.D A.P A.S a k i < V.lock.length := by
 have := (secN_lt K.rt ha hk hi).1
 have := K.sz
 omega
theorem _root_.Go.Proofs.YtdnmkenamgfjoaaGreat.arbi.Rw.str {A : ArB} {V2 V3 : DevS} {a k : Nat} {T : List (List UInt8)} {ws : List Int} {h : Heap} (K : ArK h A V2) (ha : a ≤ 2) (hk : k < A.S) (r : Rw A V2 V3 a k T ws) (k' : Nat) (hk' : k' < A.S) (hne : k' ≠ k) : strF A V3 a k' = strF A V2 a k' := by
 unfold strF
 refine List.map_congr_left fun i hi => ?_
 have hi' := List.mem_range.1 hi
 exact r.no _ (secN_fit K ha hk' hi') fun j hj e => hne (by
  unfold secN at e
  have h1 : i * A.S + k' = j * A.S + k := by omega
  have e1 : (i * A.S + k') % A.S = k' := by rw [Nat.mul_comm i A.S,Nat.mul_add_mod,Nat.mod_eq_of_lt hk']
  have e2 : (j * A.S + k) % A.S = k := by rw [Nat.mul_comm j A.S,Nat.mul_add_mod,Nat.mod_eq_of_lt hk]
  rw [h1] at e1
  omega)
def c5_2 : AC := .seq (sO [mV 147 21,oP 148 (fA 2 3),oP 149 (lN 148),oP 150 (bT .lss 147 149)] (cT 150 .skip (.exit 2))) (.seq (.block 3 (sO [mV 154 7,mV 155 21,oP 156 (.call 30 [tP 154,.const (.int .i64 2),tP 155]),mV 153 156,oP 157 (xR 153 0),oP 158 (xR 153 1),oP 22 (.alloc [.slice none 0 0,.slice none 0 0]),nP (.store 2 (tP 22) (tP 157)),mV 23 158] (sO [mV 159 23,oP 160 (bK .neq 159 0),mV 161 160,gP 162 161 false (fA 1 22),gP 163 161 false (lN 162),gP 164 161 false (lS 163),gP 165 161 false (.mv (tP 10)),gP 166 161 false (.mv (tP 21)),gP 167 161 false (.look ⟨false,[.i]⟩ (.int .i64 0) (tP 165) (tP 166) false),gP 168 161 false (bT .neq 164 167),oP 169 (pT 161 168),mV 170 169,gP 171 170 false (.mv (tP 7)),gP 172 170 false (.mv (tP 21)),gP 173 170 false (.load (some 2) (tP 22)),gP 174 170 false (fA 1 22),gP 175 170 false (lN 174),gP 176 170 false (.call 31 [tP 171,.const (.int .i64 2),tP 172,tP 173,tP 175]),gP 177 170 false (bK .neq 176 0),oP 178 (pT 170 177)] (cT 178 (sO [oP 6 (.mv kF)] .ret) .skip)))) (.ops [mV 151 21,oP 152 (bK .add 151 1),mV 21 152]))
def c5_0 : AC := sO [oP 67 (bT .lss 66 65)] (.seq (cT 67 .skip (.exit 0)) (.seq (.block 1 (sO [oP 68 (iA 2 64 66),oP 69 (.load (some 2) (tP 68)),oP 12 (.alloc [.int .i64 0,.int .u8 0]),nP (.store 2 (tP 12) (tP 69))] (sO [oP 71 (.load (some 3) (tP 3)),oP 72 (fA 0 12),oP 73 (lN 72),oP 74 (bK .quo 73 64),oP 75 (.call 28 [tP 71,tP 74]),mV 70 75,oP 76 (xR 70 0),oP 77 (xR 70 1),oP 78 (xR 70 2),oP 79 (xR 70 3),mV 13 76,mV 14 77,mV 15 78,mV 16 79] (.seq (sO [mV 80 16,oP 81 (.un .not (tP 80)),mV 82 81,gP 83 82 false (.mv (tP 13)),gP 84 82 false (bK .neq 83 2),oP 85 (pT 82 84),mV 86 85,gP 87 86 false (fA 0 12),gP 88 86 false (lN 87),gP 89 86 false (bK .lss 88 0),oP 90 (pT 86 89),mV 91 90,gP 92 91 false (fA 1 12),gP 93 91 false (lN 92),gP 94 91 false (.bin .eql (tP 93) (.const (.int .u8 0))),oP 95 (pT 91 94),mV 96 95,gP 97 96 false (.mv (tP 9)),gP 98 96 false (fA 0 12),gP 99 96 false (lN 98),gP 100 96 false (bK .quo 99 64),gP 101 96 false (.look ⟨false,[.i]⟩ (.bool false) (tP 97) (tP 100) false),oP 102 (pT 96 101),mV 103 102,gP 104 103 false (.mv (tP 10)),gP 105 103 false (.mv (tP 14)),gP 106 103 false (.look ⟨false,[.i]⟩ (.int .i64 0) (tP 104) (tP 105) false),gP 107 103 false (fA 1 3),gP 108 103 false (lN 107),gP 109 103 false (bT .eql 106 108),oP 110 (pT 103 109)] (cT 110 (.exit 1) .skip)) (sO [mV 111 9,oP 112 (fA 0 12),oP 113 (lN 112),oP 114 (bK .quo 113 64),nP (.mupd ⟨false,[.i]⟩ (tP 111) (tP 114) kT)] (sO [mV 115 10,mV 116 14,oP 117 (.look ⟨false,[.i]⟩ (.int .i64 0) (tP 115) (tP 116) false),oP 118 (bK .add 117 1),nP (.mupd ⟨false,[.i]⟩ (tP 115) (tP 116) (tP 118))] (.ops [mV 119 8,oP 120 (fA 0 12),oP 121 (lN 120),oP 122 (fA 1 12),oP 123 (lN 122),oP 124 (.buildS 1 [.int .u8 0] [(0,1,.tmp 123)]),oP 125 (.call 14 [tP 119,tP 121,tP 124])]))))))) (.ops [oP 126 (bK .add 66 1),mV 66 126])))
def c5 : AC := sO [oP 3 (.box (tP 0)),oP 6 (.mv kF)] (.seq (sO [oP 24 (.call 24 []),oP 25 (.un .not (tP 24))] (cT 25 (sO [oP 6 (.mv kF)] .ret) .skip)) (.seq (sO [oP 26 (.load (some 3) (tP 3)),oP 27 (.call 20 [tP 26]),oP 28 (.un .not (tP 27)),mV 29 28,gP 30 29 false (.mv (tP 2)),gP 31 29 false (lS 30),gP 32 29 false (bK .gtr 31 40),oP 33 (pT 29 32),mV 34 33,gP 35 34 false (.mv (tP 1)),gP 36 34 false (.lenS true (tP 35)),gP 37 34 false (.load (some 3) (tP 3)),gP 38 34 false (.call 12 [tP 37]),gP 39 34 false (bT .gtr 36 38),oP 40 (pT 34 39),mV 41 40,gP 42 41 false (.mv (tP 1)),gP 43 41 false (.lenS true (tP 42)),gP 44 41 false (bK .gtr 43 5000),oP 45 (pT 41 44)] (cT 45 (sO [oP 6 (.mv kT)] .ret) .skip)) (sO [oP 47 (.load (some 3) (tP 3)),oP 48 (.call 25 [tP 47]),mV 46 48,oP 49 (xR 46 0),oP 50 (xR 46 1),mV 7 49,mV 8 50] (.seq (sO [mV 51 7,oP 52 (.eqv false .ptr (tP 51) (.const (.pointer none))),mV 53 52,gP 54 53 false (.mv (tP 7)),gP 55 53 false (.build [.int .i64 0,.int .i64 0,.int .i64 0] []),gP 56 53 false (.mv (tP 1)),gP 57 53 false (.call 27 [tP 55,tP 56]),gP 58 53 false (.mv (tP 1)),gP 59 53 false (.call 26 [tP 54,.const (.int .i64 2),tP 57,tP 58]),gP 60 53 false (bK .neq 59 0),oP 61 (pT 53 60)] (cT 61 (sO [oP 6 (.mv kF)] .ret) .skip)) (sO [oP 62 (.mkMap),mV 9 62] (sO [oP 63 (.mkMap),mV 10 63] (.seq (sO [mV 64 2,oP 65 (lS 64),oP 66 (.mv (kI 0))] (.block 0 (.loop c5_0))) (sO [mV 128 7,oP 129 (.call 29 [tP 128,.const (.int .i64 2)]),mV 127 129,oP 130 (xR 127 0),oP 131 (xR 127 1),oP 132 (xR 127 2),oP 133 (xR 127 3),oP 17 (.alloc z36),nP (.store 36 (tP 17) (tP 130)),mV 18 131,mV 19 132,mV 20 133] (.seq (sO [mV 134 18,mV 135 1,oP 136 (bT .neq 134 135),mV 137 136,gP 138 137 false (.mv (tP 19)),gP 139 137 false (.mv (tP 9)),gP 140 137 false (.lenM (tP 139)),gP 141 137 false (bT .neq 138 140),oP 142 (pT 137 141),mV 143 142,gP 144 143 false (.mv (tP 20)),gP 145 143 false (bK .neq 144 0),oP 146 (pT 143 145)] (cT 146 (sO [oP 6 (.mv kF)] .ret) .skip)) (.seq (sO [oP 21 (.mv (kI 0))] (.block 2 (.loop c5_2))) (sO [mV 180 7,oP 181 (.call 29 [tP 180,.const (.int .i64 2)]),mV 179 181,oP 182 (xR 179 0),oP 183 (xR 179 1),oP 184 (xR 179 2),oP 185 (xR 179 3),mV 18 183,mV 19 184,mV 20 185] (sO [mV 186 18,mV 187 1,oP 188 (bT .eql 186 187),mV 189 188,gP 190 189 true (.mv (tP 19)),gP 191 189 true (bK .eql 190 0),oP 192 (pF 189 191),mV 193 192,gP 194 193 true (.mv (tP 20)),gP 195 193 true (bK .eql 194 0),oP 196 (pF 193 195),mV 6 196] .ret))))))))))))
theorem k5 : compF Tryz.prog Tryz.f5 = some (c5,[6]) := by kernel_rfl
theorem n5 : Tryz.f5.ntmps = 197 := by kernel_rfl
theorem okI (x : Int) : okKey ⟨false,[.i]⟩ (.int .i64 x) = true := by simp [okKey,sameKey,aeqC]
theorem manI_get {H : Heap} {mm : Nat} {c : Int → Nat} {K : List Int} (m : ManK H mm c K) (k : Int) : (∃ j,afind ⟨false,[.i]⟩ (.int .i64 k) (manI c 0 K) 0 = some (some j) ∧ (manI c 0 K)[j]? = some ⟨.int .i64 k,.int .i64 (c k),j⟩ ∧ K[j]? = some k) ∨ (afind ⟨false,[.i]⟩ (.int .i64 k) (manI c 0 K) 0 = some none ∧ c k = 0 ∧ k ∉ K) := by
 by_cases h : k ∈ K
 ·obtain ⟨j,h1,h2,h3⟩ := find_manI (c := c) (i := 0) (k := 0) h
  rw [Nat.zero_add] at h1 h2
  exact .inl ⟨j,h1,h2,h3⟩
 ·exact .inr ⟨find_nomanI h,m.off k h,h⟩
theorem hitF_bel {n : Nat} {X : List Int} {k : Nat} : ∀ e ∈ hitF k X,VBelow n e.key ∧ VBelow n e.val := by
 induction X generalizing k with
 | nil => intro e he; cases he
 | cons x r ih =>
   intro e he
   rcases List.mem_cons.1 he with rfl | he
   ·exact ⟨.int,.bool⟩
   ·exact ih e he
theorem manI_bel {n : Nat} {c : Int → Nat} {K : List Int} {k : Nat} : ∀ e ∈ manI c k K,VBelow n e.key ∧ VBelow n e.val := by
 induction K generalizing k with
 | nil => intro e he; cases he
 | cons x r ih =>
   intro e he
   rcases List.mem_cons.1 he with rfl | he
   ·exact ⟨.int,.int⟩
   ·exact ih e he
theorem q64 (x : Int) (h : -9223372036854775808 ≤ x ∧ x < 9223372036854775808) : ∃ n,IntKind.i64.wrap (x.tdiv 64) = n ∧ (0 ≤ x → n = x / 64) ∧ (x < 0 → n ≤ 0) := by
 rcases Int.le_total 0 x with h0 | h0
 ·have e : x.tdiv 64 = x / 64 := Int.tdiv_eq_ediv_of_nonneg h0
  rw [e,IntWalk.i64_in _ (by omega)]
  exact ⟨_,rfl,fun _ => rfl,fun q => by omega⟩
 ·obtain ⟨y,rfl⟩ : ∃ y,x = -y := ⟨-x,by omega⟩
  have e : (-y).tdiv 64 = -(y / 64) := by rw [Int.neg_tdiv,Int.tdiv_eq_ediv_of_nonneg (by omega)]
  rw [e,IntWalk.i64_in _ (by omega)]
  exact ⟨_,rfl,fun q => by omega,fun q => by omega⟩
theorem flatV_len {n : Nat} : ∀ {L : List (List Value)},(∀ x ∈ L,x.length = n) → L.flatten.length = L.length * n
 | [],_ => by simp
 | x :: r,h => by rw [List.flatten_cons,List.length_append,flatV_len fun y hy => h y (by simp [hy]),h x (by simp),List.length_cons,Nat.add_mul,Nat.one_mul,Nat.add_comm]
section
open Go.RowKit Go.ChangeShapes Go.WideShapes
variable {H : Type} {P : Program} {W : World} {enc : TypeId × Value → H}
theorem given_rows {α : Type} {ea : α → List Value} {μ : Mu} {h : Heap} (g : Given W μ h) {t e : TypeId} {n : Nat} {v : Value} {d : DataW H} {ps : List MemPlace} (ht : P.underlying t = some (.slice e)) (hc : P.cellsOf e = n) (hn : 0 < n)
  (hval : Value.okWide P W .any 0 t v) (hd : DataW.Trod enc P W 0 (fun _ => true) true t v d ps)
  (plain : ∀ (a : α),∀ v ∈ ea a,(∀ μ,VRel μ v v) ∧ v.oneCell' = true)
  (elem : ∀ fuel x cs,DataW.trod enc P W 0 (fun _ => true) true fuel e cs = some x → ∃ a : α,cs = ea a ∧ (ea a).length = n) :
  ∃ μ' h' va l,Given W μ' h' ∧ μ.Le μ' ∧ h.Le h' ∧ VRel μ' va v ∧ SlG ea n h' va l ∧ l.length ≤ maxLen ∧ ∀ a ∈ l,∃ fuel D Pl,DataW.trod enc P W 0 (fun _ => true) true fuel e (ea a) = some (D,Pl) ∧ ∃ el sp,d = .slice el sp ∧ D ∈ el := by
 obtain ⟨a0,len0,cap0,rfl⟩ := okWide_slice ht hval
 obtain ⟨fuel,hf⟩ := hd
 rcases Go.Deep.open_slice ht hf with ⟨hcs,_⟩ | ⟨a,len,cap,m,nf,D,Pl,hcs,_,hle,hmx,hm,hxx,hget⟩
 ·simp only [Value.cells,List.cons.injEq,Value.slice.injEq,and_true] at hcs
  obtain ⟨rfl,rfl,rfl⟩ := hcs
  exact ⟨μ,h,_,[],g,.refl _,.refl _,.snil,.inl ⟨0,rfl,rfl⟩,Nat.zero_le _,fun a ha => by cases ha⟩
 ·simp only [Value.cells,List.cons.injEq,Value.slice.injEq,and_true] at hcs
  obtain ⟨rfl,rfl,rfl⟩ := hcs
  simp only [if_true] at hm
  subst hm
  have hw : W.has P .any 0 a e m := by
   unfold Value.okWide at hval
   rw [ht] at hval
   simp only [Cell.okWide,ht,Cell.ok] at hval
   exact hval.2.2
  obtain ⟨_,hsp,row,cells,hsh,_⟩ := hw
  obtain ⟨cc,ty,fz,hblk⟩ : ∃ cc ty fz,W.heap[a.block]? = some (.cells cc ty fz) := by
   unfold World.shape? at hsh
   split at hsh
   ·exact ⟨_,_,_,by assumption⟩
   ·cases hsh
  obtain ⟨ab,ao,asp⟩ := a
  dsimp only at hsp hblk
  subst hsp
  have hE : ∀ i,i < len0 → ∃ a : α,(ea a).length = n ∧ (∀ j (hj : j < (ea a).length),cc[ao + i * n + j]? = some (ea a)[j]) ∧ DataW.trod enc P W 0 (fun _ => true) true nf e (ea a) = some (D i,Pl i) := fun i hi => by
   obtain ⟨cs', h1, h2⟩ := hget i (by omega)
   obtain ⟨a,rfl,hl⟩ := elem _ _ _ h2
   obtain ⟨_,hlen,hcell⟩ := World.cells?_some h1
   refine ⟨a,hl,fun j hj => ?_,h2⟩
   have := hcell j (by rw [hc]; omega)
   rw [show ((⟨ab,ao,none⟩ : Addr).add (i * P.cellsOf e)).add j = ⟨ab,ao + i * P.cellsOf e + j,none⟩ by rw [Addr.add_lit,Addr.add_lit]] at this
   simpa [World.cell?,hblk,hc,hj] using this
  obtain ⟨L,hLl,hL⟩ : ∃ L : List α,L.length = len0 ∧ ∀ i (hi : i < L.length),(ea L[i]).length = n ∧ (∀ j (hj : j < (ea L[i]).length),cc[ao + i * n + j]? = some (ea L[i])[j]) ∧ DataW.trod enc P W 0 (fun _ => true) true nf e (ea L[i]) = some (D i,Pl i) := by
   clear hget hf hval hle hxx
   induction len0 with
   | zero => exact ⟨[],rfl,fun i hi => by simp at hi⟩
   | succ q ih =>
     obtain ⟨L,hl,hh⟩ := ih fun i hi => hE i (by omega)
     obtain ⟨is,ha⟩ := hE q (by omega)
     refine ⟨L ++ [is],by simp [hl],fun i hi => ?_⟩
     by_cases hik : i < L.length
     ·simp only [List.getElem_append_left hik]; exact hh i hik
     ·have : i = q := by simp at hi; omega
      subst this
      have e1 : (L ++ [is])[i] = is := by rw [List.getElem_append_right (by omega)]; simp [hl]
      rw [e1]
      exact ha
  subst hLl
  have hmem : ∀ a ∈ L, ∃ fuel D' Pl, DataW.trod enc P W 0 (fun _ => true) true fuel e (ea a) = some (D', Pl) ∧ ∃ el sp, d = .slice el sp ∧ D' ∈ el := fun a ha => by
   obtain ⟨i,hi,rfl⟩ := List.mem_iff_getElem.1 ha
   exact ⟨nf,D i,Pl i,(hL i hi).2.2,_,_,(Prod.mk.inj hxx).1,List.mem_map.2 ⟨i,List.mem_range.2 hi,rfl⟩⟩
  have hall : ∀ x ∈ L.map ea,x.length = n := fun x hx => by
   obtain ⟨a,ha,rfl⟩ := List.mem_map.1 hx
   obtain ⟨i,hi,rfl⟩ := List.mem_iff_getElem.1 ha
   exact (hL i hi).1
  have hmx' : L.length ≤ maxLen := by omega
  have hfl := flatV_len hall
  rw [List.length_map] at hfl
  have hfg : ∀ i (hi : i < L.length),((L.map ea).flatten.drop (i * n)).take n = ea L[i] := fun i hi => by
   have := flat_get hall i (by rw [List.length_map]; exact hi)
   rw [this,List.getElem_map]
  have hcell : ∀ j (hj : j < (L.map ea).flatten.length),cc[ao + j]? = some (L.map ea).flatten[j] := fun j hj => by
   have hq : j / n < L.length := by rw [hfl] at hj; exact Nat.div_lt_of_lt_mul (by rw [Nat.mul_comm]; exact hj)
   have hr := Nat.mod_lt j hn
   have hdm := Nat.div_add_mod j n
   have := (hL (j / n) hq).2.1 (j % n) (by rw [(hL (j / n) hq).1]; exact hr)
   rw [show ao + j / n * n + j % n = ao + j by rw [Nat.mul_comm]; omega] at this
   rw [this]
   congr 1
   have hg := hfg (j / n) hq
   have e2 : (ea L[j / n])[j % n]'(by rw [(hL (j / n) hq).1]; exact hr) = (((L.map ea).flatten.drop (j / n * n)).take n)[j % n]'(by rw [hg,(hL (j / n) hq).1]; exact hr) := by
    congr 1
    exact hg.symm
   rw [e2,List.getElem_take,List.getElem_drop]
   congr 1
   rw [Nat.mul_comm]; omega
  by_cases hp : 0 < L.length
  ·have hp2 : 0 < (L.map ea).flatten.length := by rw [hfl]; exact Nat.mul_pos hp hn
   have hsz : ao + (L.map ea).flatten.length ≤ cc.size := by
    have := hcell ((L.map ea).flatten.length - 1) (by omega)
    have := (Array.getElem?_eq_some_iff.1 this).1
    omega
   have hr : ∀ i,i < (L.map ea).flatten.length → (∀ μ,VRel μ ((L.map ea).flatten.getD i unk) (cc.getD (ao + i) unk)) ∧ (cc.getD (ao + i) unk).oneCell' = true := fun i hi => by
    have e0 := hcell i hi
    have e1 : cc.getD (ao + i) unk = (L.map ea).flatten[i] := by simp only [Array.getD_eq_getD_getElem?,e0,Option.getD_some]
    have e2 : (L.map ea).flatten.getD i unk = (L.map ea).flatten[i] := by rw [List.getD,List.getElem?_eq_getElem hi]; rfl
    rw [e1,e2]
    obtain ⟨x,hx,hxm⟩ := List.mem_flatten.1 (List.getElem_mem hi)
    obtain ⟨a,_,rfl⟩ := List.mem_map.1 hx
    exact plain a _ hxm
   have gv := g.rel.given g.ro (cb := ab) (dl := ao) (c := (L.map ea).flatten) n hblk hsz hr
   have le := g.le_push ⟨ab,ao,(L.map ea).flatten.length,cc.size,n,false⟩ (.cells (L.map ea).flatten .ro n)
   refine ⟨_, _, .slice (some ⟨h.n, 0, none⟩) L.length m, L, ⟨gv.1, gv.2⟩, le.1, le.2, ?_, .inr ⟨h.n, 0, m, (L.map ea).flatten, .ro, n, rfl, by simp [Heap.cellsOf, push_m], by omega, fun _ => rfl, fun i hi => ?_⟩, hmx', hmem⟩
   ·exact VRel.slice (mi := ⟨ab,ao,(L.map ea).flatten.length,cc.size,n,false⟩) (Mu.ext_same _ _ _) (.inl rfl)
   ·unfold acut
    have hin : i * n + n ≤ L.length * n := by
     have : (i + 1) * n ≤ L.length * n := Nat.mul_le_mul_right n hi
     rw [Nat.add_mul] at this; omega
    rw [if_pos (by rw [hfl]; omega),Nat.zero_add,hfg i hi]
  ·have hl0 : L = [] := List.eq_nil_of_length_eq_zero (by omega)
   subst hl0
   have gv := g.rel.given g.ro (cb := ab) (dl := 0) (c := []) n hblk (by simp) (fun i hi => by simp at hi)
   have le := g.le_push ⟨ab,0,0,cc.size,n,false⟩ (.cells [] .ro n)
   refine ⟨_, _, .slice (some ⟨h.n, ao, none⟩) 0 m, [], ⟨gv.1, gv.2⟩, le.1, le.2, ?_, .inr ⟨h.n, ao, m, [], .ro, n, rfl, by simp [Heap.cellsOf, push_m], by simp, fun _ => rfl, fun i hi => by simp at hi⟩, hmx', hmem⟩
   have := VRel.slice (o := ao) (l := 0) (c := m) (c' := m) (mi := ⟨ab,0,0,cc.size,n,false⟩) (Mu.ext_same μ h.n _) (.inl rfl)
   simpa using this
theorem flatRot {H : Type} {W : World} {enc : TypeId × Value → H} : FlatK enc Tryz.prog W 33 [.i64,.u8] := by
 have i3 : FlatK enc Tryz.prog W 3 [.i64] := flatK_int Tryz.underlying3 (by kernel_rfl)
 have i5 : FlatK enc Tryz.prog W 5 [.u8] := flatK_int Tryz.underlying5 (by kernel_rfl)
 refine flatK_struct Tryz.underlying33 (by kernel_rfl) fun j hj => ?_
 match j,hj with
 | 0,_ => exact ⟨0,_,_,rfl,Nat.le_refl _,(by show 0 < 0 + 1; omega),i3,rfl⟩
 | 1,_ => exact ⟨1,_,_,rfl,Nat.le_refl _,(by show 1 < 1 + 1; omega),i5,rfl⟩
theorem rots_in {H : Type} {W : World} {enc : TypeId × Value → H} {μ : Mu} {h : Heap} (g : Given W μ h) {v : Value} {d : DataW H} {ps : List MemPlace}
  (hval : Value.okWide Tryz.prog W .any 0 24 v) (hd : DataW.Trod enc Tryz.prog W 0 (fun _ => true) true 24 v d ps) :
  ∃ μ' h' va l,Given W μ' h' ∧ μ.Le μ' ∧ h.Le h' ∧ VRel μ' va v ∧ SlG eR 2 h' va l ∧ ∀ x ∈ l,-9223372036854775808 ≤ x.1 ∧ x.1 < 9223372036854775808 := by
 have key : ∀ {fuel : Nat} {x : DataW H × List MemPlace} {cs : List Value},DataW.trod enc Tryz.prog W 0 (fun _ => true) true fuel 33 cs = some x → ∃ a : Int × UInt8,cs = eR a ∧ -9223372036854775808 ≤ a.1 ∧ a.1 < 9223372036854775808 := fun {fuel x cs} hx => by
  obtain ⟨hl,hc⟩ := (flatRot (enc := enc) (W := W)).2 _ _ _ _ _ _ hx
  obtain ⟨n0,h0,w0⟩ := hc 0 (by decide)
  obtain ⟨n1,h1,w1⟩ := hc 1 (by decide)
  obtain ⟨c,hc2⟩ := u8_of (n := n1) w1
  match cs,hl with
  | [a,b],_ =>
    simp at h0 h1
    refine ⟨(n0,c),by rw [h0,h1,hc2],?_⟩
    have : (Lit.int .i64 n0).wf = true := w0
    simp [Lit.wf,IntKind.min,IntKind.max,IntKind.signed,IntKind.bits] at this
    show -9223372036854775808 ≤ n0 ∧ n0 < 9223372036854775808
    exact ⟨by omega,by omega⟩
 obtain ⟨μ', h', va, l, q1, q2, q3, q4, q5, _, q7⟩ := given_rows (ea := eR) (n := 2) g Tryz.underlying24 (by kernel_rfl) (by omega) hval hd (fun a v hv => by
   simp at hv
   rcases hv with rfl | rfl
   ·exact ⟨fun _ => .int,rfl⟩
   ·exact ⟨fun _ => .int,rfl⟩) fun fuel x cs hx => by
   obtain ⟨a,ha,_⟩ := key hx
   exact ⟨a,ha,rfl⟩
 refine ⟨μ', h', va, l, q1, q2, q3, q4, q5, fun x hx => ?_⟩
 obtain ⟨fuel,D,Pl,ht,_⟩ := q7 x hx
 obtain ⟨a,ha,hw⟩ := key ht
 have : x.1 = a.1 := by
  simp at ha
  exact ha.1
 rw [this]; exact hw
end
end Go.Proofs.YtdnmkenamgfjoaaGreat.arbl
