/-
 Contracts.
-/
import Derived.Test.YtdnmkenamgfjoaaGreatArbk
import Derived.IntWalk
import Derived.KernelRfl
set_option linter.unusedSimpArgs false
set_option linter.unusedVariables false
set_option linter.unusedSectionVars false
namespace Go.Proofs.YtdnmkenamgfjoaaGreat.arbl
open Go Go.Ab Go.Proofs Go.RowKit Go.Proofs.YtdnmkenamgfjoaaGreat.str Go.Proofs.YtdnmkenamgfjoaaGreat.vers Go.Proofs.YtdnmkenamgfjoaaGreat.lin1 Go.Proofs.YtdnmkenamgfjoaaGreat.sha Go.Proofs.YtdnmkenamgfjoaaGreat.arba Go.Proofs.YtdnmkenamgfjoaaGreat.arbb Go.Proofs.YtdnmkenamgfjoaaGreat.arbc Go.Proofs.YtdnmkenamgfjoaaGreat.arbd Go.Proofs.YtdnmkenamgfjoaaGreat.arbe Go.Proofs.YtdnmkenamgfjoaaGreat.arbf Go.Proofs.YtdnmkenamgfjoaaGreat.arbg Go.Proofs.YtdnmkenamgfjoaaGreat.arbi Go.Proofs.YtdnmkenamgfjoaaGreat.arbj Go.Proofs.YtdnmkenamgfjoaaGreat.arbk
variable [Inhabited TabBox]
variable [Nonempty GF]
variable [Nonempty GE]
set_option maxRecDepth 100000
def hitF : Nat → List Int → List MEnt
 | _, [] => []
 | i, x :: r => ⟨.int .i64 x, .bool true, i⟩ :: hitF (i + 1) r
theorem hitF_app : ∀ (X : List Int) (i : Nat) (n : Int), hitF i (X ++ [n]) = hitF i X ++ [⟨.int .i64 n, .bool true, i + X.length⟩]
 | [], _, _ => rfl
 | x :: r, i, n => by
  have ih := hitF_app r (i + 1) n
  show ⟨_, _, _⟩ :: hitF (i + 1) (r ++ [n]) = ⟨_, _, _⟩ :: (hitF (i + 1) r ++ _)
  rw [ih]
  simp [Nat.add_assoc, Nat.add_comm 1]
theorem hitF_len : ∀ (X : List Int) (i : Nat), (hitF i X).length = X.length
 | [], _ => rfl
 | _ :: r, i => by simp [hitF, hitF_len r (i + 1)]
theorem find_hit {n : Int} : ∀ {X : List Int} {i k : Nat}, n ∈ X → ∃ j e, afind ⟨false, [.i]⟩ (.int .i64 n) (hitF k X) i = some (some (i + j)) ∧ (hitF k X)[j]? = some e ∧ e.val = .bool true
 | x :: r, i, k, h => by
  by_cases e : n = x
  ·subst e
   exact ⟨0, _, by simp [hitF, afind, sameKey, aeqC, aeq], rfl, rfl⟩
  ·obtain ⟨j, e', h1, h2, h3⟩ := find_hit (X := r) (i := i + 1) (k := k + 1) (by simpa [e] using h)
   refine ⟨j + 1, e', ?_, h2, h3⟩
   have : i + (j + 1) = i + 1 + j := by omega
   rw [this, ← h1]
   simp [hitF, afind, sameKey, aeqC, aeq, e]
theorem find_nohit {n : Int} : ∀ {X : List Int} {i k : Nat}, n ∉ X → afind ⟨false, [.i]⟩ (.int .i64 n) (hitF k X) i = some none
 | [], _, _, _ => rfl
 | x :: r, i, k, h => by
  have h' : ¬ n = x ∧ n ∉ r := by simpa using h
  have ih := find_nohit (X := r) (i := i + 1) (k := k + 1) h'.2
  rw [← ih]
  simp [hitF, afind, sameKey, aeqC, aeq, h'.1]
def manI (c : Int → Nat) : Nat → List Int → List MEnt
 | _, [] => []
 | i, q :: r => ⟨.int .i64 q, .int .i64 (c q), i⟩ :: manI c (i + 1) r
theorem manI_app (c : Int → Nat) : ∀ (K : List Int) (i : Nat) (q : Int), manI c i (K ++ [q]) = manI c i K ++ [⟨.int .i64 q, .int .i64 (c q), i + K.length⟩]
 | [], _, _ => rfl
 | x :: r, i, n => by
  have ih := manI_app c r (i + 1) n
  show ⟨_, _, _⟩ :: manI c (i + 1) (r ++ [n]) = ⟨_, _, _⟩ :: (manI c (i + 1) r ++ _)
  rw [ih]
  simp [Nat.add_assoc, Nat.add_comm 1]
theorem find_manI {c : Int → Nat} {q : Int} : ∀ {K : List Int} {i k : Nat}, q ∈ K → ∃ j, afind ⟨false, [.i]⟩ (.int .i64 q) (manI c k K) i = some (some (i + j)) ∧ (manI c k K)[j]? = some ⟨.int .i64 q, .int .i64 (c q), k + j⟩ ∧ K[j]? = some q
 | x :: r, i, k, h => by
  by_cases e : q = x
  ·subst e
   exact ⟨0, by simp [manI, afind, sameKey, aeqC, aeq], rfl, rfl⟩
  ·obtain ⟨j, h1, h2, h3⟩ := find_manI (c := c) (K := r) (i := i + 1) (k := k + 1) (by simpa [e] using h)
   refine ⟨j + 1, ?_, ?_, h3⟩
   ·have : i + (j + 1) = i + 1 + j := by omega
    rw [this, ← h1]
    simp [manI, afind, sameKey, aeqC, aeq, e]
   ·have : k + (j + 1) = k + 1 + j := by omega
    rw [this, ← h2]
    rfl
theorem find_nomanI {c : Int → Nat} {q : Int} : ∀ {K : List Int} {i k : Nat}, q ∉ K → afind ⟨false, [.i]⟩ (.int .i64 q) (manI c k K) i = some none
 | [], _, _, _ => rfl
 | x :: r, i, k, h => by
  have h' : ¬ q = x ∧ q ∉ r := by simpa using h
  have ih := find_nomanI (c := c) (K := r) (i := i + 1) (k := k + 1) h'.2
  rw [← ih]
  simp [manI, afind, sameKey, aeqC, aeq, h'.1]
theorem manI_cong {c c' : Int → Nat} : ∀ {K : List Int} {k : Nat}, (∀ q ∈ K, c q = c' q) → manI c k K = manI c' k K
 | [], _, _ => rfl
 | x :: r, k, h => by
  unfold manI
  rw [manI_cong (K := r) fun q hq => h q (List.mem_cons_of_mem _ hq), h x List.mem_cons_self]
theorem manI_set {c c' : Int → Nat} {q : Int} : ∀ {K : List Int} {k j : Nat}, K.Nodup → K[j]? = some q → (∀ r, r ≠ q → c' r = c r) → (manI c k K).set j ⟨.int .i64 q, .int .i64 (c' q), k + j⟩ = manI c' k K
 | x :: r, k, 0, hn, hj, hc => by
  have e : x = q := by simpa using hj
  subst e
  have hx : x ∉ r := (List.nodup_cons.1 hn).1
  show ⟨_, _, _⟩ :: manI c (k + 1) r = ⟨_, _, _⟩ :: manI c' (k + 1) r
  rw [manI_cong (c := c) (c' := c') fun y hy => (hc y (fun e => hx (e ▸ hy))).symm]
  rfl
 | x :: r, k, j + 1, hn, hj, hc => by
  have hj' : r[j]? = some q := by simpa using hj
  have hx : x ≠ q := fun e => (List.nodup_cons.1 hn).1 (e ▸ List.mem_of_getElem? hj')
  have ih := manI_set (c := c) (c' := c') (k := k + 1) (List.nodup_cons.1 hn).2 hj' hc
  have e : k + (j + 1) = k + 1 + j := by omega
  show ⟨_, _, _⟩ :: (manI c (k + 1) r).set j _ = ⟨_, _, _⟩ :: manI c' (k + 1) r
  rw [e, ih, hc x hx]
theorem secF_rot {V : DevS} (u : DevU V) {p : Nat} (hp : p < V.data.length) (b : UInt8) (m : Nat) (hm : m < V.lock.length) : secF (V.rot p b) m = if m = p / 64 then (secF V m).set (p % 64) ((secF V m)[p % 64]! ^^^ b) else secF V m := by
 have hd := u.dl
 unfold secF DevS.read DevS.rot
 dsimp only
 have hl : ((V.data.drop (64 * m)).take 64).length = 64 := by simp; omega
 refine List.ext_getElem (by split <;> simp) fun j h1 h2 => ?_
 have hj : j < 64 := by simp at h1; omega
 rw [List.getElem_take, List.getElem_drop, List.getElem_set]
 by_cases e : m = p / 64
 ·have hjp : (p = 64 * m + j) ↔ (p % 64 = j) := by omega
  simp only [if_pos e]
  rw [List.getElem_set]
  by_cases q : p % 64 = j
  ·have hpj := hjp.2 q
   rw [if_pos hpj, if_pos q, getElem!_pos _ (p % 64) (by omega), getElem!_pos _ p hp]
   rw [List.getElem_take, List.getElem_drop]
   congr 2
   omega
  ·rw [if_neg fun x => q (hjp.1 x), if_neg q, List.getElem_take, List.getElem_drop]
 ·rw [if_neg (by omega)]
  simp only [if_neg e]
  rw [List.getElem_take, List.getElem_drop]
theorem _root_.Go.Proofs.YtdnmkenamgfjoaaGreat.arbc.DevU.rot {V : DevS} (u : DevU V) (p : Nat) (b : UInt8) : DevU (V.rot p b) := ⟨u.up, u.lf, by show (V.data.set p _).length = _; rw [List.length_set]; exact u.dl, u.wl, u.nl⟩
def plsF (A : ArB) (a : Nat) (X : List Int) (k : Nat) : List Nat := (List.range (A.D + A.P)).filter fun i => decide (((secN A.D A.P A.S a k i : Nat) : Int) ∈ X)
structure Turn (A : ArB) (a : Nat) (V V' : DevS) (X : List Int) (c : Int → Nat) : Prop where
 u : DevU V'
 lk : V'.lock = V.lock
 no : ∀ m : Nat, m < V.lock.length → (m : Int) ∉ X → secF V' m = secF V m
 yes : ∀ m : Nat, m < V.lock.length → (m : Int) ∈ X → ∃ (j : Nat) (b : UInt8), j < 64 ∧ b ≠ (secF V m)[j]! ∧ secF V' m = (secF V m).set j b
 cnt : ∀ k : Nat, k < A.S → (plsF A a X k).length = c k
 sum : ((List.range A.S).map fun k : Nat => c k).sum = X.length
 lim : ∀ k : Nat, k < A.S → c k ≤ A.P
theorem filter_one {i0 : Nat} {p q : Nat → Bool} (h0 : p i0 = false) (h1 : q i0 = true) (h : ∀ i, i ≠ i0 → q i = p i) : ∀ {n : Nat}, i0 < n → ((List.range n).filter q).length = ((List.range n).filter p).length + 1
 | n + 1, hn => by
  rw [range_filter_succ, range_filter_succ]
  by_cases e : i0 = n
  ·subst e
   rw [if_pos h1, h0, if_neg (by decide), List.length_append]
   congr 2
   exact List.filter_congr fun i hi => h i (by have := List.mem_range.1 hi; omega)
  ·have ih := filter_one h0 h1 h (n := n) (by omega)
   rw [h n (by omega)]
   split
   ·rw [List.length_append, List.length_append, ih]; simp; try omega
   ·exact ih
theorem sum_one {k0 : Nat} {f g : Nat → Nat} (h1 : g k0 = f k0 + 1) (h : ∀ i, i ≠ k0 → g i = f i) : ∀ {n : Nat}, k0 < n → ((List.range n).map g).sum = ((List.range n).map f).sum + 1
 | n + 1, hn => by
  rw [List.range_succ, List.map_append, List.map_append, List.sum_append, List.sum_append]
  by_cases e : k0 = n
  ·subst e
   have : (List.range k0).map g = (List.range k0).map f := List.map_congr_left fun i hi => h i (by have := List.mem_range.1 hi; omega)
   rw [this]
   simp [h1]; try omega
  ·have ih := sum_one h1 h (n := n) (by omega)
   rw [ih]
   simp [h n (by omega)]; try omega
theorem sum_zero : ∀ n : Nat, ((List.range n).map fun _ => 0).sum = 0
 | 0 => rfl
 | n + 1 => by rw [List.range_succ, List.map_append, List.sum_append, sum_zero n]; rfl
theorem Turn.zero {A : ArB} {a : Nat} {V : DevS} (u : DevU V) : Turn A a V V [] fun _ => 0 := ⟨u, rfl, fun _ _ _ => rfl, fun _ _ h => (by cases h), fun k _ => (by unfold plsF; simp), sum_zero _, fun _ _ => Nat.zero_le _⟩
def bump (c : Int → Nat) (k : Int) : Int → Nat := fun r => if r = k then c r + 1 else c r
theorem Turn.succ {A : ArB} {a : Nat} {V V' : DevS} {X : List Int} {c : Int → Nat} (t : Turn A a V V' X c) (ux : DevU V) {k i p : Nat} {b : UInt8} (hb : b ≠ 0) (hk : k < A.S) (hi : i < A.D + A.P) (hp : p / 64 = secN A.D A.P A.S a k i) (hpl : p < V.data.length) (hx : ((p / 64 : Nat) : Int) ∉ X) (hc : c k < A.P) :
  Turn A a V (V'.rot p b) (X ++ [((p / 64 : Nat) : Int)]) (bump c k) := by
 have hl : V'.lock.length = V.lock.length := by rw [t.lk]
 have hd : V'.data.length = V.data.length := by rw [t.u.dl, ux.dl, hl]
 have hdl := ux.dl
 have hpm : p / 64 < V.lock.length := by omega
 refine ⟨t.u.rot p b, t.lk, fun m hm hn => ?_, fun m hm hn => ?_, fun k' hk' => ?_, ?_, fun k' hk' => ?_⟩
 ·have h1 : (m : Int) ∉ X ∧ m ≠ p / 64 := ⟨fun q => hn (List.mem_append_left _ q), fun q => hn (by rw [q]; simp)⟩
  rw [secF_rot t.u (by omega) b m (by omega), if_neg h1.2]
  exact t.no m hm h1.1
 ·by_cases e : m = p / 64
  ·subst e
   have h0 := t.no _ hm hx
   have hs := secF_len t.u (i := p / 64) (by omega)
   refine ⟨p % 64, (secF V (p / 64))[p % 64]! ^^^ b, by omega, fun q => hb ?_, ?_⟩
   ·have := congrArg ((secF V (p / 64))[p % 64]! ^^^ ·) q
    simpa [← UInt8.xor_assoc] using this
   ·rw [secF_rot t.u (by omega) b _ (by omega), if_pos rfl, h0]
  ·rw [secF_rot t.u (by omega) b m (by omega), if_neg e]
   refine t.yes m hm ?_
   rcases List.mem_append.1 hn with q | q
   ·exact q
   ·simp at q; omega
 ·unfold bump
  by_cases e : k' = k
  ·subst e
   rw [if_pos rfl, ← t.cnt k' hk']
   unfold plsF
   refine filter_one (i0 := i) (decide_eq_false (by rw [← hp]; exact hx)) (decide_eq_true (by rw [← hp]; simp)) (fun j hj => ?_) hi
   rw [decide_eq_decide]
   constructor
   ·intro q
    rcases List.mem_append.1 q with q | q
    ·exact q
    ·have q1 : ((secN A.D A.P A.S a k' j : Nat) : Int) = ((p / 64 : Nat) : Int) := by simpa using q
     have q2 : secN A.D A.P A.S a k' j = p / 64 := by omega
     rw [hp] at q2
     exact absurd (secN_inj2 hk' hk' q2).2 hj
   ·exact fun q => List.mem_append_left _ q
  ·rw [if_neg (by omega), ← t.cnt k' hk']
   unfold plsF
   congr 1
   refine List.filter_congr fun j hj => ?_
   rw [decide_eq_decide]
   constructor
   ·intro q
    rcases List.mem_append.1 q with q | q
    ·exact q
    ·have q1 : ((secN A.D A.P A.S a k' j : Nat) : Int) = ((p / 64 : Nat) : Int) := by simpa using q
     have q2 : secN A.D A.P A.S a k' j = p / 64 := by omega
     rw [hp] at q2
     exact absurd (secN_inj2 hk' hk q2).1 e
   ·exact fun q => List.mem_append_left _ q
 ·rw [List.length_append, ← t.sum]
  exact sum_one (k0 := k) (f := fun k : Nat => c k) (g := fun r : Nat => bump c k r) (by unfold bump; rw [if_pos rfl]) (fun j hj => by unfold bump; rw [if_neg (by omega)]) hk
 ·unfold bump
  split
  ·rename_i e
   have : k' = k := by omega
   subst this; omega
  ·exact t.lim k' hk'
theorem Turn.wr {A : ArB} {a : Nat} {V V' : DevS} {X : List Int} {c : Int → Nat} (t : Turn A a V V' X c) {k : Nat} (B : List (List UInt8)) (hB : B.length = A.D + A.P) (hB6 : ∀ y ∈ B, y.length = 60) (hs : strF A V a k = B.map crE) (hlt : ∀ i, i < A.D + A.P → secN A.D A.P A.S a k i < V.lock.length) :
  erF (strF A V' a k) = plsF A a X k ∧ wrF B (strF A V' a k) (A.D + A.P) = plsF A a X k ∧ (∀ i, i < A.D + A.P → i ∉ plsF A a X k → ((strF A V' a k)[i]!).take 60 = B[i]!) := by
 have key : ∀ i, i < A.D + A.P → (B[i]!).length = 60 ∧ secF V (secN A.D A.P A.S a k i) = crE B[i]! ∧ (strF A V' a k)[i]! = secF V' (secN A.D A.P A.S a k i) := fun i hi => by
  have hiB : i < B.length := by omega
  rw [getElem!_pos B i hiB]
  refine ⟨hB6 _ (List.getElem_mem _), ?_, ?_⟩
  ·have := congrArg (fun l => l[i]!) hs
   rw [getElem!_pos _ i (by rw [strF_len]; exact hi), getElem!_pos _ i (by simpa using hiB), List.getElem_map] at this
   rw [← this]
   simp [strF]
  ·rw [getElem!_pos _ i (by rw [strF_len]; exact hi)]
   simp [strF]
 have two : ∀ i, i < A.D + A.P → (((secN A.D A.P A.S a k i : Nat) : Int) ∈ X → crE (((strF A V' a k)[i]!).take 60) ≠ (strF A V' a k)[i]! ∧ crE B[i]! ≠ (strF A V' a k)[i]!) ∧ (((secN A.D A.P A.S a k i : Nat) : Int) ∉ X → (strF A V' a k)[i]! = crE B[i]!) := fun i hi => by
  obtain ⟨h60, h1, h2⟩ := key i hi
  refine ⟨fun q => ?_, fun q => ?_⟩
  ·obtain ⟨j, b, hj, hb, e⟩ := t.yes _ (hlt i hi) q
   rw [h2, e, h1]
   rw [h1] at hb
   have hjl : j < (crE B[i]!).length := by rw [crE_len, h60]; omega
   rw [getElem!_pos _ j hjl] at hb
   refine ⟨crE_turn h60 hjl hb, fun e2 => hb ?_⟩
   have : (crE B[i]!)[j] = ((crE B[i]!).set j b)[j]'(by rw [List.length_set]; exact hjl) := List.getElem_of_eq e2 hjl
   rw [this]; simp
  ·rw [h2, t.no _ (hlt i hi) q, h1]
 have hsl := strF_len A V' a k
 refine ⟨?_, ?_, fun i hi hn => ?_⟩
 ·unfold erF plsF
  rw [hsl]
  refine List.filter_congr fun i hi => ?_
  have hi' := List.mem_range.1 hi
  rw [decide_eq_decide]
  constructor
  ·intro q
   refine Classical.byContradiction fun hn => q ?_
   rw [(two i hi').2 hn, crE_take (key i hi').1]
  ·exact fun q => ((two i hi').1 q).1
 ·unfold wrF plsF
  refine List.filter_congr fun i hi => ?_
  have hi' := List.mem_range.1 hi
  rw [decide_eq_decide]
  constructor
  ·intro q
   refine Classical.byContradiction fun hn => q ?_
   rw [(two i hi').2 hn]
  ·exact fun q => ((two i hi').1 q).2
 ·have hn2 : ((secN A.D A.P A.S a k i : Nat) : Int) ∉ X := fun q => hn (by
   unfold plsF
   rw [List.mem_filter]
   exact ⟨List.mem_range.2 hi, decide_eq_true q⟩)
  rw [(two i hi).2 hn2, crE_take (key i hi).1]
theorem Turn.at' {A : ArB} {a : Nat} {V V' : DevS} {X : List Int} {c : Int → Nat} (t : Turn A a V V' X c) {k : Nat} (B : List (List UInt8)) (hB : B.length = A.D + A.P) (hs : strF A V a k = B.map crE) (hlt : ∀ i, i < A.D + A.P → secN A.D A.P A.S a k i < V.lock.length) (i : Nat) (hi : i < A.D + A.P) (hn : i ∉ plsF A a X k) : secF V' (secN A.D A.P A.S a k i) = crE B[i]! := by
 have hn2 : ((secN A.D A.P A.S a k i : Nat) : Int) ∉ X := fun q => hn (by
  unfold plsF
  rw [List.mem_filter]
  exact ⟨List.mem_range.2 hi, decide_eq_true q⟩)
 rw [t.no _ (hlt i hi) hn2]
 have hiB : i < B.length := by omega
 rw [getElem!_pos B i hiB]
 have := congrArg (fun l => l[i]!) hs
 rw [getElem!_pos _ i (by rw [strF_len]; exact hi), getElem!_pos _ i (by simpa using hiB), List.getElem_map] at this
 rw [← this]
 simp [strF]
theorem ldW_sum (A : ArB) (V : DevS) (a : Nat) (X : Nat → List (List UInt8)) : ∀ n, ldW A V a X n = ((List.range n).map fun k => (wrF (X k) (strF A V a k) (A.D + A.P)).length).sum
 | 0 => rfl
 | n + 1 => by
  rw [List.range_succ, List.map_append, List.sum_append, ← ldW_sum A V a X n]
  simp [ldW]
abbrev eR (x : Int × UInt8) : List Value := [.int .i64 x.1, .int .u8 (x.2.toNat : Int)]
def SlG {α : Type} (ea : α → List Value) (n : Nat) (h : Heap) (v : Value) (l : List α) : Prop :=
 (∃ c, v = .slice none 0 c ∧ l = []) ∨ ∃ b o cap c m e, v = .slice (some ⟨b, o, none⟩) l.length cap ∧ h.cellsOf b = some (c, m, e) ∧ l.length ≤ cap ∧ (m.isLoose = true → e = n) ∧ ∀ i (hi : i < l.length), acut c (o + i * n) n = some (ea l[i])
theorem SlG.keep {α : Type} {ea : α → List Value} {n : Nat} {h H : Heap} {v : Value} {l : List α} (s : SlG ea n h v l) (g : ∀ u ob, h.m u = some ob → H.m u = some ob) : SlG ea n H v l := by
 rcases s with q | ⟨b, o, cap, c, m, e, h1, h2, h3, h4, h5⟩
 ·exact .inl q
 ·exact .inr ⟨b, o, cap, c, m, e, h1, cellsOf_keep g h2, h3, h4, h5⟩
theorem SlG.form {α : Type} {ea : α → List Value} {n : Nat} {h : Heap} {v : Value} {l : List α} (s : SlG ea n h v l) : ∃ a c, v = .slice a l.length c := by
 rcases s with ⟨c, rfl, rfl⟩ | ⟨b, o, cap, c, m, e, rfl, _⟩
 ·exact ⟨_, _, rfl⟩
 ·exact ⟨_, _, rfl⟩
theorem SlG.at' {α : Type} {ea : α → List Value} {n : Nat} {h : Heap} {v : Value} {l : List α} (s : SlG ea n h v l) {i : Nat} (hi : i < l.length) : ∃ b o cap c m e, v = .slice (some ⟨b, o, none⟩) l.length cap ∧ h.cellsOf b = some (c, m, e) ∧ acut c (o + i * n) n = some (ea l[i]) := by
 rcases s with ⟨c, _, rfl⟩ | ⟨b, o, cap, c, m, e, h1, h2, h3, h4, h5⟩
 ·simp at hi
 ·exact ⟨b, o, cap, c, m, e, h1, h2, h5 i hi⟩
theorem lat_bls {H : Heap} {nm : Option Nat} {v : Value} {L : List (List UInt8)} {n : Nat} (hn : L.length = n) (h60 : ∀ x ∈ L, x.length = 60) (l : LAt H 60 nm v n (ubs L.flatten)) : BlS H v L := by
 subst hn
 refine ⟨h60, ?_⟩
 rcases l with ⟨_, rfl, e1, _⟩ | ⟨x, md, e, _, rfl, h3, h4, _⟩
 ·exact .inl ⟨0, rfl, List.eq_nil_of_length_eq_zero e1⟩
 ·exact .inr ⟨x, 0, _, _, md, e, rfl, h3, fun i hi => by rw [Nat.zero_add]; exact flat_cut h60 i hi⟩
theorem lat_ints {H : Heap} {nm : Option Nat} {v : Value} {E : List Nat} (l : LAt H 1 nm v E.length (E.map ei)) : Sl cI H v (E.map fun i : Nat => (i : Int)) := by
 have : E.map ei = (E.map fun i : Nat => (i : Int)).map cI := by rw [List.map_map]; rfl
 rw [this] at l
 exact LAt.sl l
structure ManK (H : Heap) (mm : Nat) (c : Int → Nat) (K : List Int) : Prop where
 nd : K.Nodup
 at' : H.m mm = some (.map (manI c 0 K) K.length)
 off : ∀ k, k ∉ K → c k = 0

def blkF (A : ArB) (x : Hd) (img : List UInt8) (k : Nat) : List (List UInt8) := encB A.D A.P (((txL A.D A.P A.S x img).drop (k * A.D)).take A.D)
structure Blk (A : ArB) (x : Hd) (img : List UInt8) : Prop where
 len : ∀ k, k < A.S → (blkF A x img k).length = A.D + A.P ∧ ∀ y ∈ blkF A x img k, y.length = 60
 rt : ∀ k, k < A.S → ∀ q, q < 60 → rightF A.P (colF (blkF A x img k) q)
 tk : ∀ k, k < A.S → (blkF A x img k).take A.D = ((txL A.D A.P A.S x img).drop (k * A.D)).take A.D
 get : getH (ldT A (blkF A x img) A.S) = (x, 0)
 im : ((ldT A (blkF A x img) A.S).drop 48).take img.length = img
 n : x.n = img.length
 room : x.n ≤ roomF A.D A.P A.S
theorem blk_ok (A : ArB) (hr : right A.D A.P A.S = true) (x : Hd) (hx : x.hs.length = 32) (img : List UInt8) (hE : txE A.D A.P A.S x img.length = 0) : Blk A x img := by
 obtain ⟨⟨hd1, hd8⟩, ⟨hp2, hp6⟩, hn1, hn8⟩ := right_prop.1 hr
 have hT : txL A.D A.P A.S x img = splitT (putH x ++ img) (A.D * A.S) := by
  unfold txL
  rw [if_pos hE]
  have : ((A.D : Int) * A.S) = ((A.D * A.S : Nat) : Int) := by push_cast; rfl
  rw [this]; rfl
 have hcond : right A.D A.P A.S = true ∧ rightH x ∧ x.n = img.length ∧ (img.length : Int) ≤ roomF A.D A.P A.S := by
  unfold txE at hE
  split at hE
  ·rename_i q
   refine ⟨q.1, q.2.1, q.2.2, ?_⟩
   split at hE
   ·omega
   ·omega
  ·omega
 obtain ⟨_, hR, hn, hroom⟩ := hcond
 have hTl := splitT_len (putH x ++ img) (A.D * A.S)
 have hT60 := splitT_60 (putH x ++ img) (A.D * A.S)
 have hpl : (putH x).length = 48 := putH_len hx
 have hroomv : roomF A.D A.P A.S = max (60 * ((A.D * A.S : Nat) : Int) - 48) 0 := by
  unfold roomF
  rw [if_pos hr]
  push_cast; rfl
 have hfit : (putH x ++ img).length ≤ 60 * (A.D * A.S) := by
  have : 1 ≤ A.D * A.S := Nat.mul_pos (by omega) (by omega)
  rw [List.length_append, hpl]; omega
 have hTf := splitT_flat (A.D * A.S) (putH x ++ img) hfit
 rw [← hT] at hTl hT60 hTf
 have hLk : ∀ k, k < A.S → (((txL A.D A.P A.S x img).drop (k * A.D)).take A.D).length = A.D ∧ ∀ y ∈ ((txL A.D A.P A.S x img).drop (k * A.D)).take A.D, y.length = 60 := fun k hk => by
  refine ⟨?_, fun y hy => hT60 y (List.mem_of_mem_drop (List.mem_of_mem_take hy))⟩
  have : (k + 1) * A.D ≤ A.S * A.D := Nat.mul_le_mul_right _ hk
  rw [Nat.add_mul, Nat.one_mul, Nat.mul_comm A.S] at this
  rw [List.length_take, List.length_drop, hTl]; omega
 have hXD : ∀ k, k < A.S → (blkF A x img k).take A.D = ((txL A.D A.P A.S x img).drop (k * A.D)).take A.D := fun k hk => encB_data (hLk k hk).1 (by omega) (hLk k hk).2
 have hld : ldT A (blkF A x img) A.S = (txL A.D A.P A.S x img).flatten := by
  rw [ldT_eq]
  exact chunks_flat A.D A.S _ hTl (fun k => (blkF A x img k).take A.D) hXD
 refine ⟨fun k hk => ⟨encB_len _ _ _, encB_60 _ _ _⟩, fun k hk q hq => encB_right (hLk k hk).1 (by omega) q hq, hXD, ?_, ?_, hn, by rw [hn]; exact hroom⟩
 ·rw [hld, hTf, List.append_assoc]; exact get_put hx hR _
 ·rw [hld, hTf, List.append_assoc, List.drop_append_of_le_length (by omega), List.drop_of_length_le (by omega), List.nil_append, List.take_append_of_le_length (Nat.le_refl _), List.take_of_length_le (Nat.le_refl _)]
def Full (A : ArB) (V : DevS) (a : Nat) (x : Hd) (img : List UInt8) : Prop := ∀ k, k < A.S → strF A V a k = (blkF A x img k).map crE
theorem Full.of {A : ArB} {V0 V : DevS} {a : Nat} {x : Hd} {img : List UInt8} (w : Filled A V0 V a (txL A.D A.P A.S x img) A.S) : Full A V a x img := fun k hk => by rw [strF_filled w k hk]; rfl
theorem Full.filled {A : ArB} {V : DevS} {a : Nat} {x : Hd} {img : List UInt8} (f : Full A V a x img) : Filled A V V a (txL A.D A.P A.S x img) A.S := ⟨rfl, fun k i hk hi => by
 have h := congrArg (fun l => l[i]!) (f k hk)
 rw [getElem!_pos (strF A V a k) i (by rw [strF_len]; exact hi)] at h
 rw [show (strF A V a k)[i]'(by rw [strF_len]; exact hi) = secF V (secN A.D A.P A.S a k i) by simp [strF]] at h
 rw [h]; rfl, fun _ _ _ => rfl⟩
theorem secN_fit {A : ArB} {V : DevS} {h : Heap} (K : ArK h A V) {a k i : Nat} (ha : a ≤ 2) (hk : k < A.S) (hi : i < A.D + A.P) : secN A.D A.P A.S a k i < V.lock.length := by
 have := (secN_lt K.rt ha hk hi).1
 have := K.sz
 omega
theorem load_turned (A : ArB) (V V' : DevS) (a : Nat) (ha : a ≤ 2) (x : Hd) (hx : x.hs.length = 32) (img : List UInt8) (hE : txE A.D A.P A.S x img.length = 0) (hsh : x.hs = shaB img) (w : Full A V a x img) (X : List Int) (c : Int → Nat) (t : Turn A a V V' X c) (h : Heap) (K : ArK h A V') :
  ACalls Tryz.prog 29 [.pointer (some ⟨A.a, 0, none⟩), .int .i64 (a : Int)] h fun r h' => r = .tuple #[hv x, .string (bs img), .int .i64 X.length, .int .i64 0] ∧ ∃ q, ArK h' A (V'.wop q) ∧ ArX A h h' := by
 have B := blk_ok A K.rt x hx img hE
 have hwr := fun k hk => t.wr (k := k) (blkF A x img k) (B.len k hk).1 (B.len k hk).2 (w k hk) (fun i hi => by rw [← t.lk]; exact secN_fit K ha hk hi)
 have key := load_ok A V' a ha (blkF A x img) B.len x hx img B.get B.n B.room B.im hsh h K fun k hk H v ck sv' =>
  cread_er A.c A.k A.s A.f A.gw A.D A.P A.S K.rt (strF A V' a k) (strF_64 A V' a k ha hk h K) (strF_len _ _ _ _) (blkF A x img k) (B.len k hk).1 (B.len k hk).2 v H ck sv' (by rw [(hwr k hk).1, t.cnt k hk]; exact t.lim k hk) (B.rt k hk) (fun i hi hn => (hwr k hk).2.2 i hi (by rw [← (hwr k hk).1]; exact hn))
 have hsum : ldW A V' a (blkF A x img) A.S = X.length := by
  rw [ldW_sum, ← t.sum]
  congr 1
  refine List.map_congr_left fun k hk => ?_
  have hk' := List.mem_range.1 hk
  rw [(hwr k hk').2.1, t.cnt k hk']
 rw [hsum] at key
 exact key
theorem load_full (A : ArB) (V : DevS) (a : Nat) (ha : a ≤ 2) (x : Hd) (hx : x.hs.length = 32) (img : List UInt8) (hE : txE A.D A.P A.S x img.length = 0) (hsh : x.hs = shaB img) (w : Full A V a x img) (h : Heap) (K : ArK h A V) :
  ACalls Tryz.prog 29 [.pointer (some ⟨A.a, 0, none⟩), .int .i64 (a : Int)] h fun r h' => r = .tuple #[hv x, .string (bs img), .int .i64 0, .int .i64 0] ∧ ∃ q, ArK h' A (V.wop q) ∧ ArX A h h' :=
 load_filled A V V a ha x hx img hE hsh w.filled h K
theorem aread_blk (A : ArB) (V' : DevS) (a k : Nat) (ha : a ≤ 2) (hk : k < A.S) (x : Hd) (img : List UInt8) (B : Blk A x img) (E : List Nat) (hE : E.length ≤ A.P) (h1 : erF (strF A V' a k) = E) (h2 : wrF (blkF A x img k) (strF A V' a k) (A.D + A.P) = E) (h3 : ∀ i, i < A.D + A.P → i ∉ E → ((strF A V' a k)[i]!).take 60 = (blkF A x img k)[i]!) (h : Heap) (K : ArK h A V') :
  ACalls Tryz.prog 30 [.pointer (some ⟨A.a, 0, none⟩), .int .i64 (a : Int), .int .i64 (k : Int)] h fun r h' => ∃ va vw nm nn, r = .tuple #[.agg #[va, vw], .int .i64 0] ∧ LAt h' 60 nm va (A.D + A.P) (ubs (blkF A x img k).flatten) ∧ LAt h' 1 nn vw E.length (E.map ei) ∧
   (∀ x, nm = some x → h.n ≤ x) ∧ (∀ x, nn = some x → h.n ≤ x) ∧ (∀ x, nm = some x → nn ≠ some x) ∧ ∃ q, ArK h' A (V'.wop q) ∧ ArX A h h' := by
 refine (aread_er A V' a k ha hk (blkF A x img k) (B.len k hk).1 (B.len k hk).2 (B.rt k hk) (by rw [h1]; exact hE) (fun i hi hn => h3 i hi (by rw [← h1]; exact hn)) h K).mono ?_
 rintro r h' ⟨q, K', ⟨va, vw, rfl, nm, nn, l1, l2, n1, n2, n3⟩, g⟩
 rw [(B.len k hk).1] at l1
 rw [strF_len, h2] at l2
 exact ⟨va, vw, nm, nn, rfl, l1, l2, n1, n2, n3, q, K', g⟩
theorem _root_.Go.Proofs.YtdnmkenamgfjoaaGreat.arbi.Rw.str {A : ArB} {V2 V3 : DevS} {a k : Nat} {T : List (List UInt8)} {ws : List Int} {h : Heap} (K : ArK h A V2) (ha : a ≤ 2) (hk : k < A.S) (r : Rw A V2 V3 a k T ws) (k' : Nat) (hk' : k' < A.S) (hne : k' ≠ k) : strF A V3 a k' = strF A V2 a k' := by
 unfold strF
 refine List.map_congr_left fun i hi => ?_
 have hi' := List.mem_range.1 hi
 exact r.no _ (secN_fit K ha hk' hi') fun j hj e => hne (by
  unfold secN at e
  have h1 : i * A.S + k' = j * A.S + k := by omega
  have e1 : (i * A.S + k') % A.S = k' := by rw [Nat.mul_comm i A.S, Nat.mul_add_mod, Nat.mod_eq_of_lt hk']
  have e2 : (j * A.S + k) % A.S = k := by rw [Nat.mul_comm j A.S, Nat.mul_add_mod, Nat.mod_eq_of_lt hk]
  rw [h1] at e1
  omega)
theorem _root_.Go.Proofs.YtdnmkenamgfjoaaGreat.arbi.Rw.full {A : ArB} {V2 V3 : DevS} {a k : Nat} {B : List (List UInt8)} {E : List Nat} {h : Heap} (K : ArK h A V2) (ha : a ≤ 2) (hk : k < A.S) (hB : B.length = A.D + A.P) (r : Rw A V2 V3 a k (B.map crE) (E.map fun i : Nat => (i : Int))) (hn : ∀ i, i < A.D + A.P → i ∉ E → secF V2 (secN A.D A.P A.S a k i) = crE B[i]!) : strF A V3 a k = B.map crE := by
 refine List.ext_getElem (by rw [strF_len, List.length_map, hB]) fun i h1 h2 => ?_
 have hi : i < A.D + A.P := by rw [strF_len] at h1; exact h1
 have e0 : (strF A V3 a k)[i] = secF V3 (secN A.D A.P A.S a k i) := by simp [strF]
 rw [e0, List.getElem_map, ← getElem!_pos B i (by omega)]
 by_cases q : i ∈ E
 ·rw [r.at' i hi (List.mem_map.2 ⟨i, q, rfl⟩), getElem!_pos (B.map crE) i (by simp; omega), List.getElem_map, getElem!_pos B i (by omega)]
 ·rw [r.no _ (secN_fit K ha hk hi) (fun j hj e => q (by
   obtain ⟨j', hj', e'⟩ := List.mem_map.1 hj
   have : j' = j := by omega
   subst this
   rw [secN_inj (by omega : 0 < A.S) e]; exact hj')), hn i hi q]

def c5_2 : AC := .seq (.seq (.ops [mV 147 21,oP 148 (.fAddr 2 (tP 3)),oP 149 (.load none (tP 148)),oP 150 (.bin .lss (tP 147) (tP 149))]) (.cond (tP 150) .skip (.exit 2))) (.seq (.block 3 (.seq (.ops [mV 154 7,mV 155 21,oP 156 (.call 30 [tP 154,.const (.int .i64 2),tP 155]),mV 153 156,oP 157 (.extr (tP 153) 0),oP 158 (.extr (tP 153) 1),oP 22 (.alloc [.slice none 0 0,.slice none 0 0]),⟨none,none,.store 2 (tP 22) (tP 157)⟩,mV 23 158]) (.seq (.ops [mV 159 23,oP 160 (.bin .neq (tP 159) (kI 0)),mV 161 160,⟨some 162,some (161,false),.fAddr 1 (tP 22)⟩,⟨some 163,some (161,false),.load none (tP 162)⟩,⟨some 164,some (161,false),.lenS false (tP 163)⟩,⟨some 165,some (161,false),.mv (tP 10)⟩,⟨some 166,some (161,false),.mv (tP 21)⟩,⟨some 167,some (161,false),.look ⟨false,[.i]⟩ (.int .i64 0) (tP 165) (tP 166) false⟩,⟨some 168,some (161,false),.bin .neq (tP 164) (tP 167)⟩,oP 169 (.pick (tP 161) (.const (.bool true)) (tP 168)),mV 170 169,⟨some 171,some (170,false),.mv (tP 7)⟩,⟨some 172,some (170,false),.mv (tP 21)⟩,⟨some 173,some (170,false),.load (some 2) (tP 22)⟩,⟨some 174,some (170,false),.fAddr 1 (tP 22)⟩,⟨some 175,some (170,false),.load none (tP 174)⟩,⟨some 176,some (170,false),.call 31 [tP 171,.const (.int .i64 2),tP 172,tP 173,tP 175]⟩,⟨some 177,some (170,false),.bin .neq (tP 176) (kI 0)⟩,oP 178 (.pick (tP 170) (.const (.bool true)) (tP 177))]) (.cond (tP 178) (.seq (.ops [oP 6 (.mv (.const (.bool false)))]) .ret) .skip)))) (.ops [mV 151 21,oP 152 (.bin .add (tP 151) (kI 1)),mV 21 152]))
def c5_0 : AC := .seq (.ops [oP 67 (.bin .lss (tP 66) (tP 65))]) (.seq (.cond (tP 67) .skip (.exit 0)) (.seq (.block 1 (.seq (.ops [oP 68 (.iAddrS 2 (tP 64) (tP 66)),oP 69 (.load (some 2) (tP 68)),oP 12 (.alloc [.int .i64 0,.int .u8 0]),⟨none,none,.store 2 (tP 12) (tP 69)⟩]) (.seq (.ops [oP 71 (.load (some 3) (tP 3)),oP 72 (.fAddr 0 (tP 12)),oP 73 (.load none (tP 72)),oP 74 (.bin .quo (tP 73) (kI 64)),oP 75 (.call 28 [tP 71,tP 74]),mV 70 75,oP 76 (.extr (tP 70) 0),oP 77 (.extr (tP 70) 1),oP 78 (.extr (tP 70) 2),oP 79 (.extr (tP 70) 3),mV 13 76,mV 14 77,mV 15 78,mV 16 79]) (.seq (.seq (.ops [mV 80 16,oP 81 (.un .not (tP 80)),mV 82 81,⟨some 83,some (82,false),.mv (tP 13)⟩,⟨some 84,some (82,false),.bin .neq (tP 83) (kI 2)⟩,oP 85 (.pick (tP 82) (.const (.bool true)) (tP 84)),mV 86 85,⟨some 87,some (86,false),.fAddr 0 (tP 12)⟩,⟨some 88,some (86,false),.load none (tP 87)⟩,⟨some 89,some (86,false),.bin .lss (tP 88) (kI 0)⟩,oP 90 (.pick (tP 86) (.const (.bool true)) (tP 89)),mV 91 90,⟨some 92,some (91,false),.fAddr 1 (tP 12)⟩,⟨some 93,some (91,false),.load none (tP 92)⟩,⟨some 94,some (91,false),.bin .eql (tP 93) (.const (.int .u8 0))⟩,oP 95 (.pick (tP 91) (.const (.bool true)) (tP 94)),mV 96 95,⟨some 97,some (96,false),.mv (tP 9)⟩,⟨some 98,some (96,false),.fAddr 0 (tP 12)⟩,⟨some 99,some (96,false),.load none (tP 98)⟩,⟨some 100,some (96,false),.bin .quo (tP 99) (kI 64)⟩,⟨some 101,some (96,false),.look ⟨false,[.i]⟩ (.bool false) (tP 97) (tP 100) false⟩,oP 102 (.pick (tP 96) (.const (.bool true)) (tP 101)),mV 103 102,⟨some 104,some (103,false),.mv (tP 10)⟩,⟨some 105,some (103,false),.mv (tP 14)⟩,⟨some 106,some (103,false),.look ⟨false,[.i]⟩ (.int .i64 0) (tP 104) (tP 105) false⟩,⟨some 107,some (103,false),.fAddr 1 (tP 3)⟩,⟨some 108,some (103,false),.load none (tP 107)⟩,⟨some 109,some (103,false),.bin .eql (tP 106) (tP 108)⟩,oP 110 (.pick (tP 103) (.const (.bool true)) (tP 109))]) (.cond (tP 110) (.exit 1) .skip)) (.seq (.ops [mV 111 9,oP 112 (.fAddr 0 (tP 12)),oP 113 (.load none (tP 112)),oP 114 (.bin .quo (tP 113) (kI 64)),⟨none,none,.mupd ⟨false,[.i]⟩ (tP 111) (tP 114) (.const (.bool true))⟩]) (.seq (.ops [mV 115 10,mV 116 14,oP 117 (.look ⟨false,[.i]⟩ (.int .i64 0) (tP 115) (tP 116) false),oP 118 (.bin .add (tP 117) (kI 1)),⟨none,none,.mupd ⟨false,[.i]⟩ (tP 115) (tP 116) (tP 118)⟩]) (.ops [mV 119 8,oP 120 (.fAddr 0 (tP 12)),oP 121 (.load none (tP 120)),oP 122 (.fAddr 1 (tP 12)),oP 123 (.load none (tP 122)),oP 124 (.buildS 1 [.int .u8 0] [(0,1,.tmp 123)]),oP 125 (.call 14 [tP 119,tP 121,tP 124])]))))))) (.ops [oP 126 (.bin .add (tP 66) (kI 1)),mV 66 126])))
def c5 : AC := .seq (.ops [oP 3 (.box (tP 0)),oP 6 (.mv (.const (.bool false)))]) (.seq (.seq (.ops [oP 24 (.call 24 []),oP 25 (.un .not (tP 24))]) (.cond (tP 25) (.seq (.ops [oP 6 (.mv (.const (.bool false)))]) .ret) .skip)) (.seq (.seq (.ops [oP 26 (.load (some 3) (tP 3)),oP 27 (.call 20 [tP 26]),oP 28 (.un .not (tP 27)),mV 29 28,⟨some 30,some (29,false),.mv (tP 2)⟩,⟨some 31,some (29,false),.lenS false (tP 30)⟩,⟨some 32,some (29,false),.bin .gtr (tP 31) (kI 40)⟩,oP 33 (.pick (tP 29) (.const (.bool true)) (tP 32)),mV 34 33,⟨some 35,some (34,false),.mv (tP 1)⟩,⟨some 36,some (34,false),.lenS true (tP 35)⟩,⟨some 37,some (34,false),.load (some 3) (tP 3)⟩,⟨some 38,some (34,false),.call 12 [tP 37]⟩,⟨some 39,some (34,false),.bin .gtr (tP 36) (tP 38)⟩,oP 40 (.pick (tP 34) (.const (.bool true)) (tP 39)),mV 41 40,⟨some 42,some (41,false),.mv (tP 1)⟩,⟨some 43,some (41,false),.lenS true (tP 42)⟩,⟨some 44,some (41,false),.bin .gtr (tP 43) (kI 5000)⟩,oP 45 (.pick (tP 41) (.const (.bool true)) (tP 44))]) (.cond (tP 45) (.seq (.ops [oP 6 (.mv (.const (.bool true)))]) .ret) .skip)) (.seq (.ops [oP 47 (.load (some 3) (tP 3)),oP 48 (.call 25 [tP 47]),mV 46 48,oP 49 (.extr (tP 46) 0),oP 50 (.extr (tP 46) 1),mV 7 49,mV 8 50]) (.seq (.seq (.ops [mV 51 7,oP 52 (.eqv false .ptr (tP 51) (.const (.pointer none))),mV 53 52,⟨some 54,some (53,false),.mv (tP 7)⟩,⟨some 55,some (53,false),.build [.int .i64 0,.int .i64 0,.int .i64 0] []⟩,⟨some 56,some (53,false),.mv (tP 1)⟩,⟨some 57,some (53,false),.call 27 [tP 55,tP 56]⟩,⟨some 58,some (53,false),.mv (tP 1)⟩,⟨some 59,some (53,false),.call 26 [tP 54,.const (.int .i64 2),tP 57,tP 58]⟩,⟨some 60,some (53,false),.bin .neq (tP 59) (kI 0)⟩,oP 61 (.pick (tP 53) (.const (.bool true)) (tP 60))]) (.cond (tP 61) (.seq (.ops [oP 6 (.mv (.const (.bool false)))]) .ret) .skip)) (.seq (.ops [oP 62 (.mkMap),mV 9 62]) (.seq (.ops [oP 63 (.mkMap),mV 10 63]) (.seq (.seq (.ops [mV 64 2,oP 65 (.lenS false (tP 64)),oP 66 (.mv (kI 0))]) (.block 0 (.loop c5_0))) (.seq (.ops [mV 128 7,oP 129 (.call 29 [tP 128,.const (.int .i64 2)]),mV 127 129,oP 130 (.extr (tP 127) 0),oP 131 (.extr (tP 127) 1),oP 132 (.extr (tP 127) 2),oP 133 (.extr (tP 127) 3),oP 17 (.alloc z36),⟨none,none,.store 36 (tP 17) (tP 130)⟩,mV 18 131,mV 19 132,mV 20 133]) (.seq (.seq (.ops [mV 134 18,mV 135 1,oP 136 (.bin .neq (tP 134) (tP 135)),mV 137 136,⟨some 138,some (137,false),.mv (tP 19)⟩,⟨some 139,some (137,false),.mv (tP 9)⟩,⟨some 140,some (137,false),.lenM (tP 139)⟩,⟨some 141,some (137,false),.bin .neq (tP 138) (tP 140)⟩,oP 142 (.pick (tP 137) (.const (.bool true)) (tP 141)),mV 143 142,⟨some 144,some (143,false),.mv (tP 20)⟩,⟨some 145,some (143,false),.bin .neq (tP 144) (kI 0)⟩,oP 146 (.pick (tP 143) (.const (.bool true)) (tP 145))]) (.cond (tP 146) (.seq (.ops [oP 6 (.mv (.const (.bool false)))]) .ret) .skip)) (.seq (.seq (.ops [oP 21 (.mv (kI 0))]) (.block 2 (.loop c5_2))) (.seq (.ops [mV 180 7,oP 181 (.call 29 [tP 180,.const (.int .i64 2)]),mV 179 181,oP 182 (.extr (tP 179) 0),oP 183 (.extr (tP 179) 1),oP 184 (.extr (tP 179) 2),oP 185 (.extr (tP 179) 3),mV 18 183,mV 19 184,mV 20 185]) (.seq (.ops [mV 186 18,mV 187 1,oP 188 (.bin .eql (tP 186) (tP 187)),mV 189 188,⟨some 190,some (189,true),.mv (tP 19)⟩,⟨some 191,some (189,true),.bin .eql (tP 190) (kI 0)⟩,oP 192 (.pick (tP 189) (tP 191) (.const (.bool false))),mV 193 192,⟨some 194,some (193,true),.mv (tP 20)⟩,⟨some 195,some (193,true),.bin .eql (tP 194) (kI 0)⟩,oP 196 (.pick (tP 193) (tP 195) (.const (.bool false))),mV 6 196]) .ret))))))))))))
theorem k5 : compF Tryz.prog Tryz.f5 = some (c5, [6]) := by kernel_rfl
theorem n5 : Tryz.f5.ntmps = 197 := by kernel_rfl
structure MnS where
 i : Nat
 X : List Int
 c : Int → Nat
 K : List Int
 V : DevS
 H : Heap
structure MsS where
 k : Nat
 V : DevS
 H : Heap
structure Half (A : ArB) (a : Nat) (V' V : DevS) (x : Hd) (img : List UInt8) (k : Nat) : Prop where
 u : DevU V
 lk : V.lock = V'.lock
 lo : ∀ j, j < k → j < A.S → strF A V a j = (blkF A x img j).map crE
 hi : ∀ j, k ≤ j → j < A.S → strF A V a j = strF A V' a j
theorem Half.zero {A : ArB} {a : Nat} {V : DevS} (u : DevU V) (x : Hd) (img : List UInt8) : Half A a V V x img 0 := ⟨u, rfl, fun j hj => by omega, fun _ _ _ => rfl⟩
theorem Half.succ {A : ArB} {a : Nat} (ha : a ≤ 2) {V4 V' V2 V3 : DevS} {x : Hd} {img : List UInt8} {k : Nat} {X : List Int} {c : Int → Nat} (f : Half A a V' V2 x img k) (t : Turn A a V4 V' X c) (w : Full A V4 a x img) (B : Blk A x img) {h : Heap} (K : ArK h A V2) (hk : k < A.S)
  (r : Rw A V2 V3 a k ((blkF A x img k).map crE) ((plsF A a X k).map fun i : Nat => (i : Int))) (u3 : DevU V3) : Half A a V' V3 x img (k + 1) := by
 refine ⟨u3, r.lk.trans f.lk, fun j hj hjS => ?_, fun j hj hjS => ?_⟩
 ·by_cases e : j = k
  ·subst e
   refine r.full K ha hk (B.len j hk).1 fun i hi hn => ?_
   have h0 : secF V2 (secN A.D A.P A.S a j i) = secF V' (secN A.D A.P A.S a j i) := by
    have := congrArg (fun l => l[i]!) (f.hi j (Nat.le_refl _) hk)
    rw [getElem!_pos (strF A V2 a j) i (by rw [strF_len]; exact hi), getElem!_pos (strF A V' a j) i (by rw [strF_len]; exact hi)] at this
    simpa [strF] using this
   rw [h0]
   exact t.at' _ (B.len j hk).1 (w j hk) (fun i hi => by rw [← t.lk, ← f.lk]; exact secN_fit K ha hk hi) i hi hn
  ·rw [r.str K ha hk j hjS e]
   exact f.lo j (by omega) hjS
 ·rw [r.str K ha hk j hjS (by omega)]
  exact f.hi j (by omega) hjS
theorem okI (x : Int) : okKey ⟨false, [.i]⟩ (.int .i64 x) = true := by simp [okKey, sameKey, aeqC]
theorem manI_get {H : Heap} {mm : Nat} {c : Int → Nat} {K : List Int} (m : ManK H mm c K) (k : Int) : (∃ j, afind ⟨false, [.i]⟩ (.int .i64 k) (manI c 0 K) 0 = some (some j) ∧ (manI c 0 K)[j]? = some ⟨.int .i64 k, .int .i64 (c k), j⟩ ∧ K[j]? = some k) ∨ (afind ⟨false, [.i]⟩ (.int .i64 k) (manI c 0 K) 0 = some none ∧ c k = 0 ∧ k ∉ K) := by
 by_cases h : k ∈ K
 ·obtain ⟨j, h1, h2, h3⟩ := find_manI (c := c) (i := 0) (k := 0) h
  rw [Nat.zero_add] at h1 h2
  exact .inl ⟨j, h1, h2, h3⟩
 ·exact .inr ⟨find_nomanI h, m.off k h, h⟩
theorem hitF_bel {n : Nat} {X : List Int} {k : Nat} : ∀ e ∈ hitF k X, VBelow n e.key ∧ VBelow n e.val := by
 induction X generalizing k with
 | nil => intro e he; cases he
 | cons x r ih =>
  intro e he
  rcases List.mem_cons.1 he with rfl | he
  ·exact ⟨.int, .bool⟩
  ·exact ih e he
theorem manI_bel {n : Nat} {c : Int → Nat} {K : List Int} {k : Nat} : ∀ e ∈ manI c k K, VBelow n e.key ∧ VBelow n e.val := by
 induction K generalizing k with
 | nil => intro e he; cases he
 | cons x r ih =>
  intro e he
  rcases List.mem_cons.1 he with rfl | he
  ·exact ⟨.int, .int⟩
  ·exact ih e he
theorem q64 (x : Int) (h : -9223372036854775808 ≤ x ∧ x < 9223372036854775808) : ∃ n, IntKind.i64.wrap (x.tdiv 64) = n ∧ (0 ≤ x → n = x / 64) ∧ (x < 0 → n ≤ 0) := by
 rcases Int.le_total 0 x with h0 | h0
 ·have e : x.tdiv 64 = x / 64 := Int.tdiv_eq_ediv_of_nonneg h0
  rw [e, IntWalk.i64_in _ (by omega)]
  exact ⟨_, rfl, fun _ => rfl, fun q => by omega⟩
 ·obtain ⟨y, rfl⟩ : ∃ y, x = -y := ⟨-x, by omega⟩
  have e : (-y).tdiv 64 = -(y / 64) := by rw [Int.neg_tdiv, Int.tdiv_eq_ediv_of_nonneg (by omega)]
  rw [e, IntWalk.i64_in _ (by omega)]
  exact ⟨_, rfl, fun q => by omega, fun q => by omega⟩
set_option maxHeartbeats 8000000 in
theorem areaMends_law (d p s : Int) (img : List UInt8) (L : List (Int × UInt8)) (lv : Value) (h : Heap) (hl : SlG eR 2 h lv L) (wf : ∀ x ∈ L, -9223372036854775808 ≤ x.1 ∧ x.1 < 9223372036854775808) :
  ACalls Tryz.prog 5 [gv d p s, .string (bs img), lv] h fun v _ => v = .bool true ∧ True := by
 refine acalls_of mix Tryz.func5 k5 n5 (by simp) fun hcl hb => ?_
 have fil0 : afill [.int .i64 0, .int .i64 0, .int .i64 0] [] = some [.int .i64 0, .int .i64 0, .int .i64 0] := rfl
 have h30 : (.agg #[.int .i64 0, .int .i64 0, .int .i64 0] : Value) = v3 0 0 0 := rfl
 have hq : ∀ p, aeq .ptr (.pointer (some p)) (.pointer none) = some false := fun _ => rfl
 have c1 : (h.push (.cells [.int .i64 d, .int .i64 p, .int .i64 s] .ex 1)).Closed := closed_push hcl (fun x hx => by simp at hx; rcases hx with rfl | rfl | rfl <;> exact .int)
 have f1 := cellsOf_new h [.int .i64 d, .int .i64 p, .int .i64 s] .ex 1
 have n1 : (h.push (.cells [.int .i64 d, .int .i64 p, .int .i64 s] .ex 1)).n = h.n + 1 := rfl
 have g1 : Gr h (h.push (.cells [.int .i64 d, .int .i64 p, .int .i64 s] .ex 1)) := ⟨Nat.le_succ _, c1, keep_push hcl _⟩
 have bl0 := hb lv (by simp)
 obtain ⟨al, cl, rfl⟩ := hl.form
 simp only [c5, s_seq, s_ops]
 simp [gvm]
 generalize h.push (.cells [.int .i64 d, .int .i64 p, .int .i64 s] .ex 1) = H1 at *
 have s1 := hl.keep g1.m
 refine (arawake_ok H1).mono ?_
 rintro _ h9 ⟨rfl, e⟩
 rw [e]; clear e h9
 simp [aun, f1, apart, gvc, gva]
 refine (gRefRight_ok d p s H1).mono ?_
 rintro _ h9 ⟨rfl, e⟩
 rw [e]; clear e h9
 cases hr : right d p s
 ·simp [aun]
 by_cases hbig1 : (40 : Int) < (L.length : Int)
 ·simp [aun, hbig1]
 simp [aun, hbig1, f1, apart, gvc, gva, bs_size]
 refine (groom_ok d p s H1).mono ?_
 rintro _ h9 ⟨rfl, e⟩
 rw [e]; clear e h9
 by_cases hroom : roomF d p s < (img.length : Int)
 ·simp [hroom]
 by_cases hbig : (5000 : Int) < (img.length : Int)
 ·simp [hroom, hbig, bs_size]
 obtain ⟨D, P, S, rfl, rfl, rfl⟩ := nats_of hr
 simp [hroom, hbig, bs_size, f1, apart, gvc, gva]
 refine (fresh_ok D P S hr H1).mono' ?_
 rintro _ H3 c3 _ ⟨A, rfl, K3, g3, ha, hd, hx, hy, hz, hD, hP, hS⟩
 have f3 := cellsOf_keep g3.m f1
 have s3 := s1.keep g3.m
 simp [hq, fil0, h30]
 refine (hof_ok 0 0 0 img (by omega) H3).mono ?_
 rintro _ h9 ⟨rfl, e⟩
 rw [e]; clear e h9
 have hE := of_E K3.rt 0 0 0 rng0 rng0 rng0 img (by rw [hD, hP, hS]; omega) (by omega)
 have free : ∀ a k i, a ≤ 2 → k < A.S → i < A.D + A.P → (dev0 (allS (D : Int) P S).toNat).lock[secN A.D A.P A.S a k i]! = false := fun a k i ha hk hi => secs_free (D := D) (P := P) (S := S) _ _ (by
  have := (secN_lt K3.rt ha hk hi).1
  rw [hD, hP, hS] at this
  rw [hD, hP, hS]
  omega)
 obtain ⟨xB, hxB⟩ : ∃ xB : Hd, (⟨0, 0, 0, (img.length : Int), shaB img⟩ : Hd) = xB := ⟨_, rfl⟩
 have hsB : xB.hs = shaB img := by rw [← hxB]
 have hx32 : xB.hs.length = 32 := by rw [hsB]; exact shaB_len _
 rw [hxB] at hE
 rw [hxB]
 simp
 refine (fill_ok A _ 2 (by omega) xB hx32 img (by omega) hE H3 K3 (fun k i hk hi => free 2 k i (by omega) hk hi)).mono' ?_
 rintro _ H4 c4 _ ⟨rfl, V4, K4, w4, g4⟩
 have full := Full.of w4
 have Bk := blk_ok A K4.rt xB hx32 img hE
 have kx : ∀ {Hb : Heap}, ArX A H4 Hb → ∀ u ob, H1.m u = some ob → Hb.m u = some ob := fun g u ob e => by
  have := (c1 u ob e).1
  have e3 := g3.m u ob e
  have e4 := g4.m u ob e3 (by omega) (by omega) (by omega) (by omega)
  exact g.m u ob e4 (by omega) (by omega) (by omega) (by omega)
 have fx : ∀ {Hb : Heap}, ArX A H4 Hb → Hb.cellsOf h.n = some ([.int .i64 D, .int .i64 P, .int .i64 S], .ex, 1) := fun g => cellsOf_keep (kx g) f1
 have sx : ∀ {Hb : Heap}, ArX A H4 Hb → SlG eR 2 Hb (.slice al L.length cl) L := fun g => s1.keep (kx g)
 obtain ⟨l1, l2, l3, l4, l5⟩ := K4.lo
 have a4n : A.a < H4.n := cellsOf_lt c4 K4.ca
 have n34 := g4.n
 have n13 := g3.n
 have bl : VBelow H4.n (.slice al L.length cl) := bl0.mono (by omega)
 have slR := slot_right hr
 have slB := slot_bound (d := (D : Int)) (p := P) (s := S)
 obtain ⟨⟨hd1, hd8⟩, ⟨hp2, hp6⟩, hn1, hn8⟩ := right_prop.1 hr
 simp
 have hm0' : (H4.push (.map [] 0)).Closed := closed_push (o := .map [] 0) c4 (show ∀ e ∈ [], _ from fun e he => by cases he)
 have hm0 : ((H4.push (.map [] 0)).push (.map [] 0)).Closed := closed_push (o := .map [] 0) hm0' (show ∀ e ∈ [], _ from fun e he => by cases he)
 have km : ∀ u ob, H4.m u = some ob → ((H4.push (.map [] 0)).push (.map [] 0)).m u = some ob := fun u ob e => keep_push hm0' _ u ob (keep_push c4 _ u ob e)
 have nn : ((H4.push (.map [] 0)).push (.map [] 0)).n = H4.n + 2 := rfl
 have m1 : ((H4.push (.map [] 0)).push (.map [] 0)).m H4.n = some (.map (hitF 0 []) 0) := by
  rw [push_m, if_neg (by show H4.n ≠ H4.n + 1; omega), push_m, if_pos rfl]; rfl
 have m2 : ((H4.push (.map [] 0)).push (.map [] 0)).m (H4.n + 1) = some (.map (manI (fun _ => 0) 0 []) 0) := by
  rw [push_m, if_pos (show H4.n + 1 = (H4.push _).n from rfl)]; rfl
 generalize (H4.push (.map [] 0)).push (.map [] 0) = H5 at *
 have g5 : ArX A H4 H5 := ⟨by omega, hm0, fun u ob e _ _ _ _ => km u ob e⟩
 have gg5 : Gr H4 H5 := ⟨by omega, hm0, km⟩
 refine awp_loop_of (α := MnS) (fun z => z.i ≤ L.length ∧ Turn A 2 V4 z.V z.X z.c ∧ DevK z.H A.d A.x A.y A.z z.V ∧ z.H.m H4.n = some (.map (hitF 0 z.X) z.X.length) ∧ ManK z.H (H4.n + 1) z.c z.K ∧ ArX A H4 z.H ∧ H4.n + 2 ≤ z.H.n) (fun z => [(1, .string (bs img)), (3, .pointer (some ⟨h.n, 0, none⟩)), (7, .pointer (some ⟨A.a, 0, none⟩)), (8, .pointer (some ⟨A.d, 0, none⟩)), (9, .map (some H4.n)), (10, .map (some (H4.n + 1))), (64, .slice al L.length cl), (65, .int .i64 (L.length : Int)), (66, .int .i64 (z.i : Int))]) (fun z => z.H) (fun z => L.length - z.i) ⟨0, [], fun _ => 0, [], V4, H5⟩
  ⟨Nat.zero_le _, Turn.zero K4.du, (K4.keep gg5).dv, m1, ⟨List.nodup_nil, m2, fun _ _ => rfl⟩, g5, by show H4.n + 2 ≤ H5.n; omega⟩ ⟨by show h.n ≤ H5.n; omega, Nat.le_refl _, fun _ _ e => e, hm0⟩ (by simp; exact ⟨.string, .ptr (by show h.n < _; omega), .ptr (by show A.a < _; omega), .ptr (by show A.d < _; omega), .map (by show H4.n < _; omega), .map (by show H4.n + 1 < _; omega), bl.mono (by omega), .int, .int⟩) ?_
 ·rintro ⟨i, X, c, K, V, H⟩ ⟨hi, t, dk, hm, mk, gH, nH⟩
  dsimp only at hi t dk hm mk gH nH ⊢
  by_cases hlt : i < L.length
  ·have hi' : (i : Int) < (L.length : Int) := by omega
   have w4 : IntKind.i64.wrap ((i : Int) + 1) = ((i + 1 : Nat) : Int) := by rw [IntWalk.i64_in _ (by omega)]; omega
   obtain ⟨rb, ro, rcap, rc, rm, re, hv0, hrc, hcut⟩ := (sx gH).at' hlt
   obtain ⟨rfl, _, rfl⟩ := Value.slice.inj hv0
   obtain ⟨⟨xa, xb⟩, hxL⟩ : ∃ x, L[i] = x := ⟨_, rfl⟩
   have wfx : -9223372036854775808 ≤ xa ∧ xa < 9223372036854775808 := wf (xa, xb) (by rw [← hxL]; exact List.getElem_mem hlt)
   obtain ⟨n, hwn, hn0, hn1⟩ := q64 xa wfx
   rw [hxL] at hcut
   have hcut' : acut rc (ro + i * 2) 2 = some [.int .i64 xa, .int .u8 (xb.toNat : Int)] := hcut
   have c6 : (H.push (.cells [.int .i64 xa, .int .u8 (xb.toNat : Int)] .ex 1)).Closed := closed_push gH.cl (fun y hy => by simp at hy; rcases hy with rfl | rfl <;> exact .int)
   have f6 := cellsOf_new H [.int .i64 xa, .int .u8 (xb.toNat : Int)] .ex 1
   have f60 := cellsOf_new H [.int .i64 0, .int .u8 0] .ex 1
   have hp6 : aput [.int .i64 0, .int .u8 0] 0 [.int .i64 xa, .int .u8 (xb.toNat : Int)] = [.int .i64 xa, .int .u8 (xb.toNat : Int)] := rfl
   have hm6 : mcells (.agg #[.int .i64 xa, .int .u8 (xb.toNat : Int)]) = some [.int .i64 xa, .int .u8 (xb.toNat : Int)] := rfl
   have g6 : Gr H (H.push (.cells [.int .i64 xa, .int .u8 (xb.toNat : Int)] .ex 1)) := ⟨Nat.le_succ _, c6, keep_push gH.cl _⟩
   have hfH := fx gH
   have hf6 := cellsOf_keep g6.m hfH
   have n6 : (H.push (.cells [.int .i64 xa, .int .u8 (xb.toNat : Int)] .ex 1)).n = H.n + 1 := rfl
   simp [c5_0, hi', aidx_of hlt, hrc, hcut', f60, hp6, hm6, set_push, hf6, f6, apart, gvc, gva, hwn, -Int.natCast_add]
   generalize H.push (.cells [.int .i64 xa, .int .u8 (xb.toNat : Int)] .ex 1) = H6 at *
   have gx6 : ArX A H4 H6 := Xd.trans gH (Xd.of g6)
   have dk6 : DevK H6 A.d A.x A.y A.z V := dk.keepM fun u ob e _ => g6.m u ob e
   have hh6 := g6.m _ _ hm
   have mk6 : ManK H6 (H4.n + 1) c K := ⟨mk.nd, g6.m _ _ mk.at', mk.off⟩
   have sub6 : Heap.Sub h.n H6 H6 := ⟨by omega, Nat.le_refl _, fun _ _ e => e, c6⟩
   have bl6 : VBelow H6.n (.slice (some ⟨rb, ro, none⟩) L.length cl) := bl.mono (by omega)
   have b1 : VBelow H6.n (.pointer (some ⟨h.n, 0, none⟩)) := .ptr (by show h.n < _; omega)
   have b2 : VBelow H6.n (.pointer (some ⟨A.a, 0, none⟩)) := .ptr (by show A.a < _; omega)
   have b3 : VBelow H6.n (.pointer (some ⟨A.d, 0, none⟩)) := .ptr (by show A.d < _; omega)
   have b4 : VBelow H6.n (.map (some H4.n)) := .map (by show H4.n < _; omega)
   have b5 : VBelow H6.n (.map (some (H4.n + 1))) := .map (by show H4.n + 1 < _; omega)
   have sk : i + 1 ≤ L.length ∧ Turn A 2 V4 V X c ∧ DevK H6 A.d A.x A.y A.z V ∧ H6.m H4.n = some (.map (hitF 0 X) X.length) ∧ ManK H6 (H4.n + 1) c K ∧ ArX A H4 H6 ∧ H4.n + 2 ≤ H6.n := ⟨by omega, t, dk6, hh6, mk6, gx6, by omega⟩
   refine (of_ok D P S n H6).mono ?_
   rintro _ h9 ⟨rfl, e⟩
   rw [e]; clear e h9
   by_cases hin : 0 ≤ n ∧ n ≤ 3 * slot D P S - 1
   case neg =>
    have e1 : ofR D P S n = .tuple #[.int .i64 0, .int .i64 0, .int .i64 0, .bool false] := by unfold ofR; rw [if_neg (fun q => hin q.2)]
    simp [e1, aun, w4, -Int.natCast_add]
    exact ⟨⟨i + 1, X, c, K, V, H6⟩, by show L.length - (i + 1) < L.length - i; omega, sk, sub6, .string, b1, b2, b3, b4, b5, bl6, .int, rfl, .int⟩
   obtain ⟨a0, ha0⟩ : ∃ a0, n / slot D P S = a0 := ⟨_, rfl⟩
   obtain ⟨k0, hk0⟩ : ∃ k0, n % slot D P S % S = k0 := ⟨_, rfl⟩
   obtain ⟨i0, hi0⟩ : ∃ i0, n % slot D P S / S = i0 := ⟨_, rfl⟩
   have e1 : ofR D P S n = .tuple #[.int .i64 a0, .int .i64 k0, .int .i64 i0, .bool true] := by unfold ofR; rw [if_pos ⟨hr, hin⟩, ha0, hk0, hi0]
   by_cases h2 : a0 = 2
   case neg =>
    simp [e1, aun, h2, w4, -Int.natCast_add]
    exact ⟨⟨i + 1, X, c, K, V, H6⟩, by show L.length - (i + 1) < L.length - i; omega, sk, sub6, .string, b1, b2, b3, b4, b5, bl6, .int, rfl, .int⟩
   subst h2
   have hsl6 : 3 ≤ slot (D : Int) P S := by omega
   have hn2 : 6 ≤ n := by
    have := Int.mul_ediv_add_emod n (slot (D : Int) P S)
    rw [ha0] at this
    have := Int.emod_nonneg n (show slot (D : Int) P S ≠ 0 by omega)
    omega
   have hxa : ¬ xa < 0 := fun q => by have := hn1 q; omega
   obtain ⟨p, rfl⟩ : ∃ p : Nat, xa = p := ⟨xa.toNat, by omega⟩
   have hnp : n = ((p / 64 : Nat) : Int) := by rw [hn0 (by omega)]; omega
   have hwp : IntKind.i64.wrap ((p : Int) / 64) = n := by rw [IntWalk.i64_in _ (by omega), hn0 (by omega)]
   by_cases hb0 : xb = 0
   ·have hb1 : xb.toNat = 0 := by rw [hb0]; rfl
    simp [e1, aun, f6, apart, hb0, w4, hxa, -Int.natCast_add]
    exact ⟨⟨i + 1, X, c, K, V, H6⟩, by show L.length - (i + 1) < L.length - i; omega, sk, sub6, .string, b1, b2, b3, b4, b5, bl6, .int, rfl, .int⟩
   have hb1 : ¬ xb.toNat = 0 := fun q => hb0 (UInt8.toNat_inj.1 q)
   by_cases hX : n ∈ X
   ·obtain ⟨j, e, q1, q2, q3⟩ := find_hit (i := 0) (k := 0) hX
    rw [Nat.zero_add] at q1
    simp [e1, aun, f6, apart, hb0, hb1, w4, hxa, hwn, hwp, hh6, okI, q1, q2, q3, -Int.natCast_add]
    exact ⟨⟨i + 1, X, c, K, V, H6⟩, by show L.length - (i + 1) < L.length - i; omega, sk, sub6, .string, b1, b2, b3, b4, b5, bl6, .int, rfl, .int⟩
   have q1 := find_nohit (i := 0) (k := 0) hX
   by_cases hck : c k0 = P
   ·rcases manI_get mk6 k0 with ⟨j, r1, r2, r3⟩ | ⟨_, r2, _⟩
    ·simp [e1, aun, f6, apart, hb0, hb1, w4, hxa, hwn, hwp, hh6, okI, q1, mk6.at', r1, r2, hck, hf6, -Int.natCast_add]
     exact ⟨⟨i + 1, X, c, K, V, H6⟩, by show L.length - (i + 1) < L.length - i; omega, sk, sub6, .string, b1, b2, b3, b4, b5, bl6, .int, rfl, .int⟩
    ·omega
   have hrs := Int.mul_ediv_add_emod n (slot (D : Int) P S)
   rw [ha0] at hrs
   have hr0 := Int.emod_nonneg n (show slot (D : Int) P S ≠ 0 by omega)
   have hr1 := Int.emod_lt_of_pos n (show 0 < slot (D : Int) P S by omega)
   have hk1 := Int.emod_nonneg (n % slot (D : Int) P S) (show (S : Int) ≠ 0 by omega)
   have hk2 := Int.emod_lt_of_pos (n % slot (D : Int) P S) (show 0 < (S : Int) by omega)
   have hi1 := Int.ediv_nonneg hr0 (show 0 ≤ (S : Int) by omega)
   have hi2 : n % slot (D : Int) P S / S < (D : Int) + P := Int.ediv_lt_of_lt_mul (by omega) (by rw [← slR.1]; exact hr1)
   have hri := Int.mul_ediv_add_emod (n % slot (D : Int) P S) S
   rw [hk0] at hk1 hk2 hri
   rw [hi0] at hi1 hi2 hri
   obtain ⟨kn, rfl⟩ : ∃ kn : Nat, k0 = kn := ⟨k0.toNat, by omega⟩
   obtain ⟨jn, rfl⟩ : ∃ jn : Nat, i0 = jn := ⟨i0.toNat, by omega⟩
   have hsec : p / 64 = secN A.D A.P A.S 2 kn jn := by
    have e0 : ((p / 64 : Nat) : Int) = ((secN A.D A.P A.S 2 kn jn : Nat) : Int) := by
     rw [← hnp]
     unfold secN
     rw [hD, hP, hS]
     push_cast
     rw [← slR.1, ← hrs, ← hri, Int.mul_comm (jn : Int) S]
     omega
    omega
   have hkS : kn < A.S := by rw [hS]; omega
   have hjW : jn < A.D + A.P := by rw [hD, hP]; omega
   have hlim := t.lim kn hkS
   have hcP : c (kn : Int) < A.P := by rw [hP] at hlim ⊢; omega
   have hfit := secN_fit K4 (a := 2) (by omega) hkS hjW
   have hp4 : p < V4.data.length := by rw [K4.du.dl]; omega
   have hpV : p < V.data.length := by rw [t.u.dl, t.lk]; omega
   have hX' : ((p / 64 : Nat) : Int) ∉ X := by rw [← hnp]; exact hX
   have tt := t.succ K4.du hb0 hkS hjW hsec hp4 hX' hcP
   rw [← hnp] at tt
   have hX1 := hitF_app X 0 n
   rw [Nat.zero_add] at hX1
   have hX2 := hX1.symm
   have hs1 : ∀ ob, (H6.set H4.n ob).cellsOf H.n = some ([.int .i64 (p : Int), .int .u8 (xb.toNat : Int)], .ex, 1) := fun ob => by unfold Heap.cellsOf at f6 ⊢; rw [set_m, if_neg (by omega)]; exact f6
   have hs2 : ∀ ob ob2, ((H6.set H4.n ob).set (H4.n + 1) ob2).cellsOf H.n = some ([.int .i64 (p : Int), .int .u8 (xb.toNat : Int)], .ex, 1) := fun ob ob2 => by have := hs1 ob; unfold Heap.cellsOf at this ⊢; rw [set_m, if_neg (by omega)]; exact this
   have hm1 : ∀ ob, (H6.set H4.n ob).m (H4.n + 1) = some (.map (manI c 0 K) K.length) := fun ob => by rw [set_m, if_neg (by omega)]; exact mk6.at'
   have hcw : IntKind.i64.wrap ((c (kn : Int) : Int) + 1) = ((c (kn : Int) + 1 : Nat) : Int) := by rw [IntWalk.i64_in _ (by omega)]; omega
   have hbk : bump c kn kn = c kn + 1 := by unfold bump; rw [if_pos rfl]
   have hbr : ∀ r, r ≠ (kn : Int) → bump c kn r = c r := fun r q => by unfold bump; rw [if_neg q]
   have hcI : ¬ ((c (kn : Int) : Int) = (P : Int)) := by omega
   rcases manI_get mk6 kn with ⟨j, r1, r2, r3⟩ | ⟨r1, r2, r3⟩
   ·have hset := manI_set (c := c) (c' := bump c kn) (k := 0) mk6.nd r3 hbr
    rw [hbk, Nat.zero_add] at hset
    have hH8 : ∃ H8, (H6.set H4.n (.map (hitF 0 (X ++ [n])) (X.length + 1))).set (H4.n + 1) (.map (manI (bump c kn) 0 K) K.length) = H8 := ⟨_, rfl⟩
    obtain ⟨H8, hH8⟩ := hH8
    have c8 : H8.Closed := by
     rw [← hH8]
     exact closed_set (closed_set c6 (by omega) (show ∀ e ∈ hitF 0 (X ++ [n]), _ from hitF_bel)) (by show H4.n + 1 < H6.n; omega) (show ∀ e ∈ manI (bump c kn) 0 K, _ from manI_bel)
    have k8 : ∀ u ob, H6.m u = some ob → u ≠ H4.n → u ≠ H4.n + 1 → H8.m u = some ob := fun u ob e q3 q4 => by rw [← hH8, set_m, if_neg q4, set_m, if_neg q3]; exact e
    have n8 : H8.n = H6.n := by rw [← hH8]; rfl
    have gx8 : ArX A H4 H8 := ⟨by omega, c8, fun u ob e y1 y2 y3 y4 => k8 u ob (gx6.m u ob e y1 y2 y3 y4) (by have := (c4 u ob e).1; omega) (by have := (c4 u ob e).1; omega)⟩
    have hh8 : H8.m H4.n = some (.map (hitF 0 (X ++ [n])) (X ++ [n]).length) := by rw [← hH8, set_m, if_neg (by omega), set_m, if_pos rfl, List.length_append]; rfl
    have mk8 : ManK H8 (H4.n + 1) (bump c kn) (K) := ⟨mk6.nd, by rw [← hH8, set_m, if_pos rfl], fun r q => by rw [hbr r (fun e => q (by rw [e]; exact List.mem_of_getElem? r3))]; exact mk6.off r q⟩
    have dk8 : DevK H8 A.d A.x A.y A.z V := dk6.keepM fun u ob e hu => k8 u ob e (by omega) (by omega)
    have fil : afill [.int .u8 0] [(0, 1, .int .u8 (xb.toNat : Int))] = some [.int .u8 (xb.toNat : Int)] := rfl
    simp [e1, aun, f6, apart, hb0, hb1, w4, hxa, hwn, hwp, hh6, okI, q1, mk6.at', r1, r2, hck, hcI, hf6, hX2, hs1, hs2, hm1, fil, hcw, hset, -Int.natCast_add]
    rw [hH8]
    have c9 : (H8.push (.cells [.int .u8 (xb.toNat : Int)] .ex 1)).Closed := closed_push c8 (fun y hy => by simp at hy; subst hy; exact .int)
    have g9 : Gr H8 (H8.push (.cells [.int .u8 (xb.toNat : Int)] .ex 1)) := ⟨Nat.le_succ _, c9, keep_push c8 _⟩
    have f9 := cellsOf_new H8 [.int .u8 (xb.toNat : Int)] .ex 1
    have dk9 : DevK (H8.push (.cells [.int .u8 (xb.toNat : Int)] .ex 1)) A.d A.x A.y A.z V := dk8.keepM fun u ob e _ => g9.m u ob e
    have e8 : H6.n = H8.n := n8.symm
    first | rw [e8] | skip
    generalize H8.push (.cells [.int .u8 (xb.toNat : Int)] .ex 1) = H9 at *
    refine (rot_ok A.d A.x A.y A.z V t.u p xb hpV H8.n .ex 1 H9 dk9 f9).mono' ?_
    rintro _ H10 c10 _ ⟨rfl, dk10, g10⟩
    have n9 := g9.n
    have n10 := g10.n
    have gxE : ArX A H4 H10 := Xd.trans gx8 (Xd.trans (Xd.of g9) g10)
    have hhE : H10.m H4.n = some (.map (hitF 0 (X ++ [n])) (X ++ [n]).length) := g10.m _ _ (g9.m _ _ hh8) (by omega) (by omega) (by omega) (by omega)
    have mkE : ManK H10 (H4.n + 1) (bump c kn) (K) := ⟨mk8.nd, g10.m _ _ (g9.m _ _ mk8.at') (by omega) (by omega) (by omega) (by omega), mk8.off⟩
    simp [w4, -Int.natCast_add]
    exact ⟨⟨i + 1, X ++ [n], bump c kn, K, V.rot p xb, H10⟩, by show L.length - (i + 1) < L.length - i; omega, ⟨by show i + 1 ≤ L.length; omega, tt, dk10, hhE, mkE, gxE, by show H4.n + 2 ≤ H10.n; omega⟩, ⟨by show h.n ≤ H10.n; omega, Nat.le_refl _, fun _ _ e => e, c10⟩, .string, b1.mono (by show H6.n ≤ H10.n; omega), b2.mono (by show H6.n ≤ H10.n; omega), b3.mono (by show H6.n ≤ H10.n; omega), b4.mono (by show H6.n ≤ H10.n; omega), b5.mono (by show H6.n ≤ H10.n; omega), bl6.mono (by show H6.n ≤ H10.n; omega), .int, rfl, .int⟩
   ·have happ := manI_app c K 0 kn
    have hcong := manI_cong (c := c) (c' := bump c kn) (K := K) (k := 0) fun q hq => (hbr q (fun e => r3 (e ▸ hq))).symm
    have happ2 : manI c 0 K ++ [⟨.int .i64 kn, .int .i64 1, K.length⟩] = manI (bump c kn) 0 (K ++ [(kn : Int)]) := by
     rw [manI_app, hbk, r2, ← hcong]; simp
    have hw1 : IntKind.i64.wrap 1 = 1 := by decide
    have hP0 : ¬ ((0 : Int) = (P : Int)) := by omega
    have hP1 : ¬ (0 = P) := by omega
    have hP2 : ¬ (P = 0) := by omega
    have hH8 : ∃ H8, (H6.set H4.n (.map (hitF 0 (X ++ [n])) (X.length + 1))).set (H4.n + 1) (.map (manI (bump c kn) 0 (K ++ [(kn : Int)])) (K.length + 1)) = H8 := ⟨_, rfl⟩
    obtain ⟨H8, hH8⟩ := hH8
    have c8 : H8.Closed := by
     rw [← hH8]
     exact closed_set (closed_set c6 (by omega) (show ∀ e ∈ hitF 0 (X ++ [n]), _ from hitF_bel)) (by show H4.n + 1 < H6.n; omega) (show ∀ e ∈ manI (bump c kn) 0 (K ++ [(kn : Int)]), _ from manI_bel)
    have k8 : ∀ u ob, H6.m u = some ob → u ≠ H4.n → u ≠ H4.n + 1 → H8.m u = some ob := fun u ob e q3 q4 => by rw [← hH8, set_m, if_neg q4, set_m, if_neg q3]; exact e
    have n8 : H8.n = H6.n := by rw [← hH8]; rfl
    have gx8 : ArX A H4 H8 := ⟨by omega, c8, fun u ob e y1 y2 y3 y4 => k8 u ob (gx6.m u ob e y1 y2 y3 y4) (by have := (c4 u ob e).1; omega) (by have := (c4 u ob e).1; omega)⟩
    have hh8 : H8.m H4.n = some (.map (hitF 0 (X ++ [n])) (X ++ [n]).length) := by rw [← hH8, set_m, if_neg (by omega), set_m, if_pos rfl, List.length_append]; rfl
    have mk8 : ManK H8 (H4.n + 1) (bump c kn) (K ++ [(kn : Int)]) := ⟨List.nodup_append.2 ⟨mk6.nd, by simp, fun x hx y hy => by simp at hy; rw [hy]; exact fun e => r3 (e ▸ hx)⟩, by rw [← hH8, set_m, if_pos rfl]; simp, fun r q => by rw [hbr r (fun e => q (by rw [e]; simp))]; exact mk6.off r (fun e => q (by simp [e]))⟩
    have dk8 : DevK H8 A.d A.x A.y A.z V := dk6.keepM fun u ob e hu => k8 u ob e (by omega) (by omega)
    have fil : afill [.int .u8 0] [(0, 1, .int .u8 (xb.toNat : Int))] = some [.int .u8 (xb.toNat : Int)] := rfl
    simp [e1, aun, f6, apart, hb0, hb1, w4, hxa, hwn, hwp, hh6, okI, q1, mk6.at', r1, r2, hck, hcI, hf6, hX2, hs1, hs2, hm1, fil, hw1, happ2, hP0, hP1, hP2, -Int.natCast_add]
    rw [hH8]
    have c9 : (H8.push (.cells [.int .u8 (xb.toNat : Int)] .ex 1)).Closed := closed_push c8 (fun y hy => by simp at hy; subst hy; exact .int)
    have g9 : Gr H8 (H8.push (.cells [.int .u8 (xb.toNat : Int)] .ex 1)) := ⟨Nat.le_succ _, c9, keep_push c8 _⟩
    have f9 := cellsOf_new H8 [.int .u8 (xb.toNat : Int)] .ex 1
    have dk9 : DevK (H8.push (.cells [.int .u8 (xb.toNat : Int)] .ex 1)) A.d A.x A.y A.z V := dk8.keepM fun u ob e _ => g9.m u ob e
    have e8 : H6.n = H8.n := n8.symm
    first | rw [e8] | skip
    generalize H8.push (.cells [.int .u8 (xb.toNat : Int)] .ex 1) = H9 at *
    refine (rot_ok A.d A.x A.y A.z V t.u p xb hpV H8.n .ex 1 H9 dk9 f9).mono' ?_
    rintro _ H10 c10 _ ⟨rfl, dk10, g10⟩
    have n9 := g9.n
    have n10 := g10.n
    have gxE : ArX A H4 H10 := Xd.trans gx8 (Xd.trans (Xd.of g9) g10)
    have hhE : H10.m H4.n = some (.map (hitF 0 (X ++ [n])) (X ++ [n]).length) := g10.m _ _ (g9.m _ _ hh8) (by omega) (by omega) (by omega) (by omega)
    have mkE : ManK H10 (H4.n + 1) (bump c kn) (K ++ [(kn : Int)]) := ⟨mk8.nd, g10.m _ _ (g9.m _ _ mk8.at') (by omega) (by omega) (by omega) (by omega), mk8.off⟩
    simp [w4, -Int.natCast_add]
    exact ⟨⟨i + 1, X ++ [n], bump c kn, K ++ [(kn : Int)], V.rot p xb, H10⟩, by show L.length - (i + 1) < L.length - i; omega, ⟨by show i + 1 ≤ L.length; omega, tt, dk10, hhE, mkE, gxE, by show H4.n + 2 ≤ H10.n; omega⟩, ⟨by show h.n ≤ H10.n; omega, Nat.le_refl _, fun _ _ e => e, c10⟩, .string, b1.mono (by show H6.n ≤ H10.n; omega), b2.mono (by show H6.n ≤ H10.n; omega), b3.mono (by show H6.n ≤ H10.n; omega), b4.mono (by show H6.n ≤ H10.n; omega), b5.mono (by show H6.n ≤ H10.n; omega), bl6.mono (by show H6.n ≤ H10.n; omega), .int, rfl, .int⟩
  ·have hie : i = L.length := by omega
   subst hie
   simp [c5_0]
   have KH : ArK H A V := K4.keepX gH dk t.u (by rw [t.lk])
   refine (load_turned A V4 V 2 (by omega) xB hx32 img hE hsB full X c t H KH).mono' ?_
   rintro _ H6 c6 _ ⟨rfl, q, K6, g6⟩
   have hlen : (hc xB).length = 36 := by simp [hc, ubs_len, hx32]
   have hz36 : z36.length = 36 := by rw [z36_eq]; simp [hc, ubs_len, zH, z32]
   have hpx : aput z36 0 (hc xB) = hc xB := by
    unfold aput
    rw [hlen, List.drop_eq_nil_of_le (by rw [hz36]; omega)]
    simp
   have fz := cellsOf_new H6 z36 .ex 1
   have c7 : (H6.push (.cells (hc xB) .ex 1)).Closed := closed_push c6 hc_bel
   have g7 : Gr H6 (H6.push (.cells (hc xB) .ex 1)) := ⟨Nat.le_succ _, c7, keep_push c6 _⟩
   have n6 := g6.n
   have n7 : (H6.push (.cells (hc xB) .ex 1)).n = H6.n + 1 := rfl
   have hh7 : (H6.push (.cells (hc xB) .ex 1)).m H4.n = some (.map (hitF 0 X) X.length) := g7.m _ _ (g6.m _ _ hm (by omega) (by omega) (by omega) (by omega))
   have mk7 : ManK (H6.push (.cells (hc xB) .ex 1)) (H4.n + 1) c K := ⟨mk.nd, g7.m _ _ (g6.m _ _ mk.at' (by omega) (by omega) (by omega) (by omega)), mk.off⟩
   have gx7 : ArX A H4 (H6.push (.cells (hc xB) .ex 1)) := Xd.trans gH (Xd.trans g6 (Xd.of g7))
   have dk7 : DevK (H6.push (.cells (hc xB) .ex 1)) A.d A.x A.y A.z (V.wop q) := K6.dv.keepM fun u ob e _ => g7.m u ob e
   simp [fz, m_hv, m_hc, hlen, hz36, hpx, set_push, hh7, hitF_len]
   generalize H6.push (.cells (hc xB) .ex 1) = H7 at *
   refine awp_loop_of (α := MsS) (fun z => z.k ≤ S ∧ Half A 2 V z.V xB img z.k ∧ DevK z.H A.d A.x A.y A.z z.V ∧ ManK z.H (H4.n + 1) c K ∧ ArX A H4 z.H) (fun z => [(1, .string (bs img)), (3, .pointer (some ⟨h.n, 0, none⟩)), (7, .pointer (some ⟨A.a, 0, none⟩)), (10, .map (some (H4.n + 1))), (21, .int .i64 (z.k : Int))]) (fun z => z.H) (fun z => S - z.k) ⟨0, V.wop q, H7⟩
    ⟨Nat.zero_le _, ⟨t.u.wop q, rfl, fun j hj => by (show _; exact absurd hj (Nat.not_lt_zero j)), fun _ _ _ => rfl⟩, dk7, mk7, gx7⟩ ⟨by show h.n ≤ H7.n; omega, Nat.le_refl _, fun _ _ e => e, c7⟩ (by simp; exact ⟨.string, .ptr (by show h.n < _; omega), .ptr (by show A.a < _; omega), .map (by show H4.n + 1 < _; omega), .int⟩) ?_
   rintro ⟨k, V2, H8⟩ ⟨hk, hf, dk8, mk8, gx8⟩
   dsimp only at hk hf dk8 mk8 gx8 ⊢
   have f8 := fx gx8
   have n8 := gx8.n
   have K8 : ArK H8 A V2 := K4.keepX gx8 dk8 hf.u (by rw [hf.lk, t.lk])
   have mn8 : H4.n + 1 < H8.n := (gx8.cl _ _ mk8.at').1
   by_cases hkl : k < S
   ·have hkl' : (k : Int) < (S : Int) := by omega
    have hkA : k < A.S := by omega
    have w5 : IntKind.i64.wrap ((k : Int) + 1) = ((k + 1 : Nat) : Int) := by rw [IntWalk.i64_in _ (by omega)]; omega
    have hse := hf.hi k (Nat.le_refl _) hkA
    obtain ⟨wr1, wr2, wr3⟩ := t.wr (k := k) (blkF A xB img k) (Bk.len k hkA).1 (Bk.len k hkA).2 (full k hkA) (fun i hi => secN_fit K4 (by omega) hkA hi)
    rw [← hse] at wr1 wr2 wr3
    have hEl : (plsF A 2 X k).length = c k := t.cnt k hkA
    have hEP : (plsF A 2 X k).length ≤ A.P := by rw [hEl]; exact t.lim k hkA
    simp [c5_2, f8, apart, hkl', -Int.natCast_add]
    refine (aread_blk A V2 2 k (by omega) hkA xB img Bk (plsF A 2 X k) hEP wr1 wr2 wr3 H8 K8).mono' ?_
    rintro _ H9 c9 _ ⟨va, vw, nm, nn, rfl, la, lw, na, nw, nx, q2, K9, g9⟩
    obtain ⟨aw, rfl⟩ := LAt.form lw
    obtain ⟨av, rfl⟩ := LAt.form la
    have n9 := g9.n
    have bva := lat_bel c9 la
    have bvw := lat_bel c9 lw
    obtain ⟨E, hE2⟩ : ∃ E, plsF A 2 X k = E := ⟨_, rfl⟩
    rw [hE2] at lw hEl hEP bvw ⊢
    obtain ⟨el, hel⟩ : ∃ el, E.length = el := ⟨_, rfl⟩
    rw [hel] at lw hEl hEP bvw ⊢
    have hlw : LAt H9 1 nn (.slice aw el el) E.length (E.map ei) := by rw [hel]; exact lw
    have fil2 : ∀ u v : Value, aput [.slice none 0 0, .slice none 0 0] 0 [u, v] = [u, v] := fun _ _ => rfl
    have hm2 : ∀ u v : Value, mcells (.agg #[u, v]) = some [u, v] := fun _ _ => rfl
    have hac2 : ∀ u v : Value, acut [u, v] 0 2 = some [u, v] := fun _ _ => rfl
    have e90 := cellsOf_new H9 [.slice none 0 0, .slice none 0 0] .ex 1
    have e9 := cellsOf_new H9 [.slice av (A.D + A.P) (A.D + A.P), .slice aw el el] .ex 1
    have cA : (H9.push (.cells [.slice av (A.D + A.P) (A.D + A.P), .slice aw el el] .ex 1)).Closed := closed_push c9 (fun y hy => by
     simp at hy
     rcases hy with rfl | rfl
     ·exact bva.mono (Nat.le_succ _)
     ·exact bvw.mono (Nat.le_succ _))
    have gA : Gr H9 (H9.push (.cells [.slice av (A.D + A.P) (A.D + A.P), .slice aw el el] .ex 1)) := ⟨Nat.le_succ _, cA, keep_push c9 _⟩
    have nA : (H9.push (.cells [.slice av (A.D + A.P) (A.D + A.P), .slice aw el el] .ex 1)).n = H9.n + 1 := rfl
    have mkA : ManK (H9.push (.cells [.slice av (A.D + A.P) (A.D + A.P), .slice aw el el] .ex 1)) (H4.n + 1) c K := ⟨mk.nd, gA.m _ _ (g9.m _ _ mk8.at' (by omega) (by omega) (by omega) (by omega)), mk.off⟩
    have KA := K9.keep gA
    have go : ∀ z : Value, ACalls Tryz.prog 31 [.pointer (some ⟨A.a, 0, none⟩), .int .i64 ((2 : Nat) : Int), .int .i64 (k : Int), .agg #[.slice av (A.D + A.P) (A.D + A.P), .slice aw el el], .slice aw el el] (H9.push (.cells [.slice av (A.D + A.P) (A.D + A.P), .slice aw el el] .ex 1)) fun r h' => r = .int .i64 0 ∧ ∃ V', ArK h' A V' ∧ Rw A (V2.wop q2) V' 2 k ((blkF A xB img k).map crE) (E.map fun i : Nat => (i : Int)) ∧ ArX A (H9.push (.cells [.slice av (A.D + A.P) (A.D + A.P), .slice aw el el] .ex 1)) h' := fun _ =>
     rew_ok A (V2.wop q2) 2 k (by omega) hkA (blkF A xB img k) (Bk.len k hkA).1 (E.map fun i : Nat => (i : Int)) (by rw [List.length_map, hel]; omega) (fun w hw => by
      obtain ⟨i, hi, rfl⟩ := List.mem_map.1 hw
      rw [← hE2] at hi
      have := List.mem_range.1 (List.mem_filter.1 hi).1
      omega) _ _ _ _ (fun H' g' => lat_bls (Bk.len k hkA).1 (Bk.len k hkA).2 (la.up fun u e ob e2 => by
       have := na u e
       have := (c9 u ob e2).1
       exact g'.m u ob (gA.m u ob e2) (by omega) (by omega) (by omega) (by omega))) (bvw.mono (by omega)) (fun H' g' => lat_ints (hlw.up fun u e ob e2 => by
       have := nw u e
       have := (c9 u ob e2).1
       exact g'.m u ob (gA.m u ob e2) (by omega) (by omega) (by omega) (by omega))) KA (fun i hi => by
        show V2.lock[_]! = false
        rw [hf.lk, t.lk, w4.lk]
        exact free 2 k i (by omega) hkA hi)
    rcases manI_get mkA k with ⟨j, r1, r2, _⟩ | ⟨r1, r2, _⟩
    ·rw [← hEl] at r2
     simp [e90, fil2, hm2, set_push, e9, hac2, apart, mkA.at', okI, r1, r2, -Int.natCast_add]
     refine (go (.int .i64 0)).mono' ?_
     rintro _ HB cB _ ⟨rfl, V3, K10, rw3, gB⟩
     rw [← hE2] at rw3
     have hf2 : Half A 2 V (V2.wop q2) xB img k := ⟨hf.u.wop q2, hf.lk, hf.lo, hf.hi⟩
     have hf3 := hf2.succ (by omega) t full Bk KA hkA rw3 K10.du
     have mkB : ManK HB (H4.n + 1) c K := ⟨mk.nd, gB.m _ _ mkA.at' (by omega) (by omega) (by omega) (by omega), mk.off⟩
     have gxB : ArX A H4 HB := Xd.trans gx8 (Xd.trans g9 (Xd.trans (Xd.of gA) gB))
     have nB := gB.n
     simp [w5, -Int.natCast_add]
     exact ⟨⟨k + 1, V3, HB⟩, by show S - (k + 1) < S - k; omega, ⟨by show k + 1 ≤ S; omega, hf3, K10.dv, mkB, gxB⟩, ⟨by show h.n ≤ HB.n; omega, Nat.le_refl _, fun _ _ e => e, cB⟩, .string, .ptr (by show h.n < HB.n; omega), .ptr (by show A.a < HB.n; omega), .map (by show H4.n + 1 < HB.n; omega), rfl, .int⟩
    ·obtain rfl : el = 0 := by omega
     simp [e90, fil2, hm2, set_push, e9, hac2, apart, mkA.at', okI, r1, r2, -Int.natCast_add]
     refine (go (.int .i64 0)).mono' ?_
     rintro _ HB cB _ ⟨rfl, V3, K10, rw3, gB⟩
     rw [← hE2] at rw3
     have hf2 : Half A 2 V (V2.wop q2) xB img k := ⟨hf.u.wop q2, hf.lk, hf.lo, hf.hi⟩
     have hf3 := hf2.succ (by omega) t full Bk KA hkA rw3 K10.du
     have mkB : ManK HB (H4.n + 1) c K := ⟨mk.nd, gB.m _ _ mkA.at' (by omega) (by omega) (by omega) (by omega), mk.off⟩
     have gxB : ArX A H4 HB := Xd.trans gx8 (Xd.trans g9 (Xd.trans (Xd.of gA) gB))
     have nB := gB.n
     simp [w5, -Int.natCast_add]
     exact ⟨⟨k + 1, V3, HB⟩, by show S - (k + 1) < S - k; omega, ⟨by show k + 1 ≤ S; omega, hf3, K10.dv, mkB, gxB⟩, ⟨by show h.n ≤ HB.n; omega, Nat.le_refl _, fun _ _ e => e, cB⟩, .string, .ptr (by show h.n < HB.n; omega), .ptr (by show A.a < HB.n; omega), .map (by show H4.n + 1 < HB.n; omega), rfl, .int⟩
   ·have hke : k = S := by omega
    subst hke
    have full2 : Full A V2 2 xB img := fun j hj => hf.lo j (by omega) hj
    simp [c5_2, f8, apart]
    refine (load_full A V2 2 (by omega) xB hx32 img hE hsB full2 H8 K8).mono' ?_
    rintro _ H9 c9 _ ⟨rfl, q3, K9, g9⟩
    simp

theorem flatV_len {n : Nat} : ∀ {L : List (List Value)}, (∀ x ∈ L, x.length = n) → L.flatten.length = L.length * n
 | [], _ => by simp
 | x :: r, h => by rw [List.flatten_cons, List.length_append, flatV_len fun y hy => h y (by simp [hy]), h x (by simp), List.length_cons, Nat.add_mul, Nat.one_mul, Nat.add_comm]
section
open Go.RowKit Go.ChangeShapes Go.WideShapes
variable {H : Type} {P : Program} {W : World} {enc : TypeId × Value → H}
theorem given_rows {α : Type} {ea : α → List Value} {μ : Mu} {h : Heap} (g : Given W μ h) {t e : TypeId} {n : Nat} {v : Value} {d : DataW H} {ps : List MemPlace} (ht : P.underlying t = some (.slice e)) (hc : P.cellsOf e = n) (hn : 0 < n)
  (hval : Value.okWide P W .any 0 t v) (hd : DataW.Trod enc P W 0 (fun _ => true) true t v d ps)
  (plain : ∀ (a : α), ∀ v ∈ ea a, (∀ μ, VRel μ v v) ∧ v.oneCell' = true)
  (elem : ∀ fuel x cs, DataW.trod enc P W 0 (fun _ => true) true fuel e cs = some x → ∃ a : α, cs = ea a ∧ (ea a).length = n) :
  ∃ μ' h' va l, Given W μ' h' ∧ μ.Le μ' ∧ h.Le h' ∧ VRel μ' va v ∧ SlG ea n h' va l ∧ l.length ≤ maxLen ∧ ∀ a ∈ l, ∃ fuel D Pl, DataW.trod enc P W 0 (fun _ => true) true fuel e (ea a) = some (D, Pl) ∧ ∃ el sp, d = .slice el sp ∧ D ∈ el := by
 obtain ⟨a0, len0, cap0, rfl⟩ := okWide_slice ht hval
 obtain ⟨fuel, hf⟩ := hd
 rcases Go.Deep.open_slice ht hf with ⟨hcs, _⟩ | ⟨a, len, cap, m, nf, D, Pl, hcs, _, hle, hmx, hm, hxx, hget⟩
 ·simp only [Value.cells, List.cons.injEq, Value.slice.injEq, and_true] at hcs
  obtain ⟨rfl, rfl, rfl⟩ := hcs
  exact ⟨μ, h, _, [], g, .refl _, .refl _, .snil, .inl ⟨0, rfl, rfl⟩, Nat.zero_le _, fun a ha => by cases ha⟩
 ·simp only [Value.cells, List.cons.injEq, Value.slice.injEq, and_true] at hcs
  obtain ⟨rfl, rfl, rfl⟩ := hcs
  simp only [if_true] at hm
  subst hm
  have hw : W.has P .any 0 a e m := by
   unfold Value.okWide at hval
   rw [ht] at hval
   simp only [Cell.okWide, ht, Cell.ok] at hval
   exact hval.2.2
  obtain ⟨_, hsp, row, cells, hsh, _⟩ := hw
  obtain ⟨cc, ty, fz, hblk⟩ : ∃ cc ty fz, W.heap[a.block]? = some (.cells cc ty fz) := by
   unfold World.shape? at hsh
   split at hsh
   ·exact ⟨_, _, _, by assumption⟩
   ·cases hsh
  obtain ⟨ab, ao, asp⟩ := a
  dsimp only at hsp hblk
  subst hsp
  have hE : ∀ i, i < len0 → ∃ a : α, (ea a).length = n ∧ (∀ j (hj : j < (ea a).length), cc[ao + i * n + j]? = some (ea a)[j]) ∧ DataW.trod enc P W 0 (fun _ => true) true nf e (ea a) = some (D i, Pl i) := fun i hi => by
   obtain ⟨cs', h1, h2⟩ := hget i (by omega)
   obtain ⟨a, rfl, hl⟩ := elem _ _ _ h2
   obtain ⟨_, hlen, hcell⟩ := World.cells?_some h1
   refine ⟨a, hl, fun j hj => ?_, h2⟩
   have := hcell j (by rw [hc]; omega)
   rw [show ((⟨ab, ao, none⟩ : Addr).add (i * P.cellsOf e)).add j = ⟨ab, ao + i * P.cellsOf e + j, none⟩ by rw [Addr.add_lit, Addr.add_lit]] at this
   simpa [World.cell?, hblk, hc, hj] using this
  obtain ⟨L, hLl, hL⟩ : ∃ L : List α, L.length = len0 ∧ ∀ i (hi : i < L.length), (ea L[i]).length = n ∧ (∀ j (hj : j < (ea L[i]).length), cc[ao + i * n + j]? = some (ea L[i])[j]) ∧ DataW.trod enc P W 0 (fun _ => true) true nf e (ea L[i]) = some (D i, Pl i) := by
   clear hget hf hval hle hxx
   induction len0 with
   | zero => exact ⟨[], rfl, fun i hi => by simp at hi⟩
   | succ q ih =>
    obtain ⟨L, hl, hh⟩ := ih fun i hi => hE i (by omega)
    obtain ⟨is, ha⟩ := hE q (by omega)
    refine ⟨L ++ [is], by simp [hl], fun i hi => ?_⟩
    by_cases hik : i < L.length
    ·simp only [List.getElem_append_left hik]; exact hh i hik
    ·have : i = q := by simp at hi; omega
     subst this
     have e1 : (L ++ [is])[i] = is := by rw [List.getElem_append_right (by omega)]; simp [hl]
     rw [e1]
     exact ha
  subst hLl
  have hmem : ∀ a ∈ L, ∃ fuel D' Pl, DataW.trod enc P W 0 (fun _ => true) true fuel e (ea a) = some (D', Pl) ∧ ∃ el sp, d = .slice el sp ∧ D' ∈ el := fun a ha => by
   obtain ⟨i, hi, rfl⟩ := List.mem_iff_getElem.1 ha
   exact ⟨nf, D i, Pl i, (hL i hi).2.2, _, _, (Prod.mk.inj hxx).1, List.mem_map.2 ⟨i, List.mem_range.2 hi, rfl⟩⟩
  have hall : ∀ x ∈ L.map ea, x.length = n := fun x hx => by
   obtain ⟨a, ha, rfl⟩ := List.mem_map.1 hx
   obtain ⟨i, hi, rfl⟩ := List.mem_iff_getElem.1 ha
   exact (hL i hi).1
  have hmx' : L.length ≤ maxLen := by omega
  have hfl := flatV_len hall
  rw [List.length_map] at hfl
  have hfg : ∀ i (hi : i < L.length), ((L.map ea).flatten.drop (i * n)).take n = ea L[i] := fun i hi => by
   have := flat_get hall i (by rw [List.length_map]; exact hi)
   rw [this, List.getElem_map]
  have hcell : ∀ j (hj : j < (L.map ea).flatten.length), cc[ao + j]? = some (L.map ea).flatten[j] := fun j hj => by
   have hq : j / n < L.length := by rw [hfl] at hj; exact Nat.div_lt_of_lt_mul (by rw [Nat.mul_comm]; exact hj)
   have hr := Nat.mod_lt j hn
   have hdm := Nat.div_add_mod j n
   have := (hL (j / n) hq).2.1 (j % n) (by rw [(hL (j / n) hq).1]; exact hr)
   rw [show ao + j / n * n + j % n = ao + j by rw [Nat.mul_comm]; omega] at this
   rw [this]
   congr 1
   have hg := hfg (j / n) hq
   have e2 : (ea L[j / n])[j % n]'(by rw [(hL (j / n) hq).1]; exact hr) = (((L.map ea).flatten.drop (j / n * n)).take n)[j % n]'(by rw [hg, (hL (j / n) hq).1]; exact hr) := by
    congr 1
    exact hg.symm
   rw [e2, List.getElem_take, List.getElem_drop]
   congr 1
   rw [Nat.mul_comm]; omega
  by_cases hp : 0 < L.length
  ·have hp2 : 0 < (L.map ea).flatten.length := by rw [hfl]; exact Nat.mul_pos hp hn
   have hsz : ao + (L.map ea).flatten.length ≤ cc.size := by
    have := hcell ((L.map ea).flatten.length - 1) (by omega)
    have := (Array.getElem?_eq_some_iff.1 this).1
    omega
   have hr : ∀ i, i < (L.map ea).flatten.length → (∀ μ, VRel μ ((L.map ea).flatten.getD i unk) (cc.getD (ao + i) unk)) ∧ (cc.getD (ao + i) unk).oneCell' = true := fun i hi => by
    have e0 := hcell i hi
    have e1 : cc.getD (ao + i) unk = (L.map ea).flatten[i] := by simp only [Array.getD_eq_getD_getElem?, e0, Option.getD_some]
    have e2 : (L.map ea).flatten.getD i unk = (L.map ea).flatten[i] := by rw [List.getD, List.getElem?_eq_getElem hi]; rfl
    rw [e1, e2]
    obtain ⟨x, hx, hxm⟩ := List.mem_flatten.1 (List.getElem_mem hi)
    obtain ⟨a, _, rfl⟩ := List.mem_map.1 hx
    exact plain a _ hxm
   have gv := g.rel.given g.ro (cb := ab) (dl := ao) (c := (L.map ea).flatten) n hblk hsz hr
   have le := g.le_push ⟨ab, ao, (L.map ea).flatten.length, cc.size, n, false⟩ (.cells (L.map ea).flatten .ro n)
   refine ⟨_, _, .slice (some ⟨h.n, 0, none⟩) L.length m, L, ⟨gv.1, gv.2⟩, le.1, le.2, ?_, .inr ⟨h.n, 0, m, (L.map ea).flatten, .ro, n, rfl, by simp [Heap.cellsOf, push_m], by omega, fun _ => rfl, fun i hi => ?_⟩, hmx', hmem⟩
   ·exact VRel.slice (mi := ⟨ab, ao, (L.map ea).flatten.length, cc.size, n, false⟩) (Mu.ext_same _ _ _) (.inl rfl)
   ·unfold acut
    have hin : i * n + n ≤ L.length * n := by
     have : (i + 1) * n ≤ L.length * n := Nat.mul_le_mul_right n hi
     rw [Nat.add_mul] at this; omega
    rw [if_pos (by rw [hfl]; omega), Nat.zero_add, hfg i hi]
  ·have hl0 : L = [] := List.eq_nil_of_length_eq_zero (by omega)
   subst hl0
   have gv := g.rel.given g.ro (cb := ab) (dl := 0) (c := []) n hblk (by simp) (fun i hi => by simp at hi)
   have le := g.le_push ⟨ab, 0, 0, cc.size, n, false⟩ (.cells [] .ro n)
   refine ⟨_, _, .slice (some ⟨h.n, ao, none⟩) 0 m, [], ⟨gv.1, gv.2⟩, le.1, le.2, ?_, .inr ⟨h.n, ao, m, [], .ro, n, rfl, by simp [Heap.cellsOf, push_m], by simp, fun _ => rfl, fun i hi => by simp at hi⟩, hmx', hmem⟩
   have := VRel.slice (o := ao) (l := 0) (c := m) (c' := m) (mi := ⟨ab, 0, 0, cc.size, n, false⟩) (Mu.ext_same μ h.n _) (.inl rfl)
   simpa using this
theorem flatRot {H : Type} {W : World} {enc : TypeId × Value → H} : FlatK enc Tryz.prog W 33 [.i64, .u8] := by
 have i3 : FlatK enc Tryz.prog W 3 [.i64] := flatK_int Tryz.underlying3 (by kernel_rfl)
 have i5 : FlatK enc Tryz.prog W 5 [.u8] := flatK_int Tryz.underlying5 (by kernel_rfl)
 refine flatK_struct Tryz.underlying33 (by kernel_rfl) fun j hj => ?_
 match j, hj with
 | 0, _ => exact ⟨0, _, _, rfl, Nat.le_refl _, (by show 0 < 0 + 1; omega), i3, rfl⟩
 | 1, _ => exact ⟨1, _, _, rfl, Nat.le_refl _, (by show 1 < 1 + 1; omega), i5, rfl⟩
theorem rots_in {H : Type} {W : World} {enc : TypeId × Value → H} {μ : Mu} {h : Heap} (g : Given W μ h) {v : Value} {d : DataW H} {ps : List MemPlace}
  (hval : Value.okWide Tryz.prog W .any 0 24 v) (hd : DataW.Trod enc Tryz.prog W 0 (fun _ => true) true 24 v d ps) :
  ∃ μ' h' va l, Given W μ' h' ∧ μ.Le μ' ∧ h.Le h' ∧ VRel μ' va v ∧ SlG eR 2 h' va l ∧ ∀ x ∈ l, -9223372036854775808 ≤ x.1 ∧ x.1 < 9223372036854775808 := by
 have key : ∀ {fuel : Nat} {x : DataW H × List MemPlace} {cs : List Value}, DataW.trod enc Tryz.prog W 0 (fun _ => true) true fuel 33 cs = some x → ∃ a : Int × UInt8, cs = eR a ∧ -9223372036854775808 ≤ a.1 ∧ a.1 < 9223372036854775808 := fun {fuel x cs} hx => by
  obtain ⟨hl, hc⟩ := (flatRot (enc := enc) (W := W)).2 _ _ _ _ _ _ hx
  obtain ⟨n0, h0, w0⟩ := hc 0 (by decide)
  obtain ⟨n1, h1, w1⟩ := hc 1 (by decide)
  obtain ⟨c, hc2⟩ := u8_of (n := n1) w1
  match cs, hl with
  | [a, b], _ =>
   simp at h0 h1
   refine ⟨(n0, c), by rw [h0, h1, hc2], ?_⟩
   have : (Lit.int .i64 n0).wf = true := w0
   simp [Lit.wf, IntKind.min, IntKind.max, IntKind.signed, IntKind.bits] at this
   show -9223372036854775808 ≤ n0 ∧ n0 < 9223372036854775808
   exact ⟨by omega, by omega⟩
 obtain ⟨μ', h', va, l, q1, q2, q3, q4, q5, _, q7⟩ := given_rows (ea := eR) (n := 2) g Tryz.underlying24 (by kernel_rfl) (by omega) hval hd (fun a v hv => by
   simp at hv
   rcases hv with rfl | rfl
   ·exact ⟨fun _ => .int, rfl⟩
   ·exact ⟨fun _ => .int, rfl⟩) fun fuel x cs hx => by
   obtain ⟨a, ha, _⟩ := key hx
   exact ⟨a, ha, rfl⟩
 refine ⟨μ', h', va, l, q1, q2, q3, q4, q5, fun x hx => ?_⟩
 obtain ⟨fuel, D, Pl, ht, _⟩ := q7 x hx
 obtain ⟨a, ha, hw⟩ := key ht
 have : x.1 = a.1 := by
  simp at ha
  exact ha.1
 rw [this]; exact hw
end

end Go.Proofs.YtdnmkenamgfjoaaGreat.arbl

