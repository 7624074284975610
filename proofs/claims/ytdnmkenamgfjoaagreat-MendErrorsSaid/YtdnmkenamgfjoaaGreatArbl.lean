/-
 Contracts.
-/
import Derived.Test.YtdnmkenamgfjoaaGreatArbk
import Derived.IntWalk
import Derived.KernelRfl
set_option linter.unusedSimpArgs false
set_option linter.unusedVariables false
set_option linter.unusedSectionVars false
namespace Go.Proofs.YtdnmkenamgfjoaaGreat.arbl
open Go Go.Ab Go.Proofs Go.RowKit Go.Proofs.YtdnmkenamgfjoaaGreat.str Go.Proofs.YtdnmkenamgfjoaaGreat.vers Go.Proofs.YtdnmkenamgfjoaaGreat.lin1 Go.Proofs.YtdnmkenamgfjoaaGreat.sha Go.Proofs.YtdnmkenamgfjoaaGreat.arba Go.Proofs.YtdnmkenamgfjoaaGreat.arbb Go.Proofs.YtdnmkenamgfjoaaGreat.arbc Go.Proofs.YtdnmkenamgfjoaaGreat.arbd Go.Proofs.YtdnmkenamgfjoaaGreat.arbe Go.Proofs.YtdnmkenamgfjoaaGreat.arbf Go.Proofs.YtdnmkenamgfjoaaGreat.arbg Go.Proofs.YtdnmkenamgfjoaaGreat.arbi Go.Proofs.YtdnmkenamgfjoaaGreat.arbj Go.Proofs.YtdnmkenamgfjoaaGreat.arbk
variable [Inhabited TabBox]
variable [Nonempty GF]
variable [Nonempty GE]
set_option maxRecDepth 100000
theorem secF_rot {V : DevS} (u : DevU V) {p : Nat} (hp : p < V.data.length) (b : UInt8) (m : Nat) (hm : m < V.lock.length) : secF (V.rot p b) m = if m = p / 64 then (secF V m).set (p % 64) ((secF V m)[p % 64]! ^^^ b) else secF V m := by
 have hd := u.dl
 unfold secF DevS.read DevS.rot
 dsimp only
 have hl : ((V.data.drop (64 * m)).take 64).length = 64 := by simp; omega
 refine List.ext_getElem (by split <;> simp) fun j h1 h2 => ?_
 have hj : j < 64 := by simp at h1; omega
 rw [List.getElem_take, List.getElem_drop, List.getElem_set]
 by_cases e : m = p / 64
 ·have hjp : (p = 64 * m + j) ↔ (p % 64 = j) := by omega
  simp only [if_pos e]
  rw [List.getElem_set]
  by_cases q : p % 64 = j
  ·have hpj := hjp.2 q
   rw [if_pos hpj, if_pos q, getElem!_pos _ (p % 64) (by omega), getElem!_pos _ p hp]
   rw [List.getElem_take, List.getElem_drop]
   congr 2
   omega
  ·rw [if_neg fun x => q (hjp.1 x), if_neg q, List.getElem_take, List.getElem_drop]
 ·rw [if_neg (by omega)]
  simp only [if_neg e]
  rw [List.getElem_take, List.getElem_drop]
theorem _root_.Go.Proofs.YtdnmkenamgfjoaaGreat.arbc.DevU.rot {V : DevS} (u : DevU V) (p : Nat) (b : UInt8) : DevU (V.rot p b) := ⟨u.up, u.lf, by show (V.data.set p _).length = _; rw [List.length_set]; exact u.dl, u.wl, u.nl⟩
def plsF (A : ArB) (a : Nat) (X : List Int) (k : Nat) : List Nat := (List.range (A.D + A.P)).filter fun i => decide (((secN A.D A.P A.S a k i : Nat) : Int) ∈ X)
structure Turn (A : ArB) (a : Nat) (V V' : DevS) (X : List Int) (c : Int → Nat) : Prop where
 u : DevU V'
 lk : V'.lock = V.lock
 no : ∀ m : Nat, m < V.lock.length → (m : Int) ∉ X → secF V' m = secF V m
 yes : ∀ m : Nat, m < V.lock.length → (m : Int) ∈ X → ∃ (j : Nat) (b : UInt8), j < 64 ∧ b ≠ (secF V m)[j]! ∧ secF V' m = (secF V m).set j b
 cnt : ∀ k : Nat, k < A.S → (plsF A a X k).length = c k
 sum : ((List.range A.S).map fun k : Nat => c k).sum = X.length
 lim : ∀ k : Nat, k < A.S → c k ≤ A.P
theorem filter_one {i0 : Nat} {p q : Nat → Bool} (h0 : p i0 = false) (h1 : q i0 = true) (h : ∀ i, i ≠ i0 → q i = p i) : ∀ {n : Nat}, i0 < n → ((List.range n).filter q).length = ((List.range n).filter p).length + 1
 | n + 1, hn => by
  rw [range_filter_succ, range_filter_succ]
  by_cases e : i0 = n
  ·subst e
   rw [if_pos h1, h0, if_neg (by decide), List.length_append]
   congr 2
   exact List.filter_congr fun i hi => h i (by have := List.mem_range.1 hi; omega)
  ·have ih := filter_one h0 h1 h (n := n) (by omega)
   rw [h n (by omega)]
   split
   ·rw [List.length_append, List.length_append, ih]; simp; try omega
   ·exact ih
theorem sum_one {k0 : Nat} {f g : Nat → Nat} (h1 : g k0 = f k0 + 1) (h : ∀ i, i ≠ k0 → g i = f i) : ∀ {n : Nat}, k0 < n → ((List.range n).map g).sum = ((List.range n).map f).sum + 1
 | n + 1, hn => by
  rw [List.range_succ, List.map_append, List.map_append, List.sum_append, List.sum_append]
  by_cases e : k0 = n
  ·subst e
   have : (List.range k0).map g = (List.range k0).map f := List.map_congr_left fun i hi => h i (by have := List.mem_range.1 hi; omega)
   rw [this]
   simp [h1]; try omega
  ·have ih := sum_one h1 h (n := n) (by omega)
   rw [ih]
   simp [h n (by omega)]; try omega
theorem sum_zero : ∀ n : Nat, ((List.range n).map fun _ => 0).sum = 0
 | 0 => rfl
 | n + 1 => by rw [List.range_succ, List.map_append, List.sum_append, sum_zero n]; rfl
theorem Turn.zero {A : ArB} {a : Nat} {V : DevS} (u : DevU V) : Turn A a V V [] fun _ => 0 := ⟨u, rfl, fun _ _ _ => rfl, fun _ _ h => (by cases h), fun k _ => (by unfold plsF; simp), sum_zero _, fun _ _ => Nat.zero_le _⟩
def bump (c : Int → Nat) (k : Int) : Int → Nat := fun r => if r = k then c r + 1 else c r
theorem Turn.succ {A : ArB} {a : Nat} {V V' : DevS} {X : List Int} {c : Int → Nat} (t : Turn A a V V' X c) (ux : DevU V) {k i p : Nat} {b : UInt8} (hb : b ≠ 0) (hk : k < A.S) (hi : i < A.D + A.P) (hp : p / 64 = secN A.D A.P A.S a k i) (hpl : p < V.data.length) (hx : ((p / 64 : Nat) : Int) ∉ X) (hc : c k < A.P) :
  Turn A a V (V'.rot p b) (X ++ [((p / 64 : Nat) : Int)]) (bump c k) := by
 have hl : V'.lock.length = V.lock.length := by rw [t.lk]
 have hd : V'.data.length = V.data.length := by rw [t.u.dl, ux.dl, hl]
 have hdl := ux.dl
 have hpm : p / 64 < V.lock.length := by omega
 refine ⟨t.u.rot p b, t.lk, fun m hm hn => ?_, fun m hm hn => ?_, fun k' hk' => ?_, ?_, fun k' hk' => ?_⟩
 ·have h1 : (m : Int) ∉ X ∧ m ≠ p / 64 := ⟨fun q => hn (List.mem_append_left _ q), fun q => hn (by rw [q]; simp)⟩
  rw [secF_rot t.u (by omega) b m (by omega), if_neg h1.2]
  exact t.no m hm h1.1
 ·by_cases e : m = p / 64
  ·subst e
   have h0 := t.no _ hm hx
   have hs := secF_len t.u (i := p / 64) (by omega)
   refine ⟨p % 64, (secF V (p / 64))[p % 64]! ^^^ b, by omega, fun q => hb ?_, ?_⟩
   ·have := congrArg ((secF V (p / 64))[p % 64]! ^^^ ·) q
    simpa [← UInt8.xor_assoc] using this
   ·rw [secF_rot t.u (by omega) b _ (by omega), if_pos rfl, h0]
  ·rw [secF_rot t.u (by omega) b m (by omega), if_neg e]
   refine t.yes m hm ?_
   rcases List.mem_append.1 hn with q | q
   ·exact q
   ·simp at q; omega
 ·unfold bump
  by_cases e : k' = k
  ·subst e
   rw [if_pos rfl, ← t.cnt k' hk']
   unfold plsF
   refine filter_one (i0 := i) (decide_eq_false (by rw [← hp]; exact hx)) (decide_eq_true (by rw [← hp]; simp)) (fun j hj => ?_) hi
   rw [decide_eq_decide]
   constructor
   ·intro q
    rcases List.mem_append.1 q with q | q
    ·exact q
    ·have q1 : ((secN A.D A.P A.S a k' j : Nat) : Int) = ((p / 64 : Nat) : Int) := by simpa using q
     have q2 : secN A.D A.P A.S a k' j = p / 64 := by omega
     rw [hp] at q2
     exact absurd (secN_inj2 hk' hk' q2).2 hj
   ·exact fun q => List.mem_append_left _ q
  ·rw [if_neg (by omega), ← t.cnt k' hk']
   unfold plsF
   congr 1
   refine List.filter_congr fun j hj => ?_
   rw [decide_eq_decide]
   constructor
   ·intro q
    rcases List.mem_append.1 q with q | q
    ·exact q
    ·have q1 : ((secN A.D A.P A.S a k' j : Nat) : Int) = ((p / 64 : Nat) : Int) := by simpa using q
     have q2 : secN A.D A.P A.S a k' j = p / 64 := by omega
     rw [hp] at q2
     exact absurd (secN_inj2 hk' hk q2).1 e
   ·exact fun q => List.mem_append_left _ q
 ·rw [List.length_append, ← t.sum]
  exact sum_one (k0 := k) (f := fun k : Nat => c k) (g := fun r : Nat => bump c k r) (by unfold bump; rw [if_pos rfl]) (fun j hj => by unfold bump; rw [if_neg (by omega)]) hk
 ·unfold bump
  split
  ·rename_i e
   have : k' = k := by omega
   subst this; omega
  ·exact t.lim k' hk'
theorem Turn.at' {A : ArB} {a : Nat} {V V' : DevS} {X : List Int} {c : Int → Nat} (t : Turn A a V V' X c) {k : Nat} (B : List (List UInt8)) (hB : B.length = A.D + A.P) (hs : strF A V a k = B.map crE) (hlt : ∀ i, i < A.D + A.P → secN A.D A.P A.S a k i < V.lock.length) (i : Nat) (hi : i < A.D + A.P) (hn : i ∉ plsF A a X k) : secF V' (secN A.D A.P A.S a k i) = crE B[i]! := by
 have hn2 : ((secN A.D A.P A.S a k i : Nat) : Int) ∉ X := fun q => hn (by
  unfold plsF
  rw [List.mem_filter]
  exact ⟨List.mem_range.2 hi, decide_eq_true q⟩)
 rw [t.no _ (hlt i hi) hn2]
 have hiB : i < B.length := by omega
 rw [getElem!_pos B i hiB]
 have := congrArg (fun l => l[i]!) hs
 rw [getElem!_pos _ i (by rw [strF_len]; exact hi), getElem!_pos _ i (by simpa using hiB), List.getElem_map] at this
 rw [← this]
 simp [strF]
abbrev eR (x : Int × UInt8) : List Value := [.int .i64 x.1, .int .u8 (x.2.toNat : Int)]
def SlG {α : Type} (ea : α → List Value) (n : Nat) (h : Heap) (v : Value) (l : List α) : Prop :=
 (∃ c, v = .slice none 0 c ∧ l = []) ∨ ∃ b o cap c m e, v = .slice (some ⟨b, o, none⟩) l.length cap ∧ h.cellsOf b = some (c, m, e) ∧ l.length ≤ cap ∧ (m.isLoose = true → e = n) ∧ ∀ i (hi : i < l.length), acut c (o + i * n) n = some (ea l[i])
theorem SlG.keep {α : Type} {ea : α → List Value} {n : Nat} {h H : Heap} {v : Value} {l : List α} (s : SlG ea n h v l) (g : ∀ u ob, h.m u = some ob → H.m u = some ob) : SlG ea n H v l := by
 rcases s with q | ⟨b, o, cap, c, m, e, h1, h2, h3, h4, h5⟩
 ·exact .inl q
 ·exact .inr ⟨b, o, cap, c, m, e, h1, cellsOf_keep g h2, h3, h4, h5⟩
theorem SlG.form {α : Type} {ea : α → List Value} {n : Nat} {h : Heap} {v : Value} {l : List α} (s : SlG ea n h v l) : ∃ a c, v = .slice a l.length c := by
 rcases s with ⟨c, rfl, rfl⟩ | ⟨b, o, cap, c, m, e, rfl, _⟩
 ·exact ⟨_, _, rfl⟩
 ·exact ⟨_, _, rfl⟩
theorem SlG.at' {α : Type} {ea : α → List Value} {n : Nat} {h : Heap} {v : Value} {l : List α} (s : SlG ea n h v l) {i : Nat} (hi : i < l.length) : ∃ b o cap c m e, v = .slice (some ⟨b, o, none⟩) l.length cap ∧ h.cellsOf b = some (c, m, e) ∧ acut c (o + i * n) n = some (ea l[i]) := by
 rcases s with ⟨c, _, rfl⟩ | ⟨b, o, cap, c, m, e, h1, h2, h3, h4, h5⟩
 ·simp at hi
 ·exact ⟨b, o, cap, c, m, e, h1, h2, h5 i hi⟩
theorem lat_bls {H : Heap} {nm : Option Nat} {v : Value} {L : List (List UInt8)} {n : Nat} (hn : L.length = n) (h60 : ∀ x ∈ L, x.length = 60) (l : LAt H 60 nm v n (ubs L.flatten)) : BlS H v L := by
 subst hn
 refine ⟨h60, ?_⟩
 rcases l with ⟨_, rfl, e1, _⟩ | ⟨x, md, e, _, rfl, h3, h4, _⟩
 ·exact .inl ⟨0, rfl, List.eq_nil_of_length_eq_zero e1⟩
 ·exact .inr ⟨x, 0, _, _, md, e, rfl, h3, fun i hi => by rw [Nat.zero_add]; exact flat_cut h60 i hi⟩
theorem lat_ints {H : Heap} {nm : Option Nat} {v : Value} {E : List Nat} (l : LAt H 1 nm v E.length (E.map ei)) : Sl cI H v (E.map fun i : Nat => (i : Int)) := by
 have : E.map ei = (E.map fun i : Nat => (i : Int)).map cI := by rw [List.map_map]; rfl
 rw [this] at l
 exact LAt.sl l
def blkF (A : ArB) (x : Hd) (img : List UInt8) (k : Nat) : List (List UInt8) := encB A.D A.P (((txL A.D A.P A.S x img).drop (k * A.D)).take A.D)
structure Blk (A : ArB) (x : Hd) (img : List UInt8) : Prop where
 len : ∀ k, k < A.S → (blkF A x img k).length = A.D + A.P ∧ ∀ y ∈ blkF A x img k, y.length = 60
 rt : ∀ k, k < A.S → ∀ q, q < 60 → rightF A.P (colF (blkF A x img k) q)
 tk : ∀ k, k < A.S → (blkF A x img k).take A.D = ((txL A.D A.P A.S x img).drop (k * A.D)).take A.D
 get : getH (ldT A (blkF A x img) A.S) = (x, 0)
 im : ((ldT A (blkF A x img) A.S).drop 48).take img.length = img
 n : x.n = img.length
 room : x.n ≤ roomF A.D A.P A.S
theorem blk_ok (A : ArB) (hr : right A.D A.P A.S = true) (x : Hd) (hx : x.hs.length = 32) (img : List UInt8) (hE : txE A.D A.P A.S x img.length = 0) : Blk A x img := by
 obtain ⟨⟨hd1, hd8⟩, ⟨hp2, hp6⟩, hn1, hn8⟩ := right_prop.1 hr
 have hT : txL A.D A.P A.S x img = splitT (putH x ++ img) (A.D * A.S) := by
  unfold txL
  rw [if_pos hE]
  have : ((A.D : Int) * A.S) = ((A.D * A.S : Nat) : Int) := by push_cast; rfl
  rw [this]; rfl
 have hcond : right A.D A.P A.S = true ∧ rightH x ∧ x.n = img.length ∧ (img.length : Int) ≤ roomF A.D A.P A.S := by
  unfold txE at hE
  split at hE
  ·rename_i q
   refine ⟨q.1, q.2.1, q.2.2, ?_⟩
   split at hE
   ·omega
   ·omega
  ·omega
 obtain ⟨_, hR, hn, hroom⟩ := hcond
 have hTl := splitT_len (putH x ++ img) (A.D * A.S)
 have hT60 := splitT_60 (putH x ++ img) (A.D * A.S)
 have hpl : (putH x).length = 48 := putH_len hx
 have hroomv : roomF A.D A.P A.S = max (60 * ((A.D * A.S : Nat) : Int) - 48) 0 := by
  unfold roomF
  rw [if_pos hr]
  push_cast; rfl
 have hfit : (putH x ++ img).length ≤ 60 * (A.D * A.S) := by
  have : 1 ≤ A.D * A.S := Nat.mul_pos (by omega) (by omega)
  rw [List.length_append, hpl]; omega
 have hTf := splitT_flat (A.D * A.S) (putH x ++ img) hfit
 rw [← hT] at hTl hT60 hTf
 have hLk : ∀ k, k < A.S → (((txL A.D A.P A.S x img).drop (k * A.D)).take A.D).length = A.D ∧ ∀ y ∈ ((txL A.D A.P A.S x img).drop (k * A.D)).take A.D, y.length = 60 := fun k hk => by
  refine ⟨?_, fun y hy => hT60 y (List.mem_of_mem_drop (List.mem_of_mem_take hy))⟩
  have : (k + 1) * A.D ≤ A.S * A.D := Nat.mul_le_mul_right _ hk
  rw [Nat.add_mul, Nat.one_mul, Nat.mul_comm A.S] at this
  rw [List.length_take, List.length_drop, hTl]; omega
 have hXD : ∀ k, k < A.S → (blkF A x img k).take A.D = ((txL A.D A.P A.S x img).drop (k * A.D)).take A.D := fun k hk => encB_data (hLk k hk).1 (by omega) (hLk k hk).2
 have hld : ldT A (blkF A x img) A.S = (txL A.D A.P A.S x img).flatten := by
  rw [ldT_eq]
  exact chunks_flat A.D A.S _ hTl (fun k => (blkF A x img k).take A.D) hXD
 refine ⟨fun k hk => ⟨encB_len _ _ _, encB_60 _ _ _⟩, fun k hk q hq => encB_right (hLk k hk).1 (by omega) q hq, hXD, ?_, ?_, hn, by rw [hn]; exact hroom⟩
 ·rw [hld, hTf, List.append_assoc]; exact get_put hx hR _
 ·rw [hld, hTf, List.append_assoc, List.drop_append_of_le_length (by omega), List.drop_of_length_le (by omega), List.nil_append, List.take_append_of_le_length (Nat.le_refl _), List.take_of_length_le (Nat.le_refl _)]
def Full (A : ArB) (V : DevS) (a : Nat) (x : Hd) (img : List UInt8) : Prop := ∀ k, k < A.S → strF A V a k = (blkF A x img k).map crE
theorem Full.of {A : ArB} {V0 V : DevS} {a : Nat} {x : Hd} {img : List UInt8} (w : Filled A V0 V a (txL A.D A.P A.S x img) A.S) : Full A V a x img := fun k hk => by rw [strF_filled w k hk]; rfl
theorem secN_fit {A : ArB} {V : DevS} {h : Heap} (K : ArK h A V) {a k i : Nat} (ha : a ≤ 2) (hk : k < A.S) (hi : i < A.D + A.P) : secN A.D A.P A.S a k i < V.lock.length := by
 have := (secN_lt K.rt ha hk hi).1
 have := K.sz
 omega
theorem _root_.Go.Proofs.YtdnmkenamgfjoaaGreat.arbi.Rw.str {A : ArB} {V2 V3 : DevS} {a k : Nat} {T : List (List UInt8)} {ws : List Int} {h : Heap} (K : ArK h A V2) (ha : a ≤ 2) (hk : k < A.S) (r : Rw A V2 V3 a k T ws) (k' : Nat) (hk' : k' < A.S) (hne : k' ≠ k) : strF A V3 a k' = strF A V2 a k' := by
 unfold strF
 refine List.map_congr_left fun i hi => ?_
 have hi' := List.mem_range.1 hi
 exact r.no _ (secN_fit K ha hk' hi') fun j hj e => hne (by
  unfold secN at e
  have h1 : i * A.S + k' = j * A.S + k := by omega
  have e1 : (i * A.S + k') % A.S = k' := by rw [Nat.mul_comm i A.S, Nat.mul_add_mod, Nat.mod_eq_of_lt hk']
  have e2 : (j * A.S + k) % A.S = k := by rw [Nat.mul_comm j A.S, Nat.mul_add_mod, Nat.mod_eq_of_lt hk]
  rw [h1] at e1
  omega)
theorem _root_.Go.Proofs.YtdnmkenamgfjoaaGreat.arbi.Rw.full {A : ArB} {V2 V3 : DevS} {a k : Nat} {B : List (List UInt8)} {E : List Nat} {h : Heap} (K : ArK h A V2) (ha : a ≤ 2) (hk : k < A.S) (hB : B.length = A.D + A.P) (r : Rw A V2 V3 a k (B.map crE) (E.map fun i : Nat => (i : Int))) (hn : ∀ i, i < A.D + A.P → i ∉ E → secF V2 (secN A.D A.P A.S a k i) = crE B[i]!) : strF A V3 a k = B.map crE := by
 refine List.ext_getElem (by rw [strF_len, List.length_map, hB]) fun i h1 h2 => ?_
 have hi : i < A.D + A.P := by rw [strF_len] at h1; exact h1
 have e0 : (strF A V3 a k)[i] = secF V3 (secN A.D A.P A.S a k i) := by simp [strF]
 rw [e0, List.getElem_map, ← getElem!_pos B i (by omega)]
 by_cases q : i ∈ E
 ·rw [r.at' i hi (List.mem_map.2 ⟨i, q, rfl⟩), getElem!_pos (B.map crE) i (by simp; omega), List.getElem_map, getElem!_pos B i (by omega)]
 ·rw [r.no _ (secN_fit K ha hk hi) (fun j hj e => q (by
   obtain ⟨j', hj', e'⟩ := List.mem_map.1 hj
   have : j' = j := by omega
   subst this
   rw [secN_inj (by omega : 0 < A.S) e]; exact hj')), hn i hi q]

def c5_2 : AC := .seq (.seq (.ops [mV 147 21,oP 148 (.fAddr 2 (tP 3)),oP 149 (.load none (tP 148)),oP 150 (.bin .lss (tP 147) (tP 149))]) (.cond (tP 150) .skip (.exit 2))) (.seq (.block 3 (.seq (.ops [mV 154 7,mV 155 21,oP 156 (.call 30 [tP 154,.const (.int .i64 2),tP 155]),mV 153 156,oP 157 (.extr (tP 153) 0),oP 158 (.extr (tP 153) 1),oP 22 (.alloc [.slice none 0 0,.slice none 0 0]),⟨none,none,.store 2 (tP 22) (tP 157)⟩,mV 23 158]) (.seq (.ops [mV 159 23,oP 160 (.bin .neq (tP 159) (kI 0)),mV 161 160,⟨some 162,some (161,false),.fAddr 1 (tP 22)⟩,⟨some 163,some (161,false),.load none (tP 162)⟩,⟨some 164,some (161,false),.lenS false (tP 163)⟩,⟨some 165,some (161,false),.mv (tP 10)⟩,⟨some 166,some (161,false),.mv (tP 21)⟩,⟨some 167,some (161,false),.look ⟨false,[.i]⟩ (.int .i64 0) (tP 165) (tP 166) false⟩,⟨some 168,some (161,false),.bin .neq (tP 164) (tP 167)⟩,oP 169 (.pick (tP 161) (.const (.bool true)) (tP 168)),mV 170 169,⟨some 171,some (170,false),.mv (tP 7)⟩,⟨some 172,some (170,false),.mv (tP 21)⟩,⟨some 173,some (170,false),.load (some 2) (tP 22)⟩,⟨some 174,some (170,false),.fAddr 1 (tP 22)⟩,⟨some 175,some (170,false),.load none (tP 174)⟩,⟨some 176,some (170,false),.call 31 [tP 171,.const (.int .i64 2),tP 172,tP 173,tP 175]⟩,⟨some 177,some (170,false),.bin .neq (tP 176) (kI 0)⟩,oP 178 (.pick (tP 170) (.const (.bool true)) (tP 177))]) (.cond (tP 178) (.seq (.ops [oP 6 (.mv (.const (.bool false)))]) .ret) .skip)))) (.ops [mV 151 21,oP 152 (.bin .add (tP 151) (kI 1)),mV 21 152]))
def c5_0 : AC := .seq (.ops [oP 67 (.bin .lss (tP 66) (tP 65))]) (.seq (.cond (tP 67) .skip (.exit 0)) (.seq (.block 1 (.seq (.ops [oP 68 (.iAddrS 2 (tP 64) (tP 66)),oP 69 (.load (some 2) (tP 68)),oP 12 (.alloc [.int .i64 0,.int .u8 0]),⟨none,none,.store 2 (tP 12) (tP 69)⟩]) (.seq (.ops [oP 71 (.load (some 3) (tP 3)),oP 72 (.fAddr 0 (tP 12)),oP 73 (.load none (tP 72)),oP 74 (.bin .quo (tP 73) (kI 64)),oP 75 (.call 28 [tP 71,tP 74]),mV 70 75,oP 76 (.extr (tP 70) 0),oP 77 (.extr (tP 70) 1),oP 78 (.extr (tP 70) 2),oP 79 (.extr (tP 70) 3),mV 13 76,mV 14 77,mV 15 78,mV 16 79]) (.seq (.seq (.ops [mV 80 16,oP 81 (.un .not (tP 80)),mV 82 81,⟨some 83,some (82,false),.mv (tP 13)⟩,⟨some 84,some (82,false),.bin .neq (tP 83) (kI 2)⟩,oP 85 (.pick (tP 82) (.const (.bool true)) (tP 84)),mV 86 85,⟨some 87,some (86,false),.fAddr 0 (tP 12)⟩,⟨some 88,some (86,false),.load none (tP 87)⟩,⟨some 89,some (86,false),.bin .lss (tP 88) (kI 0)⟩,oP 90 (.pick (tP 86) (.const (.bool true)) (tP 89)),mV 91 90,⟨some 92,some (91,false),.fAddr 1 (tP 12)⟩,⟨some 93,some (91,false),.load none (tP 92)⟩,⟨some 94,some (91,false),.bin .eql (tP 93) (.const (.int .u8 0))⟩,oP 95 (.pick (tP 91) (.const (.bool true)) (tP 94)),mV 96 95,⟨some 97,some (96,false),.mv (tP 9)⟩,⟨some 98,some (96,false),.fAddr 0 (tP 12)⟩,⟨some 99,some (96,false),.load none (tP 98)⟩,⟨some 100,some (96,false),.bin .quo (tP 99) (kI 64)⟩,⟨some 101,some (96,false),.look ⟨false,[.i]⟩ (.bool false) (tP 97) (tP 100) false⟩,oP 102 (.pick (tP 96) (.const (.bool true)) (tP 101)),mV 103 102,⟨some 104,some (103,false),.mv (tP 10)⟩,⟨some 105,some (103,false),.mv (tP 14)⟩,⟨some 106,some (103,false),.look ⟨false,[.i]⟩ (.int .i64 0) (tP 104) (tP 105) false⟩,⟨some 107,some (103,false),.fAddr 1 (tP 3)⟩,⟨some 108,some (103,false),.load none (tP 107)⟩,⟨some 109,some (103,false),.bin .eql (tP 106) (tP 108)⟩,oP 110 (.pick (tP 103) (.const (.bool true)) (tP 109))]) (.cond (tP 110) (.exit 1) .skip)) (.seq (.ops [mV 111 9,oP 112 (.fAddr 0 (tP 12)),oP 113 (.load none (tP 112)),oP 114 (.bin .quo (tP 113) (kI 64)),⟨none,none,.mupd ⟨false,[.i]⟩ (tP 111) (tP 114) (.const (.bool true))⟩]) (.seq (.ops [mV 115 10,mV 116 14,oP 117 (.look ⟨false,[.i]⟩ (.int .i64 0) (tP 115) (tP 116) false),oP 118 (.bin .add (tP 117) (kI 1)),⟨none,none,.mupd ⟨false,[.i]⟩ (tP 115) (tP 116) (tP 118)⟩]) (.ops [mV 119 8,oP 120 (.fAddr 0 (tP 12)),oP 121 (.load none (tP 120)),oP 122 (.fAddr 1 (tP 12)),oP 123 (.load none (tP 122)),oP 124 (.buildS 1 [.int .u8 0] [(0,1,.tmp 123)]),oP 125 (.call 14 [tP 119,tP 121,tP 124])]))))))) (.ops [oP 126 (.bin .add (tP 66) (kI 1)),mV 66 126])))
def c5 : AC := .seq (.ops [oP 3 (.box (tP 0)),oP 6 (.mv (.const (.bool false)))]) (.seq (.seq (.ops [oP 24 (.call 24 []),oP 25 (.un .not (tP 24))]) (.cond (tP 25) (.seq (.ops [oP 6 (.mv (.const (.bool false)))]) .ret) .skip)) (.seq (.seq (.ops [oP 26 (.load (some 3) (tP 3)),oP 27 (.call 20 [tP 26]),oP 28 (.un .not (tP 27)),mV 29 28,⟨some 30,some (29,false),.mv (tP 2)⟩,⟨some 31,some (29,false),.lenS false (tP 30)⟩,⟨some 32,some (29,false),.bin .gtr (tP 31) (kI 40)⟩,oP 33 (.pick (tP 29) (.const (.bool true)) (tP 32)),mV 34 33,⟨some 35,some (34,false),.mv (tP 1)⟩,⟨some 36,some (34,false),.lenS true (tP 35)⟩,⟨some 37,some (34,false),.load (some 3) (tP 3)⟩,⟨some 38,some (34,false),.call 12 [tP 37]⟩,⟨some 39,some (34,false),.bin .gtr (tP 36) (tP 38)⟩,oP 40 (.pick (tP 34) (.const (.bool true)) (tP 39)),mV 41 40,⟨some 42,some (41,false),.mv (tP 1)⟩,⟨some 43,some (41,false),.lenS true (tP 42)⟩,⟨some 44,some (41,false),.bin .gtr (tP 43) (kI 5000)⟩,oP 45 (.pick (tP 41) (.const (.bool true)) (tP 44))]) (.cond (tP 45) (.seq (.ops [oP 6 (.mv (.const (.bool true)))]) .ret) .skip)) (.seq (.ops [oP 47 (.load (some 3) (tP 3)),oP 48 (.call 25 [tP 47]),mV 46 48,oP 49 (.extr (tP 46) 0),oP 50 (.extr (tP 46) 1),mV 7 49,mV 8 50]) (.seq (.seq (.ops [mV 51 7,oP 52 (.eqv false .ptr (tP 51) (.const (.pointer none))),mV 53 52,⟨some 54,some (53,false),.mv (tP 7)⟩,⟨some 55,some (53,false),.build [.int .i64 0,.int .i64 0,.int .i64 0] []⟩,⟨some 56,some (53,false),.mv (tP 1)⟩,⟨some 57,some (53,false),.call 27 [tP 55,tP 56]⟩,⟨some 58,some (53,false),.mv (tP 1)⟩,⟨some 59,some (53,false),.call 26 [tP 54,.const (.int .i64 2),tP 57,tP 58]⟩,⟨some 60,some (53,false),.bin .neq (tP 59) (kI 0)⟩,oP 61 (.pick (tP 53) (.const (.bool true)) (tP 60))]) (.cond (tP 61) (.seq (.ops [oP 6 (.mv (.const (.bool false)))]) .ret) .skip)) (.seq (.ops [oP 62 (.mkMap),mV 9 62]) (.seq (.ops [oP 63 (.mkMap),mV 10 63]) (.seq (.seq (.ops [mV 64 2,oP 65 (.lenS false (tP 64)),oP 66 (.mv (kI 0))]) (.block 0 (.loop c5_0))) (.seq (.ops [mV 128 7,oP 129 (.call 29 [tP 128,.const (.int .i64 2)]),mV 127 129,oP 130 (.extr (tP 127) 0),oP 131 (.extr (tP 127) 1),oP 132 (.extr (tP 127) 2),oP 133 (.extr (tP 127) 3),oP 17 (.alloc z36),⟨none,none,.store 36 (tP 17) (tP 130)⟩,mV 18 131,mV 19 132,mV 20 133]) (.seq (.seq (.ops [mV 134 18,mV 135 1,oP 136 (.bin .neq (tP 134) (tP 135)),mV 137 136,⟨some 138,some (137,false),.mv (tP 19)⟩,⟨some 139,some (137,false),.mv (tP 9)⟩,⟨some 140,some (137,false),.lenM (tP 139)⟩,⟨some 141,some (137,false),.bin .neq (tP 138) (tP 140)⟩,oP 142 (.pick (tP 137) (.const (.bool true)) (tP 141)),mV 143 142,⟨some 144,some (143,false),.mv (tP 20)⟩,⟨some 145,some (143,false),.bin .neq (tP 144) (kI 0)⟩,oP 146 (.pick (tP 143) (.const (.bool true)) (tP 145))]) (.cond (tP 146) (.seq (.ops [oP 6 (.mv (.const (.bool false)))]) .ret) .skip)) (.seq (.seq (.ops [oP 21 (.mv (kI 0))]) (.block 2 (.loop c5_2))) (.seq (.ops [mV 180 7,oP 181 (.call 29 [tP 180,.const (.int .i64 2)]),mV 179 181,oP 182 (.extr (tP 179) 0),oP 183 (.extr (tP 179) 1),oP 184 (.extr (tP 179) 2),oP 185 (.extr (tP 179) 3),mV 18 183,mV 19 184,mV 20 185]) (.seq (.ops [mV 186 18,mV 187 1,oP 188 (.bin .eql (tP 186) (tP 187)),mV 189 188,⟨some 190,some (189,true),.mv (tP 19)⟩,⟨some 191,some (189,true),.bin .eql (tP 190) (kI 0)⟩,oP 192 (.pick (tP 189) (tP 191) (.const (.bool false))),mV 193 192,⟨some 194,some (193,true),.mv (tP 20)⟩,⟨some 195,some (193,true),.bin .eql (tP 194) (kI 0)⟩,oP 196 (.pick (tP 193) (tP 195) (.const (.bool false))),mV 6 196]) .ret))))))))))))
theorem k5 : compF Tryz.prog Tryz.f5 = some (c5, [6]) := by kernel_rfl
theorem n5 : Tryz.f5.ntmps = 197 := by kernel_rfl
structure Half (A : ArB) (a : Nat) (V' V : DevS) (x : Hd) (img : List UInt8) (k : Nat) : Prop where
 u : DevU V
 lk : V.lock = V'.lock
 lo : ∀ j, j < k → j < A.S → strF A V a j = (blkF A x img j).map crE
 hi : ∀ j, k ≤ j → j < A.S → strF A V a j = strF A V' a j
theorem Half.zero {A : ArB} {a : Nat} {V : DevS} (u : DevU V) (x : Hd) (img : List UInt8) : Half A a V V x img 0 := ⟨u, rfl, fun j hj => by omega, fun _ _ _ => rfl⟩
theorem Half.succ {A : ArB} {a : Nat} (ha : a ≤ 2) {V4 V' V2 V3 : DevS} {x : Hd} {img : List UInt8} {k : Nat} {X : List Int} {c : Int → Nat} (f : Half A a V' V2 x img k) (t : Turn A a V4 V' X c) (w : Full A V4 a x img) (B : Blk A x img) {h : Heap} (K : ArK h A V2) (hk : k < A.S)
  (r : Rw A V2 V3 a k ((blkF A x img k).map crE) ((plsF A a X k).map fun i : Nat => (i : Int))) (u3 : DevU V3) : Half A a V' V3 x img (k + 1) := by
 refine ⟨u3, r.lk.trans f.lk, fun j hj hjS => ?_, fun j hj hjS => ?_⟩
 ·by_cases e : j = k
  ·subst e
   refine r.full K ha hk (B.len j hk).1 fun i hi hn => ?_
   have h0 : secF V2 (secN A.D A.P A.S a j i) = secF V' (secN A.D A.P A.S a j i) := by
    have := congrArg (fun l => l[i]!) (f.hi j (Nat.le_refl _) hk)
    rw [getElem!_pos (strF A V2 a j) i (by rw [strF_len]; exact hi), getElem!_pos (strF A V' a j) i (by rw [strF_len]; exact hi)] at this
    simpa [strF] using this
   rw [h0]
   exact t.at' _ (B.len j hk).1 (w j hk) (fun i hi => by rw [← t.lk, ← f.lk]; exact secN_fit K ha hk hi) i hi hn
  ·rw [r.str K ha hk j hjS e]
   exact f.lo j (by omega) hjS
 ·rw [r.str K ha hk j hjS (by omega)]
  exact f.hi j (by omega) hjS
section
open Go.RowKit Go.ChangeShapes Go.WideShapes
variable {H : Type} {P : Program} {W : World} {enc : TypeId × Value → H}
end

end Go.Proofs.YtdnmkenamgfjoaaGreat.arbl

