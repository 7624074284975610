/-
 Contracts.
-/
import Derived.Test.YtdnmkenamgfjoaaGreatVers
import Derived.IntWalk
import Derived.KernelRfl
set_option linter.unusedSimpArgs false
set_option linter.unusedVariables false
set_option linter.unusedSectionVars false
namespace Go.Proofs.YtdnmkenamgfjoaaGreat.lin1
open Go Go.Ab Go.Proofs Go.RowKit str vers
variable [Inhabited TabBox]
variable [Nonempty GF]
variable [Nonempty GE]
set_option maxRecDepth 100000
def LAt (h : Heap) (esz : Nat) (nm : Option Nat) (v : Value) (n : Nat) (cells : List Value) : Prop :=
 (nm = none ∧ v = .slice none 0 0 ∧ n = 0 ∧ cells = []) ∨ ∃ x md e,nm = some x ∧ v = .slice (some ⟨x,0,none⟩) n n ∧ h.cellsOf x = some (cells,md,e) ∧ cells.length = n * esz ∧ md ≠ .ro ∧ (md.isLoose = true → e = esz)
theorem LAt.form {h : Heap} {esz n : Nat} {nm : Option Nat} {v : Value} {cells : List Value} (l : LAt h esz nm v n cells) : ∃ a,v = .slice a n n := by
 rcases l with ⟨_,rfl,rfl,_⟩ | ⟨x,md,e,_,rfl,_⟩
 ·exact ⟨none,rfl⟩
 ·exact ⟨_,rfl⟩
theorem LAt.keep {h h' : Heap} {esz n : Nat} {nm : Option Nat} {v : Value} {cells : List Value} (l : LAt h esz nm v n cells) (hk : ∀ x,nm = some x → h'.m x = h.m x) : LAt h' esz nm v n cells := by
 rcases l with q | ⟨x,md,e,h1,h2,h3,h4⟩
 ·exact .inl q
 ·refine .inr ⟨x,md,e,h1,h2,?_,h4⟩
  unfold Heap.cellsOf at h3 ⊢
  rw [hk x h1]; exact h3
theorem LAt.below {h : Heap} {esz n : Nat} {nm : Option Nat} {v : Value} {cells : List Value} (l : LAt h esz nm v n cells) (hc : h.Closed) : VBelow h.n v := by
 rcases l with ⟨_,rfl,_⟩ | ⟨x,md,e,_,rfl,h3,_⟩
 ·exact .snil
 ·exact .slice (cellsOf_lt hc h3)
theorem LAt.lt {h : Heap} {esz n x : Nat} {v : Value} {cells : List Value} (l : LAt h esz (some x) v n cells) (hc : h.Closed) : x < h.n := by
 rcases l with ⟨q,_⟩ | ⟨y,md,e,q,_,h3,_⟩
 ·cases q
 ·cases q; exact cellsOf_lt hc h3
theorem LAt.sl {α : Type} {enc : α → Value} {h : Heap} {n : Nat} {nm : Option Nat} {v : Value} {l : List α} (q : LAt h 1 nm v n (l.map enc)) : Sl enc h v l := by
 rcases q with ⟨_,rfl,rfl,h4⟩ | ⟨x,md,e,_,rfl,h3,h4,_⟩
 ·exact .inl ⟨0,rfl,by simpa using h4⟩
 ·have hl : l.length = n := by simpa using h4
  subst hl
  exact .inr ⟨x,0,_,l.map enc,md,e,rfl,h3,Nat.le_refl _,fun _ => by simp,fun i hi => by simp [hi]⟩
theorem LAt.made (h : Heap) (esz : Nat) : LAt (h.push (.cells [] .ex 1)) esz (some h.n) (.slice (some ⟨h.n,0,none⟩) 0 0) 0 [] :=
 .inr ⟨h.n,.ex,1,rfl,rfl,cellsOf_new _ _ _ _,by simp,by decide,fun q => by cases q⟩
theorem lat_app {h : Heap} {t esz bytes n k : Nat} {nm : Option Nat} {v : Value} {cells new : List Value} (hc : h.Closed) (l : LAt h esz nm v n cells) (hk : 0 < k) (hnew : new.length = k * esz) (hb : ∀ x ∈ new,VBelow h.n x) (hsm : (n + k) * (bytes + 1) ≤ 1099511627776) :
  ∃ a,v = .slice a n n ∧ ∃ v2 H2,aapp h t esz bytes a n n new k = some (v2,H2) ∧ LAt H2 esz (some h.n) v2 (n + k) (cells ++ new) ∧ (∀ y ob,h.m y = some ob → nm ≠ some y → H2.m y = some ob) ∧ H2.n = h.n + 1 ∧ H2.Closed := by
 rcases l with ⟨rfl,rfl,rfl,rfl⟩ | ⟨x,md,e,rfl,rfl,hx,hcl,hro,hes⟩
 ·refine ⟨none,rfl,.slice (some ⟨h.n,0,none⟩) k k,h.push (.cells new (.loose t) esz),?_,.inr ⟨h.n,.loose t,esz,rfl,by simp,by simpa using cellsOf_new h new (.loose t) esz,by simpa using hnew,by simp,fun _ => rfl⟩,fun y ob e _ => ?_,rfl,closed_push hc fun x hx => (hb x hx).mono (Nat.le_succ _)⟩
  ·unfold aapp
   dsimp only
   rw [if_pos ⟨hsm,hnew⟩]
   simp [show k ≠ 0 by omega]
  ·rw [push_m,if_neg (by have := (hc y ob e).1; omega)]; exact e
 ·have hcut : acut cells 0 (n * esz) = some cells := by rw [← hcl]; exact acut_all cells
  have hxn := cellsOf_lt hc hx
  have hcb : ∀ v ∈ cells ++ new,VBelow (h.n + 1) v := fun v hv => by
   rcases List.mem_append.1 hv with q | q
   ·exact ((hc x _ (m_of_cells hx)).2 v q).mono (Nat.le_succ _)
   ·exact (hb v q).mono (Nat.le_succ _)
  have hlen : (cells ++ new).length = (n + k) * esz := by simp [hcl,hnew,Nat.add_mul]
  by_cases hl : md.isLoose = true
  ·obtain rfl := hes hl
   have hgl : (md.grown t).isLoose = true := by unfold BMode.grown; split <;> (try split) <;> rfl
   refine ⟨some ⟨x,0,none⟩,rfl,.slice (some ⟨h.n,0,none⟩) (n + k) (n + k),(h.kill x).push (.cells (cells ++ new) (md.grown t) e),?_,
    .inr ⟨h.n,md.grown t,e,rfl,rfl,cellsOf_new (h.kill x) _ _ _,hlen,(by intro q; rw [q] at hgl; cases hgl),fun _ => rfl⟩,fun y ob e hne => ?_,rfl,closed_push (fun y ob e => ?_) hcb⟩
   ·unfold aapp
    dsimp only
    rw [if_pos ⟨hsm,hnew⟩,hx]
    simp only [if_true]
    rw [hcut]
    simp only [hl,if_true]
    rw [if_neg (by omega),if_pos (by omega)]
   ·have hlt := (hc y ob e).1
    rw [push_m,if_neg (by show ¬ y = h.n; omega),kill_m,if_neg (fun q => hne (by rw [q]))]; exact e
   ·rw [kill_m] at e
    split at e
    ·cases e
    ·exact hc y ob e
  ·refine ⟨some ⟨x,0,none⟩,rfl,.slice (some ⟨h.n,0,none⟩) (n + k) (n + k),h.push (.cells (cells ++ new) (.loose t) esz),?_,
    .inr ⟨h.n,.loose t,esz,rfl,rfl,cellsOf_new _ _ _ _,hlen,by simp,fun _ => rfl⟩,fun y ob e hne => ?_,rfl,closed_push hc hcb⟩
   ·unfold aapp
    dsimp only
    rw [if_pos ⟨hsm,hnew⟩,hx]
    simp only [if_true]
    rw [hcut]
    simp only
    rw [if_neg hl,if_neg (by omega)]
   ·have hlt := (hc y ob e).1
    rw [push_m,if_neg (by omega)]; exact e
structure Gr (h H : Heap) : Prop where
 n : h.n ≤ H.n
 cl : H.Closed
 m : ∀ y ob,h.m y = some ob → H.m y = some ob
theorem Gr.push {h H : Heap} (g : Gr h H) {o : AObj} (ho : o.Below (H.n + 1)) : Gr h (H.push o) :=
 ⟨Nat.le_succ_of_le g.n,closed_push g.cl ho,fun y ob e => by have q := g.m y ob e; rw [push_m,if_neg (by have := (g.cl y ob q).1; omega)]; exact q⟩
theorem Gr.sub {h H : Heap} (g : Gr h H) : H.Sub h.n H := ⟨g.n,Nat.le_refl _,fun _ _ e => e,g.cl⟩
theorem lat_bytes {H : Heap} {nm : Option Nat} {v : Value} {l : List UInt8} (hc : H.Closed) (q : LAt H 1 nm v l.length (ubs l)) (M : List UInt8) (hM : 0 < M.length) (hl : l.length + M.length ≤ 100000000) :
  ∃ a,v = .slice a l.length l.length ∧ ∃ v2 H2,aapp (H.push (.cells (ubs M) .ex 1)) 5 1 1 a l.length l.length (ubs M) M.length = some (v2,H2) ∧ LAt H2 1 (some (H.n + 1)) v2 (l ++ M).length (ubs (l ++ M)) ∧
   (∀ y ob,H.m y = some ob → nm ≠ some y → H2.m y = some ob) ∧ H2.n = H.n + 2 ∧ H2.Closed := by
 have l1 : LAt (H.push (.cells (ubs M) .ex 1)) 1 nm v l.length (ubs l) := q.keep fun y e => by
  subst e
  rw [push_m,if_neg (by have := q.lt hc; omega)]
 have hcp : (H.push (.cells (ubs M) .ex 1)).Closed := closed_push hc (o := .cells (ubs M) .ex 1) ubs_bel
 obtain ⟨a,q,v2,H2,happ,l2,keep2,n2,c2⟩ := lat_app (t := 5) (bytes := 1) (k := M.length) (new := ubs M) hcp l1 hM (by rw [ubs_len,Nat.mul_one]) ubs_bel (by omega)
 refine ⟨a,q,v2,H2,happ,?_,fun y ob e hne => keep2 y ob (by rw [push_m,if_neg (by have := (hc y ob e).1; omega)]; exact e) hne,n2,c2⟩
 rw [ubs_app,List.length_append]; exact l2
def digs : List UInt8 := [48,49,50,51,52,53,54,55,56,57,97,98,99,100,101,102]
end Go.Proofs.YtdnmkenamgfjoaaGreat.lin1
