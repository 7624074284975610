/-
 Contracts.
-/
import Derived.Test.YtdnmkenamgfjoaaGreatArbb
import Derived.RangeFuncBox
import Derived.RangeFuncLeaves
import Derived.Shelf.Abstract
import Derived.WalkKit
import Derived.OwnWalkIn
import Derived.TacticsInMore
import Derived.LoopNIn
import Derived.LoopIn
import Derived.Maps.AppendAt
import Derived.Shelf.Strings.Repeat
import Derived.Shelf.Sort.Plain
import Derived.Shelf.Slices.In.SortNone
import Derived.IntWalk
import Derived.KernelRfl
set_option linter.unusedSimpArgs false
set_option linter.unusedVariables false
set_option linter.unusedSectionVars false
namespace Go.Proofs.YtdnmkenamgfjoaaGreat.arbc
open Go Go.Ab Go.Proofs Go.RowKit str vers lin1 sha arba arbb
variable [Inhabited TabBox]
variable [Nonempty GF]
variable [Nonempty GE]
set_option maxRecDepth 100000
section
open Go.Shelf
attribute [local go_sem] Oper.semAt_some
def upto {α : Type} (f : Nat → α) (k : Nat) : List α := (List.range k).map f
theorem upto_succ {α : Type} (f : Nat → α) (k : Nat) : upto f (k + 1) = upto f k ++ [f k] := by simp [upto,List.range_succ]
theorem upto_length {α : Type} (f : Nat → α) (k : Nat) : (upto f k).length = k := by simp [upto]
theorem upto_all (zs : List Int) : upto (fun j => zs[j]?.getD 0) zs.length = zs := by
 apply List.ext_getElem
 ·simp [upto]
 ·intro i h1 h2
  simp [upto,h2]
theorem upto_take (zs : List Int) {k : Nat} (hk : k ≤ zs.length) : upto (fun j => zs[j]?.getD 0) k = zs.take k := by
 apply List.ext_getElem
 ·simp [upto,hk]
 ·intro i h1 h2
  have : i < zs.length := by simp [upto] at h1; omega
  simp [upto,this]
set_option maxRecDepth 100000 in
set_option maxHeartbeats 2000000 in
theorem values1_in (F : Fence) (n : Nat) (h7 : F.fn 190) (hro : F.round = none) (hn : 1 ≤ n) (l Bs dl n₀ b off len cap : Nat) (zs : List Int) (hreach : len * 8 ≤ 140737488351232) (hb : b < n₀) (J Jx : List Int → World → Prop)
  (hY : ∀ pre x W,J pre W → pre.length < len → YieldAt F (n - 1) Tryz.prog l #[.int .i64 x] W fun e W' =>
   (e = .returned (.bool true) ∧ J (pre ++ [x]) W' ∧ Below n₀ W W') ∨ (e = .returned (.bool false) ∧ Jx (pre ++ [x]) W'))
  (W : World) (hBs : W.cell? ⟨Bs,dl,none⟩ = some (.slice (some ⟨b,off,none⟩) len cap)) (hc : ∀ j,j < len → W.cell? ⟨b,off + j,none⟩ = some (.int .i64 (zs[j]?.getD 0))) (h0 : J [] W) :
  CallsIn F n Tryz.prog 190 #[.func (.yield l) #[] #[],.pointer (some ⟨Bs,dl,none⟩)] W fun e W' => (∃ v,e = .returned v) ∧
   ((∃ ys,ys = upto (fun j => zs[j]?.getD 0) len ∧ J ys W') ∨ (∃ pre,(∃ k,k ≤ len ∧ pre = upto (fun j => zs[j]?.getD 0) k) ∧ Jx pre W')) := by
 refine callsIn_of_wp Tryz.func190 rfl h7 ?_ hro
 simp only [Tryz.ntmps190,List.size_toArray,List.length_cons,List.length_nil,Nat.reduceAdd,Nat.reduceSub,Array.replicate_succ,Array.replicate_zero,List.push_toArray,List.append_toArray,List.nil_append,List.cons_append]
 gi_wp2
 gi_loopw [7] (fun i wr => ∃ k : Nat,k ≤ len ∧ i = .int .i64 k ∧ J (upto (fun j => zs[j]?.getD 0) k) wr ∧ Below n₀ W wr)
  (fun i _ => len - (intOf i).toNat)
 case atStart => exact ⟨0,Nat.zero_le _,rfl,h0,Below.refl _ _⟩
 case round =>
  obtain ⟨k,hk,rfl,hJs,hnx⟩ := hrel
  have hcx : k < len → wr.cell? ⟨b,off + k,none⟩ = some (.int .i64 (zs[k]?.getD 0)) := fun h => (hnx.cell (p := ⟨b,off + k,none⟩) hb).trans (hc k h)
  by_cases hlt : k < len
  ·obtain ⟨fn,tmps,assign,body,hy,hR⟩ := hY _ (zs[k]?.getD 0) wr hJs (by rw [upto_length]; exact hlt)
   have hcx' := hcx hlt
   gi_wp2
   refine hR.mono ?_
   rintro e W3 (⟨rfl,hJ3,hk3⟩ | ⟨rfl,hJx3⟩)
   ·gi_wp2
    go_roundw
    case rel => exact ⟨k + 1,by omega,by simp,by rw [upto_succ]; exact hJ3,hnx.trans hk3⟩
    case measure => simp [intOf]; omega
   ·gi_wp2
    refine bodyPost_ret (results_none rfl _ _ _) rfl ?_
    exact ⟨⟨_,rfl⟩,.inr ⟨_,⟨k + 1,by omega,(upto_succ _ _).symm⟩,hJx3⟩⟩
  ·obtain rfl : k = len := by omega
   gi_wp2
   go_end0
   exact ⟨⟨_,rfl⟩,.inl ⟨_,rfl,hJs⟩⟩
set_option maxRecDepth 100000 in
set_option maxHeartbeats 1000000 in
theorem values1_nil_in (F : Fence) (n : Nat) (h7 : F.fn 190) (hro : F.round = none) (l Bs dl cap : Nat) (p : Option Addr) (J : List Int → World → Prop) (W : World) (hBs : W.cell? ⟨Bs,dl,none⟩ = some (.slice p 0 cap)) (h0 : J [] W) :
  CallsIn F n Tryz.prog 190 #[.func (.yield l) #[] #[],.pointer (some ⟨Bs,dl,none⟩)] W fun e W' => (∃ v,e = .returned v) ∧ J [] W' := by
 refine callsIn_of_wp Tryz.func190 rfl h7 ?_ hro
 simp only [Tryz.ntmps190,List.size_toArray,List.length_cons,List.length_nil,Nat.reduceAdd,Nat.reduceSub,Array.replicate_succ,Array.replicate_zero,List.push_toArray,List.append_toArray,List.nil_append,List.cons_append]
 gi_wp2
 gi_loopw [7] (fun i wr => i = .int .i64 0 ∧ J [] wr) (fun _ _ => 0)
 case atStart => exact ⟨rfl,h0⟩
 case round =>
  obtain ⟨rfl,hJs⟩ := hrel
  gi_wp2
  go_end0
  exact ⟨⟨_,rfl⟩,hJs⟩
def IntsW (n₀ : Nat) (W : World) (u : Value) (zs : List Int) : Prop :=
 (∃ p cap,u = .slice p 0 cap ∧ zs = []) ∨ ∃ b off cap,u = .slice (some ⟨b,off,none⟩) zs.length cap ∧ b < n₀ ∧ ∀ j,j < zs.length → W.cell? ⟨b,off + j,none⟩ = some (.int .i64 (zs[j]?.getD 0))
theorem IntsW.below {n₀ : Nat} {A B : World} (h : Below n₀ A B) {u : Value} {zs : List Int} : IntsW n₀ A u zs → IntsW n₀ B u zs
 | .inl e => .inl e
 | .inr ⟨b,off,cap,e,hb,hc⟩ => .inr ⟨b,off,cap,e,hb,fun j hj => (h.cell (p := ⟨b,off + j,none⟩) hb).trans (hc j hj)⟩
theorem values_stops (F : Fence) (n : Nat) (h7 : F.fn 190) (hro : F.round = none) (hn : 1 ≤ n) (Bs dl n₀ : Nat) (u : Value) (zs : List Int) (hreach : zs.length * 8 ≤ 140737488351232) (w : World) (hBs : Bs < w.heap.size) (hn₀ : n₀ ≤ w.heap.size)
  (hc : w.cell? ⟨Bs,dl,none⟩ = some u) (hI : IntsW n₀ w u zs) :
  SeqStopsK F n Tryz.prog 190 #[.pointer (some ⟨Bs,dl,none⟩)] (fun x : Int => #[Value.int .i64 x]) (Below n₀) (fun ys => ys = zs) (fun pre => pre <+: zs) zs.length w := fun l J Jx W hW _ _ hY h0 => by
 have hc' := (hW.cell (p := ⟨Bs,dl,none⟩) hBs).trans hc
 rcases hI.below (hW.mono hn₀) with ⟨p,cap,rfl,rfl⟩ | ⟨b,off,cap,rfl,hb,hcs⟩
 ·exact (values1_nil_in F n h7 hro l Bs dl cap p J W hc' h0).mono fun e W' ⟨he,hj⟩ => ⟨he,.inl ⟨_,rfl,hj⟩⟩
 ·refine (values1_in F n h7 hro hn l Bs dl n₀ b off zs.length cap zs hreach hb J Jx hY W hc' hcs h0).mono ?_
  rintro e W' ⟨he,⟨ys,rfl,hj⟩ | ⟨pre,⟨k,hk,rfl⟩,hj⟩⟩
  ·exact ⟨he,.inl ⟨_,upto_all zs,hj⟩⟩
  ·exact ⟨he,.inr ⟨_,by rw [upto_take zs hk]; exact List.take_prefix _ _,hj⟩⟩
theorem infoInt : (Tryz.prog.info? 3).map (fun i => (i.zero,i.size,i.bytes)) = some (some (.int .i64 0),1,8) := by kernel_rfl
set_option maxRecDepth 100000 in
set_option maxHeartbeats 2000000 in
theorem appseq_in (F : Fence) (n : Nat) (h3 : F.fn 206) (h5 : F.fn 190) (hro : F.round = none) (hn : 3 ≤ n) (Bs dl : Nat) (u : Value) (zs : List Int) (hlen : zs.length ≤ maxLen) (hbytes : zs.length * 8 ≤ 140737488351232) (w : World)
  (hBs : Bs < w.heap.size) (hcB : w.cell? ⟨Bs,dl,none⟩ = some u) (hI : IntsW w.heap.size w u zs) :
  CallsIn F n Tryz.prog 206 #[.slice none 0 0,.func (.func 190) #[] #[.pointer (some ⟨Bs,dl,none⟩)]] w fun e W' => ∃ v,e = .returned v ∧ W'.ownsRow w.heap.size 3 1 v zs.length (zs.map (Value.int .i64)) ∧ (v = .slice none 0 0 ↔ zs = []) ∧ Below w.heap.size w W' := by
 have h1 : 1 ≤ n := by omega
 obtain ⟨i0,hi,hz0,hz1,hz2⟩ := info_parts infoInt
 refine callsIn_of_wp_marks Tryz.func206 rfl h3 ?_ hro
 simp only [Tryz.ntmps206,List.size_toArray,List.length_cons,List.length_nil,Nat.reduceAdd,Nat.reduceSub,Array.replicate_succ,Array.replicate_zero,List.push_toArray,List.append_toArray,List.nil_append,List.cons_append]
 gi_wp2
 have bO := Boxed.new w 40 (.slice none 0 0)
 have hB0 : Below w.heap.size w (w.alloc (.cells #[.slice none 0 0] 40)) := (Below.refl _ w).alloc (Nat.le_refl _) _
 refine wpIn_rangeFunc_ownG hro h1 (gf := 190) (lb := #[.pointer (some ⟨Bs,dl,none⟩)]) rfl h5 (enters_of Tryz.func190 (by kernel_rfl) rfl)
  (values_stops F (n - 1) h5 hro (by omega) Bs dl w.heap.size u zs hbytes _ (by simp; omega) (by simp) ((hB0.cell (p := ⟨Bs,dl,none⟩) hBs).trans hcB) (hI.below hB0)) belowK_t (belowK_b (by simp)) (Below.refl _ _) (fun _ => rfl)
  (fun pre W => (∃ v,Boxed W w.heap.size 40 v ∧ W.ownsRow w.heap.size 3 1 v pre.length (pre.map (Value.int .i64)) ∧ (v = .slice none 0 0 ↔ pre = [])) ∧ Below w.heap.size w W)
  (fun _ _ _ => False)
  (OwnFrom.and (Own.from (holdsRow_own w.heap.size w.heap.size 40 3 1 (fun pre => pre.length) (fun pre => pre.map (Value.int .i64)) (fun pre v => v = .slice none 0 0 ↔ pre = [])) _) (ownFrom_below (Nat.le_refl _) (by simp)))
  (fun _ _ _ _ _ hs _ _ => hs)
  ⟨⟨_,bO,World.ownsRow_nil _ _ _ _,by simp⟩,hB0⟩
  (fun x => { tmps := #[.slice none 0 0,.func (.func 190) #[] #[.pointer (some ⟨Bs,dl,none⟩)],.pointer (some ⟨w.heap.size,0,none⟩),undef,.slice none 0 0,.int .i64 x,.func (.func 190) #[] #[.pointer (some ⟨Bs,dl,none⟩)],.int .i64 x,undef,undef,undef,undef,undef],defers := [] }) ?assign ?body ?done ?stop
 case assign =>
  intro l x W K hK
  gi_wp2
  exact hK
 case body =>
  rintro l pre x W ⟨⟨v,hv,hrow,hnil⟩,hB⟩ hlt
  have hc := hv.cell
  gi_wp2_with (gi_at_builtin; refine wpListIn_append_own _ rfl _ _ 40 rfl w.heap.size 3 i0 (.int .i64 0) 1 8 Tryz.underlying40 hi hz0 hz1 hz2 rfl (by decide) _ _ _ rfl (hrow.alloc _) ⟨W.heap.size, 0, none⟩ 1 1 [.int .i64 x] rfl rfl (cell_one_new _ _ _) (by simp [Value.oneCell']) (by omega) (by omega) (by have := hB.size; simp; omega) ?_; intro v' w1 hown' hgrow _; obtain ⟨g', cap', rfl⟩ := ownsRow_succ hown'; obtain ⟨hv1, hv2, hr2, hk2, hb2⟩ := hv.appended (by decide) hrow hB.size (Nat.le_refl _) hown' hgrow; have hc1 := hv1.cell; have hf1 := hv1.frozen)
  exact ⟨hk2.from _,hb2,⟨_,hv2,by simpa using hr2,by simp⟩,hB.trans hb2⟩
 case done =>
  rintro D ys W hD rfl ⟨⟨v,hv,hrow,hnil⟩,hB⟩ hK
  have hc := hv.cell
  gi_wp2
  refine ⟨by simp,.inl ⟨_,_,rfl,run_takeDeferred hK,?_⟩⟩
  exact ⟨_,results_tmp rfl _ _ _,v,rfl,ownsRow_putObj hrow _ hK rfl,hnil,hB.trans (belowK_b (w := w) (Nat.le_refl _) W D _ _ (by simp at hD; omega) hK rfl rfl)⟩
 case stop =>
  rintro D c pre W _ _ h _
  exact h.elim
end
theorem HRel.under {B : Nat} {μ : Mu} {h : Heap} {w w' : World} (r : HRel B μ h w) (b : Below w.heap.size w w') : HRel B μ h w' where
 base := Nat.le_trans r.base b.size
 dom := fun x mi e => ⟨(r.dom x mi e).1,Nat.lt_of_lt_of_le (r.dom x mi e).2 b.size⟩
 obj := fun x o e => by
  obtain ⟨mi,hm,ro⟩ := r.obj x o e
  exact ⟨mi,hm,by rw [b.block _ (r.dom x mi hm).2]; exact ro⟩
 own := r.own
 glob := r.glob.keep fun k hk => b.block k (Nat.lt_of_lt_of_le hk r.base)
theorem HRel.add {B : Nat} {μ : Mu} {h : Heap} {w w' : World} (s : HRel B μ h w) (hb : Below w.heap.size w w') {o : AObj} {obj : Obj} {mi : MI} (hge : w.heap.size ≤ mi.cb) (hg : w'.heap[mi.cb]? = some obj)
  (ho : ORel (μ.ext h.n mi) mi o (some obj)) : HRel B (μ.ext h.n mi) (h.push o) w' where
 base := Nat.le_trans s.base hb.size
 dom := fun b m e => by
  have hlt := (Array.getElem?_eq_some_iff.1 hg).1
  show b < h.n + 1 ∧ _
  by_cases hbn : b = h.n
  ·subst hbn; rw [Mu.ext_same] at e; cases e; exact ⟨Nat.lt_succ_self _,hlt⟩
  ·rw [Mu.ext_other _ _ hbn] at e; have := s.dom b m e; have := hb.size; omega
 obj := fun b o' e => by
  by_cases hbn : b = h.n
  ·subst hbn
   simp only [Heap.push,if_true] at e
   cases e
   exact ⟨mi,Mu.ext_same _ _ _,by rw [hg]; exact ho⟩
  ·simp only [Heap.push,if_neg hbn] at e
   obtain ⟨m,hm,r⟩ := s.obj b o' e
   have hlt := (s.dom b m hm).2
   refine ⟨m,(Mu.ext_other _ _ hbn).trans hm,?_⟩
   rw [hb.block _ hlt]
   exact r.mono (n := h.n) (fun b hb => Mu.ext_other _ _ (by omega)) (s.closed b o' e).2
 own := fun b o' m e hm hrw => by
  by_cases hbn : b = h.n
  ·subst hbn
   rw [Mu.ext_same] at hm; cases hm
   refine ⟨Nat.le_trans s.base hge,fun b2 o2 m2 e2 hm2 hcb => ?_⟩
   by_cases hb2 : b2 = h.n
   ·exact hb2
   ·rw [Mu.ext_other _ _ hb2] at hm2
    have := (s.dom b2 m2 hm2).2; omega
  ·simp only [Heap.push,if_neg hbn] at e
   rw [Mu.ext_other _ _ hbn] at hm
   obtain ⟨h1,h2⟩ := s.own b o' m e hm hrw
   refine ⟨h1,fun b2 o2 m2 e2 hm2 hcb => ?_⟩
   by_cases hb2 : b2 = h.n
   ·subst hb2
    rw [Mu.ext_same] at hm2; cases hm2
    have := (s.dom b m hm).2; omega
   ·simp only [Heap.push,if_neg hb2] at e2
    rw [Mu.ext_other _ _ hb2] at hm2
    exact h2 b2 o2 m2 e2 hm2 hcb
 glob := s.glob.keep fun k hk => hb.block k (Nat.lt_of_lt_of_le hk s.base)
def NewI (h H : Heap) (v : Value) (l : List Nat) : Prop := ∃ nm,LAt H 1 nm v l.length (l.map ei) ∧ (∀ x,nm = some x → h.n ≤ x) ∧ Gr h H
theorem cell_of_rel {B : Nat} {μ : Mu} {h : Heap} {w : World} (rel : HRel B μ h w) {b : Nat} {c : List Value} {m : BMode} {e : Nat} (hc : h.cellsOf b = some (c,m,e)) :
  ∃ mi,μ b = some mi ∧ mi.cb < w.heap.size ∧ ∀ i (hi : i < c.length),∃ u,w.cell? ⟨mi.cb,mi.dl + i,none⟩ = some u ∧ VRel μ c[i] u := by
 obtain ⟨mi,hm,ro⟩ := rel.obj b _ (m_of_cells hc)
 obtain ⟨cc,ty,fz,hw,⟨hle,hr,_⟩,_⟩ := ro
 refine ⟨mi,hm,(rel.dom b mi hm).2,fun i hi => ?_⟩
 have hlt : mi.dl + i < cc.size := by omega
 have q := hr i hi
 have e1 : c.getD i unk = c[i] := by simp [List.getD,hi]
 have e2 : cc.getD (mi.dl + i) unk = cc[mi.dl + i] := by simp [Array.getD,hlt]
 rw [e1,e2] at q
 exact ⟨cc[mi.dl + i],by simp [World.cell?,hw,hlt],q⟩
theorem ints_of_sl {B : Nat} {μ : Mu} {h : Heap} {w : World} (rel : HRel B μ h w) {v u : Value} {l : List Nat} (hl : Sl ei h v l) (hv : VRel μ v u) : IntsW w.heap.size w u (l.map fun n : Nat => (n : Int)) := by
 rcases hl with ⟨c,rfl,rfl⟩ | ⟨b,o,cap,c,m,e,rfl,hcb,hle,hin,hat⟩
 ·cases hv
  exact .inl ⟨none,c,rfl,rfl⟩
 ·obtain ⟨mi,hm,hlt,hcells⟩ := cell_of_rel rel hcb
  by_cases h0 : l = []
  ·subst h0
   generalize hq : (Value.slice (some ⟨b,o,none⟩) ([] : List Nat).length cap) = q at hv
   cases hv <;> first | (cases hq; exact .inl ⟨_,_,rfl,rfl⟩) | cases hq
  ·have hpos : 0 < l.length := List.length_pos_iff.2 h0
   generalize hq : (Value.slice (some ⟨b,o,none⟩) l.length cap) = q at hv
   cases hv with
   | slice hm2 hc2 =>
     cases hq
     rw [hm] at hm2; cases hm2
     refine .inr ⟨mi.cb,mi.dl + o,_,by rw [List.length_map],hlt,fun j hj => ?_⟩
     rw [List.length_map] at hj
     have hoj : o + j < c.length := by have := hin hpos; omega
     obtain ⟨u,hu,hr⟩ := hcells (o + j) hoj
     have hce : c[o + j] = ei l[j] := by
      have := hat j hj
      rw [List.getElem?_eq_getElem hoj] at this
      exact Option.some.inj this
     rw [hce] at hr
     have hz : ((l.map fun n : Nat => (n : Int))[j]?.getD 0) = ((l[j] : Nat) : Int) := by simp [hj]
     rw [hz,Nat.add_assoc,hu]
     generalize hq : ei l[j] = q at hr
     cases hr <;> first | (cases hq; rfl) | cases hq
   | sempty => simp at hq; omega
   | _ => cases hq
theorem appseq_ok (bx : Nat) (l : List Nat) (v : Value) (m : BMode) (e : Nat) (h : Heap) (hbx : h.cellsOf bx = some ([v],m,e)) (hl : Sl ei h v l) (hn : l.length ≤ 1000000) :
  ACalls Tryz.prog 206 [.slice none 0 0,.func (.func 190) #[] #[.pointer (some ⟨bx,0,none⟩)]] h fun r h' => NewI h h' r l := by
 intro B μ w args' rel la
 have hcl := rel.closed
 obtain ⟨hsz,hat⟩ := la
 have h0 := hat 0 (by simp)
 have h1 := hat 1 (by simp)
 obtain ⟨mi,hm,hlt,hcells⟩ := cell_of_rel rel hbx
 obtain ⟨u,hu,hr⟩ := hcells 0 (by simp)
 have hargs : args' = #[.slice none 0 0,.func (.func 190) #[] #[.pointer (some ⟨mi.cb,mi.dl + 0,none⟩)]] := by
  have e0 : args'.getD 0 unk = .slice none 0 0 := by
   have q : VRel μ (.slice none 0 0) (args'.getD 0 unk) := h0
   generalize args'.getD 0 unk = X at q
   cases q; rfl
  have e1 : args'.getD 1 unk = .func (.func 190) #[] #[.pointer (some ⟨mi.cb,mi.dl + 0,none⟩)] := by
   have q : VRel μ (.func (.func 190) #[] #[.pointer (some ⟨bx,0,none⟩)]) (args'.getD 1 unk) := h1
   generalize args'.getD 1 unk = X at q
   cases q with
   | func a b c d =>
     rename_i f' c'
     have hf : f' = #[] := Array.eq_empty_of_size_eq_zero a.symm
     subst hf
     have q2 : VRel μ (.pointer (some ⟨bx,0,none⟩)) (c'.getD 0 unk) := d 0 (by simp)
     have hc1 : c'.size = 1 := c.symm
     have e2 : c'.getD 0 unk = .pointer (some ⟨mi.cb,mi.dl + 0,none⟩) := by
      generalize c'.getD 0 unk = Y at q2
      cases q2 with
      | ptr hm2 => rw [hm] at hm2; cases hm2; rfl
     have hc2 : c' = #[.pointer (some ⟨mi.cb,mi.dl + 0,none⟩)] := by
      apply Array.ext
      ·simp [hc1]
      ·intro i hi1 hi2
       match i,hi1 with
       | 0,hi1 => simpa [Array.getD,hi1] using e2
       | i + 1,hi1 => omega
     rw [hc2]
  have hs2 : args'.size = 2 := by simpa using hsz.symm
  apply Array.ext
  ·simp [hs2]
  ·intro i hi1 hi2
   match i,hi1 with
   | 0,hi1 => simpa [Array.getD,hi1] using e0
   | 1,hi1 => simpa [Array.getD,hi1] using e1
   | i + 2,hi1 => omega
 rw [hargs]
 have hI := ints_of_sl rel hl hr
 have key := (callsIn_wide (n := 3)).1 (appseq_in Fence.wide 3 trivial trivial rfl (by omega) mi.cb (mi.dl + 0) u (l.map fun n : Nat => (n : Int)) (by rw [List.length_map]; exact Nat.le_trans hn (by decide)) (by rw [List.length_map]; omega) w hlt hu hI)
 refine Calls.mono key ?_
 rintro e' w' ⟨v', rfl, hrow, hnil, hbel⟩
 rw [List.length_map] at hrow
 by_cases h0 : l = []
 ·subst h0
  obtain rfl := hnil.2 rfl
  exact ⟨.slice none 0 0,.slice none 0 0,h,μ,rfl,.snil,HRel.under rel hbel,hbel.mono rel.base,fun _ _ => rfl,Nat.le_refl _,none,.inl ⟨rfl,rfl,rfl,rfl⟩,fun _ q => (by cases q),⟨Nat.le_refl _,hcl,fun _ _ q => q⟩⟩
 ·have hpos : 0 < l.length := List.length_pos_iff.2 h0
  rcases hrow.2 with ⟨_,hz⟩ | ⟨g,cap,cur,rfl,hbase,hgb,r1,r2,r3,r4⟩
  ·omega
  ·have hcu : ∀ i (hi : i < l.length),cur.getD i unk = ei l[i] := fun i hi => by
    have hic : i < cur.size := by omega
    have q : (cur.toList.take (l.length * 1))[i]? = some (Value.int .i64 (l[i] : Int)) := by rw [r4]; simp [hi]
    rw [List.getElem?_take,if_pos (by omega)] at q
    have q2 : cur[i]? = some (Value.int .i64 (l[i] : Int)) := by simpa using q
    simp [Array.getD,hic]
    rw [Array.getElem?_eq_getElem hic] at q2
    exact Option.some.inj q2
   have hgl : ∀ i (hi : i < l.length),(l.map ei).getD i unk = ei l[i] := fun i hi => by simp [List.getD,hi]
   have hn1 := HRel.add rel (mi := ⟨g,0,l.length,cur.size,1,true⟩) (o := .cells (l.map ei) (.loose 3) 1) hbel hbase hgb
    ⟨cur,3,(0,0),rfl,⟨by show 0 + (l.map ei).length ≤ cur.size; rw [List.length_map]; omega,fun i hi => by rw [List.length_map] at hi; rw [hgl i hi,Nat.zero_add,hcu i hi]; exact .int,fun i hi => by rw [List.length_map] at hi; rw [Nat.zero_add,hcu i hi]; rfl,
     by rw [List.length_map],rfl,fun _ i hi q => q.2 rfl,by simp [BMode.isLoose],rfl⟩,.inr rfl⟩
   have hcP : (h.push (.cells (l.map ei) (.loose 3) 1)).Closed := hn1.closed
   refine ⟨.slice (some ⟨h.n,0,none⟩) l.length l.length,_,_,_,rfl,?_,hn1,hbel.mono rel.base,fun b hb => Mu.ext_other _ _ (by omega),Nat.le_succ _,some h.n,.inr ⟨h.n,.loose 3,1,rfl,rfl,cellsOf_new _ _ _ _,by rw [List.length_map,Nat.mul_one],by simp,fun _ => rfl⟩,fun x q => by cases q; exact Nat.le_refl _,⟨Nat.le_succ _,hcP,keep_push hcl _⟩⟩
   exact VRel.slice (Mu.ext_same μ h.n (⟨g,0,l.length,cur.size,1,true⟩ : MI)) (.inr ⟨rfl,by show 0 + l.length * 1 = l.length; omega,r1,by show 0 + 0 + cap * 1 ≤ cur.size; omega⟩)
open Go.Shelf in
def rhoR : Ren := ⟨fun n => if n = 99 then 121 else if n = 105 then 92 else if n = 165 then 122 else if n = 166 then 123 else if n = 169 then 103 else if n = 170 then 124 else if n = 206 then 151 else if n = 212 then 120 else if n = 240 then 134 else if n = 241 then 152 else if n = 263 then 149 else if n = 264 then 150 else if n = 276 then 159 else 181,
 fun n => if n = 0 then 0 else if n = 3 then 3 else if n = 4 then 4 else if n = 5 then 5 else if n = 9 then 9 else if n = 20 then 20 else if n = 37 then 102 else if n = 46 then 198 else if n = 51 then 222 else if n = 53 then 255 else if n = 70 then 181 else if n = 72 then 183 else if n = 75 then 185 else if n = 76 then 186 else if n = 80 then 188 else if n = 109 then 209 else if n = 127 then 238 else if n = 146 then 253 else if n = 148 then 256 else 266,fun n => 0⟩
open Go.Shelf in
theorem lays105 : Lays.n105 Tryz.prog rhoR where
 mixed := mix
 f99 := by kernel_rfl
 f105 := by kernel_rfl
 f165 := by kernel_rfl
 f166 := by kernel_rfl
 f169 := by kernel_rfl
 f170 := by kernel_rfl
 f206 := by kernel_rfl
 f212 := by kernel_rfl
 f240 := by kernel_rfl
 f241 := by kernel_rfl
 f263 := by kernel_rfl
 f264 := by kernel_rfl
 f276 := by kernel_rfl
 f277 := by kernel_rfl
 t0 := by kernel_rfl
 a0 := fun w => by kernel_rfl
 z0 := fun w => by kernel_rfl
 v0 := fun w => by kernel_rfl
 t3 := by kernel_rfl
 a3 := fun w => by kernel_rfl
 z3 := fun w => by kernel_rfl
 v3 := fun w => by kernel_rfl
 t4 := by kernel_rfl
 a4 := fun w => by kernel_rfl
 z4 := fun w => by kernel_rfl
 v4 := fun w => by kernel_rfl
 t5 := by kernel_rfl
 a5 := fun w => by kernel_rfl
 z5 := fun w => by kernel_rfl
 v5 := fun w => by kernel_rfl
 t9 := by kernel_rfl
 a9 := fun w => by kernel_rfl
 z9 := fun w => by kernel_rfl
 v9 := fun w => by kernel_rfl
 t20 := by kernel_rfl
 a20 := fun w => by kernel_rfl
 z20 := fun w => by kernel_rfl
 v20 := fun w => by kernel_rfl
 t37 := by kernel_rfl
 a37 := fun w => by kernel_rfl
 z37 := fun w => by kernel_rfl
 v37 := fun w => by kernel_rfl
 t46 := by kernel_rfl
 a46 := fun w => by kernel_rfl
 z46 := fun w => by kernel_rfl
 v46 := fun w => by kernel_rfl
 t51 := by kernel_rfl
 a51 := fun w => by kernel_rfl
 z51 := fun w => by kernel_rfl
 v51 := fun w => by kernel_rfl
 t53 := by kernel_rfl
 a53 := fun w => by kernel_rfl
 z53 := fun w => by kernel_rfl
 v53 := fun w => by kernel_rfl
 t70 := by kernel_rfl
 a70 := fun w => by kernel_rfl
 z70 := fun w => by kernel_rfl
 v70 := fun w => by kernel_rfl
 t72 := by kernel_rfl
 a72 := fun w => by kernel_rfl
 z72 := fun w => by kernel_rfl
 v72 := fun w => by kernel_rfl
 t75 := by kernel_rfl
 a75 := fun w => by kernel_rfl
 z75 := fun w => by kernel_rfl
 v75 := fun w => by kernel_rfl
 t76 := by kernel_rfl
 a76 := fun w => by kernel_rfl
 z76 := fun w => by kernel_rfl
 v76 := fun w => by kernel_rfl
 t109 := by kernel_rfl
 a109 := fun w => by kernel_rfl
 z109 := fun w => by kernel_rfl
 v109 := fun w => by kernel_rfl
 t127 := by kernel_rfl
 a127 := fun w => by kernel_rfl
 z127 := fun w => by kernel_rfl
 v127 := fun w => by kernel_rfl
 t146 := by kernel_rfl
 a146 := fun w => by kernel_rfl
 z146 := fun w => by kernel_rfl
 v146 := fun w => by kernel_rfl
 t148 := by kernel_rfl
 a148 := fun w => by kernel_rfl
 z148 := fun w => by kernel_rfl
 v148 := fun w => by kernel_rfl
 t164 := by kernel_rfl
 a164 := fun w => by kernel_rfl
 z164 := fun w => by kernel_rfl
 v164 := fun w => by kernel_rfl
open Go.Shelf in
theorem extraR : Builder.Extra Tryz.prog rhoR where
 sizeBuilder := by kernel_rfl
 liesBuilder := by kernel_rfl
 t5 := by kernel_rfl
 a5 := fun w => by kernel_rfl
 z5 := fun w => by kernel_rfl
 v5 := fun w => by kernel_rfl
 infoByte := by kernel_rfl
 cellsByte := by kernel_rfl
 sizeByte := by kernel_rfl
 neB5 := by decide
theorem repeat_ok (s : List UInt8) (c : Nat) (hc : s.length * c ≤ 140737488355328) (hc2 : c ≤ 9223372036854775807) (h : Heap) : ACalls Tryz.prog 92 [.string (bs s),.int .i64 (c : Int)] h fun v h' => v = .string (bs (Lib.repeatL s c)) ∧ h' = h := by
 intro B μ w args' rel la
 obtain ⟨hsz,hat⟩ := la
 have h0 := hat 0 (by simp)
 have h1 := hat 1 (by simp)
 have hargs : args' = #[.string (bs s),.int .i64 (c : Int)] := by
  have e0 : args'.getD 0 unk = .string (bs s) := by
   have q : VRel μ (.string (bs s)) (args'.getD 0 unk) := h0
   generalize args'.getD 0 unk = X at q
   cases q; rfl
  have e1 : args'.getD 1 unk = .int .i64 (c : Int) := by
   have q : VRel μ (.int .i64 (c : Int)) (args'.getD 1 unk) := h1
   generalize args'.getD 1 unk = X at q
   cases q; rfl
  have hs2 : args'.size = 2 := by simpa using hsz.symm
  apply Array.ext
  ·simp [hs2]
  ·intro i hi1 hi2
   match i,hi1 with
   | 0,hi1 => simpa [Array.getD,hi1] using e0
   | 1,hi1 => simpa [Array.getD,hi1] using e1
   | i + 2,hi1 => omega
 rw [hargs]
 have key := Any.strings_Repeat lays105 extraR (bs s) c w hc2 (by rw [bs_size]; exact hc)
 rw [bs_data] at key
 refine Calls.mono key fun e' w' ⟨he, hw'⟩ => ⟨.string (bs (Lib.repeatL s c)), .string (bs (Lib.repeatL s c)), h, μ, he, .string, HRel.under rel hw', hw'.mono rel.base, fun _ _ => rfl, Nat.le_refl _, rfl, rfl⟩
def c57 : AC := sO [oP 2 (.mv (.const (.pointer none))),oP 3 (.mv (kI 0))] (.seq (sO [mV 5 0,oP 6 (bK .lss 5 1),mV 7 6,gP 8 7 false (.mv (tP 0)),gP 9 7 false (bK .gtr 8 512),oP 10 (pT 7 9)] (cT 10 (sO [oP 2 (.mv (.const (.pointer none))),oP 3 (.mv (kI 1))] .ret) .skip)) (sO [mV 11 0,oP 12 (bK .mul 11 64),oP 13 (.call 92 [.const (.string ⟨⟨[255]⟩⟩),tP 12]),oP 14 (.toBytes 5 (tP 13)),mV 4 14] (.seq (.drawT [oP 15 (.build [.int .i64 0,.int .u8 0,.int .i64 0] [(2,1,.const (.int .i64 (-1)))]),mV 16 4,mV 17 0,mV 19 0] (DT.br (oP 18 (.mkSl [.bool false] 1 (tP 17) (tP 17))) [] [] (DT.br (oP 20 (.mkSl [.int .i64 0] 8 (tP 19) (tP 19))) [] [oP 21 (.build [.int .i64 0,.int .u8 0,.int .i64 0,.slice none 0 0,.slice none 0 0,.slice none 0 0,.bool false,.int .i64 0] [(0,3,.tmp 15),(3,1,.tmp 16),(4,1,.tmp 18),(5,1,.tmp 20)])] (DT.br (oP 22 (.box (tP 21))) [] [mV 2 22,oP 3 (.mv (kI 0))] DT.nil DT.nil) DT.nil) (DT.br (oP 20 (.mkSl [.int .i64 0] 8 (tP 19) (tP 19))) [] [] (DT.br (oP 18 (.mkSl [.bool false] 1 (tP 17) (tP 17))) [] [oP 21 (.build [.int .i64 0,.int .u8 0,.int .i64 0,.slice none 0 0,.slice none 0 0,.slice none 0 0,.bool false,.int .i64 0] [(0,3,.tmp 15),(3,1,.tmp 16),(4,1,.tmp 18),(5,1,.tmp 20)])] (DT.br (oP 22 (.box (tP 21))) [] [mV 2 22,oP 3 (.mv (kI 0))] DT.nil DT.nil) DT.nil) DT.nil))) .ret)))
theorem k57 : compF Tryz.prog Tryz.f57 = some (c57,[2,3]) := by kernel_rfl
theorem n57 : Tryz.f57.ntmps = 23 := by kernel_rfl
def c72 : AC := sO [oP 6 (.mv (.const (.string ⟨⟨[]⟩⟩))),oP 7 (.mv (kI 0))] (.seq (sO [mV 9 0,mV 10 1,mV 11 2,oP 12 (.call 85 [tP 9,tP 10,tP 11]),mV 8 12] (sO [mV 13 8,oP 14 (bK .neq 13 0)] (cT 14 (sO [mV 15 8,oP 6 (.mv (.const (.string ⟨⟨[]⟩⟩))),mV 7 15] .ret) .skip))) (sO [mV 16 0,oP 17 (nC 16),oP 18 (fA 7 17),oP 19 (lN 18),oP 20 (bK .add 19 1),oP 21 (nC 16),oP 22 (fA 7 21),nP (.store 1 (tP 22) (tP 20))] (sO [mV 23 0,oP 24 (nC 23),oP 25 (fA 3 24),oP 26 (lN 25),mV 27 1,mV 28 1,mV 29 2,oP 30 (bT .add 28 29),oP 31 (.slV 1 (tP 26) (some (tP 27)) (some (tP 30)) none),oP 32 (.toStr (tP 31)),mV 6 32,oP 7 (.mv (kI 0))] .ret)))
theorem k72 : compF Tryz.prog Tryz.f72 = some (c72,[6,7]) := by kernel_rfl
theorem n72 : Tryz.f72.ntmps = 33 := by kernel_rfl
def c46_0 : AC := sO [oP 58 (bT .lss 57 56)] (.seq (cT 58 .skip (.exit 0)) (.seq (.block 1 (sO [mV 59 57,mV 10 59] (.ops [mV 60 7,mV 61 10,oP 62 (iA 1 60 61),nP (.store 1 (tP 62) (.const (.int .u8 255)))]))) (.ops [oP 63 (bK .add 57 1),mV 57 63])))
def c46 : AC := sO [oP 4 (.mv (kI 0))] (sO [oP 5 (.mv (kI 0))] (.seq (sO [mV 11 1,oP 12 (bK .lss 11 0),mV 13 12,gP 14 13 false (.mv (tP 1)),gP 15 13 false (bK .geq 14 512),oP 16 (pT 13 15)] (cT 16 (.ops [oP 5 (.mv (.const (.int .i64 (-1))))]) (.ops [mV 17 1,oP 18 (bK .mul 17 64),mV 5 18]))) (.seq (sO [mV 19 0,mV 20 5,oP 21 (.call 85 [tP 19,tP 20,.const (.int .i64 64)]),mV 6 21] (sO [mV 22 6,oP 23 (bK .neq 22 0)] (cT 23 (sO [mV 24 6,mV 4 24] .ret) .skip))) (.seq (sO [mV 25 0,oP 26 (nC 25),oP 27 (fA 4 26),oP 28 (lN 27),mV 29 1,oP 30 (iA 1 28 29),oP 31 (lN 30)] (cT 31 (sO [oP 4 (.mv (kI 4))] .ret) .skip)) (sO [mV 32 0,oP 33 (nC 32),oP 34 (fA 3 33),oP 35 (lN 34),mV 36 5,mV 37 5,oP 38 (bK .add 37 64),oP 39 (.slV 1 (tP 35) (some (tP 36)) (some (tP 38)) none),mV 7 39] (sO [mV 40 0,oP 41 (nC 40),oP 42 (fA 5 41),oP 43 (lN 42),mV 44 1,oP 45 (iA 1 43 44),oP 46 (lN 45),oP 47 (bK .add 46 1),oP 48 (iA 1 43 44),nP (.store 1 (tP 48) (tP 47))] (sO [mV 50 0,mV 51 7,oP 52 (lS 51),oP 53 (.call 86 [tP 50,tP 52]),mV 49 53,oP 54 (xR 49 0),oP 55 (xR 49 1),mV 8 54,mV 9 55] (.seq (sO [mV 56 8,oP 57 (.mv (kI 0))] (.block 0 (.loop c46_0))) (.seq (sO [mV 64 9,oP 65 (.un .not (tP 64)),mV 66 65,gP 67 66 true (.mv (tP 8)),gP 68 66 true (.mv (tP 7)),gP 69 66 true (lS 68),gP 70 66 true (bT .lss 67 69),oP 71 (pF 66 70)] (cT 71 (.draw [([mV 72 7,mV 73 8,oP 74 (iA 1 72 73),oP 75 (lN 74),mV 76 0,oP 77 (nC 76),oP 78 (fA 0 77),oP 79 (fA 0 78),oP 80 (fA 1 79),oP 81 (lN 80),oP 82 (bT .or 75 81),oP 83 (iA 1 72 73)],[nP (.store 1 (tP 83) (tP 82))],[]),([],[],[])]) .skip)) (sO [mV 84 0,oP 85 (.call 87 [tP 84]),mV 4 85] .ret))))))))))
theorem k46 : compF Tryz.prog Tryz.f46 = some (c46,[4]) := by kernel_rfl
theorem n46 : Tryz.f46.ntmps = 86 := by kernel_rfl
def c109_1 : AC := sO [oP 60 (bT .lss 59 58)] (.seq (cT 60 .skip (.exit 1)) (.seq (.block 2 (sO [mV 61 59,mV 11 61] (.draw [([mV 62 8,mV 63 11,oP 64 (iA 1 62 63),oP 65 (lN 64),mV 66 2,mV 67 11,oP 68 (.iStr (tP 66) (tP 67)),oP 69 (bT .and 65 68),oP 70 (iA 1 62 63)],[nP (.store 1 (tP 70) (tP 69))],[]),([],[],[])]))) (.ops [oP 71 (bK .add 59 1),mV 59 71])))
def c109 : AC := sO [oP 6 (.mv (kI 0))] (.seq (.block 0 (sO [mV 13 0,oP 14 (.eqv false .ptr (tP 13) (.const (.pointer none))),mV 12 14] (cT 12 (sO [oP 6 (.mv (kI 1))] .ret) (sO [mV 16 0,oP 17 (nC 16),oP 18 (fA 6 17),oP 19 (lN 18),mV 15 19] (cT 15 (sO [oP 6 (.mv (kI 5))] .ret) (sO [mV 21 1,oP 22 (bK .rem 21 16),oP 23 (bK .neq 22 0),mV 24 23,gP 25 24 false (.mv (tP 2)),gP 26 24 false (.lenS true (tP 25)),gP 27 24 false (bK .neq 26 16),oP 28 (pT 24 27),mV 20 28] (cT 20 (sO [oP 6 (.mv (kI 3))] .ret) .skip))))))) (.seq (sO [mV 29 0,mV 30 1,oP 31 (.call 85 [tP 29,tP 30,.const (.int .i64 16)]),mV 7 31] (sO [mV 32 7,oP 33 (bK .neq 32 0)] (cT 33 (sO [mV 34 7,mV 6 34] .ret) .skip))) (.seq (sO [mV 35 0,oP 36 (nC 35),oP 37 (fA 4 36),oP 38 (lN 37),mV 39 1,oP 40 (bK .quo 39 64),oP 41 (iA 1 38 40),oP 42 (lN 41)] (cT 42 (sO [oP 6 (.mv (kI 4))] .ret) .skip)) (sO [mV 43 0,oP 44 (nC 43),oP 45 (fA 3 44),oP 46 (lN 45),mV 47 1,mV 48 1,oP 49 (bK .add 48 16),oP 50 (.slV 1 (tP 46) (some (tP 47)) (some (tP 49)) none),mV 8 50] (sO [mV 52 0,mV 53 8,oP 54 (lS 53),oP 55 (.call 86 [tP 52,tP 54]),mV 51 55,oP 56 (xR 51 0),oP 57 (xR 51 1),mV 9 56,mV 10 57] (.seq (sO [mV 58 9,oP 59 (.mv (kI 0))] (.block 1 (.loop c109_1))) (.seq (sO [mV 72 10,oP 73 (.un .not (tP 72)),mV 74 73,gP 75 74 true (.mv (tP 9)),gP 76 74 true (.mv (tP 8)),gP 77 74 true (lS 76),gP 78 74 true (bT .lss 75 77),oP 79 (pF 74 78)] (cT 79 (.draw [([mV 80 8,mV 81 9,oP 82 (iA 1 80 81),oP 83 (lN 82),mV 84 2,mV 85 9,oP 86 (.iStr (tP 84) (tP 85)),mV 87 0,oP 88 (nC 87),oP 89 (fA 0 88),oP 90 (fA 0 89),oP 91 (fA 1 90),oP 92 (lN 91),oP 93 (bT .or 86 92),oP 94 (bT .and 83 93),oP 95 (iA 1 80 81)],[nP (.store 1 (tP 95) (tP 94))],[]),([],[],[])]) .skip)) (sO [mV 96 0,oP 97 (.call 87 [tP 96]),mV 6 97] .ret))))))))
theorem k109 : compF Tryz.prog Tryz.f109 = some (c109,[6]) := by kernel_rfl
theorem n109 : Tryz.f109.ntmps = 98 := by kernel_rfl
structure Xd (d x y z : Nat) (h H : Heap) : Prop where
 n : h.n ≤ H.n
 cl : H.Closed
 m : ∀ u ob,h.m u = some ob → u ≠ d → u ≠ x → u ≠ y → u ≠ z → H.m u = some ob
theorem Xd.refl {d x y z : Nat} {h : Heap} (hc : h.Closed) : Xd d x y z h h := ⟨Nat.le_refl _,hc,fun _ _ e _ _ _ _ => e⟩
theorem Xd.trans {d x y z : Nat} {a b c : Heap} (g : Xd d x y z a b) (k : Xd d x y z b c) : Xd d x y z a c := ⟨Nat.le_trans g.n k.n,k.cl,fun u ob e h1 h2 h3 h4 => k.m u ob (g.m u ob e h1 h2 h3 h4) h1 h2 h3 h4⟩
theorem Xd.of {d x y z : Nat} {h H : Heap} (g : Gr h H) : Xd d x y z h H := ⟨g.n,g.cl,fun u ob e _ _ _ _ => g.m u ob e⟩
theorem Xd.set {d x y z : Nat} {h H : Heap} (g : Xd d x y z h H) {u : Nat} (hu : u = d ∨ u = x ∨ u = y ∨ u = z) {o : AObj} (hb : u < H.n) (ho : o.Below H.n) : Xd d x y z h (H.set u o) :=
 ⟨g.n,closed_set g.cl hb ho,fun v ob e h1 h2 h3 h4 => by
  rw [set_m,if_neg (by rcases hu with rfl | rfl | rfl | rfl <;> assumption)]
  exact g.m v ob e h1 h2 h3 h4⟩
def putB {α : Type} (l : List α) (o : Nat) (vs : List α) : List α := l.take o ++ vs ++ l.drop (o + vs.length)
theorem putB_len {α : Type} (l : List α) (o : Nat) (vs : List α) (h : o + vs.length ≤ l.length) : (putB l o vs).length = l.length := by simp [putB]; omega
theorem putB_nil {α : Type} (l : List α) (o : Nat) : putB l o [] = l := by simp [putB]
theorem putB_snoc {α : Type} (l : List α) (o : Nat) (vs : List α) (x : α) (h : o + vs.length < l.length) : putB (putB l o vs) (o + vs.length) [x] = putB l o (vs ++ [x]) := by
 have h1 : (l.take o ++ vs).length = o + vs.length := by simp; omega
 unfold putB
 rw [List.take_append_of_le_length (by omega),List.take_of_length_le (by omega),List.drop_append,List.drop_of_length_le (by simp; omega),h1,List.drop_drop]
 simp
 rw [Nat.add_assoc]
theorem aput_ubs (l : List UInt8) (o : Nat) (vs : List UInt8) : aput (ubs l) o (ubs vs) = ubs (putB l o vs) := by
 unfold aput putB ubs
 simp
theorem aput_ubs1 (l : List UInt8) (o : Nat) (b : UInt8) : aput (ubs l) o [.int .u8 (b.toNat : Int)] = ubs (putB l o [b]) := aput_ubs l o [b]
theorem aput_map1 {α : Type} (g : α → Value) (l : List α) (o : Nat) (b : α) : aput (l.map g) o [g b] = (putB l o [b]).map g := by
 unfold aput putB
 simp
def dev0 (n : Nat) : DevS := ⟨0,0,-1,List.replicate (64 * n) 255,List.replicate n false,List.replicate n 0,false,0⟩
theorem rep_one (x : UInt8) (n : Nat) : Lib.repeatL [x] n = List.replicate n x := by
 induction n with
 | zero => rfl
 | succ n ih => show x :: Lib.repeatL [x] n = _; rw [ih]; rfl
theorem fnew_ok (n : Nat) (hn1 : 1 ≤ n) (hn2 : n ≤ 512) (h : Heap) : ACalls Tryz.prog 57 [.int .i64 (n : Int)] h fun r h' => ∃ d x y z,r = .tuple #[.pointer (some ⟨d,0,none⟩),.int .i64 0] ∧ DevK h' d x y z (dev0 n) ∧ h.n ≤ d ∧ h.n ≤ x ∧ h.n ≤ y ∧ h.n ≤ z ∧ Gr h h' := by
 refine acalls_of mix Tryz.func57 k57 n57 (by simp) fun hcl hb => ?_
 have d1 : ¬ ((n : Int) < 1) := by omega
 have d2 : ¬ ((512 : Int) < (n : Int)) := by omega
 have d1' : ¬ (n = 0) := by omega
 have w : IntKind.i64.wrap ((n : Int) * 64) = ((64 * n : Nat) : Int) := wI (by omega)
 simp [c57, bs_lit, d1, d2, d1', w, -Int.natCast_mul]
 refine (repeat_ok [255] (64 * n) (by simp; omega) (by omega) h).eqK ?_
 rw [rep_one]
 simp
 have hbsz : (bs (List.replicate (64 * n) 255)).size = 64 * n := by rw [bs_size,List.length_replicate]
 have hdat : (bs (List.replicate (64 * n) 255)).data.toList = List.replicate (64 * n) 255 := bs_data _
 have hcond : 64 * n ≤ 1099511627776 := by omega
 have hm1 : (n : Int) * 2 ≤ 1099511627776 := by omega
 have hm8 : (n : Int) * 9 ≤ 1099511627776 := by omega
 have hub : (List.replicate (64 * n) (255 : UInt8)).map (fun b : UInt8 => Value.int .u8 (b.toNat : Int)) = ubs (List.replicate (64 * n) 255) := rfl
 simp only [hbsz,hdat,hcond,if_true,hub]
 have fil1 : afill [.int .i64 0,.int .u8 0,.int .i64 0] [(2,1,.int .i64 (-1))] = some [.int .i64 0,.int .u8 0,.int .i64 (-1)] := rfl
 have fil2 : ∀ (a b c : Addr) (l1 l2 l3 : Nat),afill [.int .i64 0,.int .u8 0,.int .i64 0,.slice none 0 0,.slice none 0 0,.slice none 0 0,.bool false,.int .i64 0] [(0,3,.agg #[.int .i64 0,.int .u8 0,.int .i64 (-1)]),(3,1,.slice (some a) l1 l1),(4,1,.slice (some b) l2 l2),(5,1,.slice (some c) l3 l3)] = some [.int .i64 0,.int .u8 0,.int .i64 (-1),.slice (some a) l1 l1,.slice (some b) l2 l2,.slice (some c) l3 l3,.bool false,.int .i64 0] := fun _ _ _ _ _ _ => rfl
 simp [hm1,hm8,fil1,fil2,mcells]
 have go : ∀ (o2 o3 o4 : AObj) (y z : Nat),o2.Below (h.n + 1 + 1) → o3.Below (h.n + 1 + 1 + 1) →
   (∀ H : Heap,H = ((h.push (.cells (ubs (List.replicate (64 * n) 255)) (.loose 5) 1)).push o2).push o3 → H.cellsOf y = some ((List.replicate n false).map Value.bool,.ex,1) ∧ H.cellsOf z = some ((List.replicate n (0 : Int)).map (fun q => Value.int .i64 q),.ex,1)) →
   o4 = .cells (devC h.n y z (dev0 n)) .ex 1 → (y = h.n + 1 ∧ z = h.n + 1 + 1 ∨ y = h.n + 1 + 1 ∧ z = h.n + 1) →
   ∃ x_1 y_1 z_1,DevK ((((h.push (.cells (ubs (List.replicate (64 * n) 255)) (.loose 5) 1)).push o2).push o3).push o4) (h.n + 1 + 1 + 1) x_1 y_1 z_1 (dev0 n) ∧ h.n ≤ h.n + 1 + 1 + 1 ∧ h.n ≤ x_1 ∧ h.n ≤ y_1 ∧ h.n ≤ z_1 ∧ Gr h ((((h.push (.cells (ubs (List.replicate (64 * n) 255)) (.loose 5) 1)).push o2).push o3).push o4) := by
  intro o2 o3 o4 y z b2 b3 hc e4 hyz
  have c1 : (h.push (.cells (ubs (List.replicate (64 * n) 255)) (.loose 5) 1)).Closed := closed_push hcl ubs_bel
  have c2 := closed_push (h := h.push (.cells (ubs (List.replicate (64 * n) 255)) (.loose 5) 1)) c1 b2
  have c3 := closed_push (h := (h.push (.cells (ubs (List.replicate (64 * n) 255)) (.loose 5) 1)).push o2) c2 b3
  obtain ⟨q1,q2⟩ := hc _ rfl
  have k1 := cellsOf_new h (ubs (List.replicate (64 * n) 255)) (.loose 5) 1
  have k2 := cellsOf_keep (keep_push c1 o2) k1
  have k3 := cellsOf_keep (keep_push c2 o3) k2
  have g1 : Gr h (h.push (.cells (ubs (List.replicate (64 * n) 255)) (.loose 5) 1)) := ⟨Nat.le_succ _,c1,keep_push hcl _⟩
  have g2 := g1.trans (b := h.push (.cells (ubs (List.replicate (64 * n) 255)) (.loose 5) 1)) ⟨Nat.le_succ _,c2,keep_push c1 o2⟩
  have g3 := g2.trans (b := (h.push (.cells (ubs (List.replicate (64 * n) 255)) (.loose 5) 1)).push o2) ⟨Nat.le_succ _,c3,keep_push c2 o3⟩
  have n3 : (((h.push (.cells (ubs (List.replicate (64 * n) 255)) (.loose 5) 1)).push o2).push o3).n = h.n + 1 + 1 + 1 := rfl
  generalize ((h.push (.cells (ubs (List.replicate (64 * n) 255)) (.loose 5) 1)).push o2).push o3 = H at *
  subst e4
  have c4 : (H.push (.cells (devC h.n y z (dev0 n)) .ex 1)).Closed := closed_push c3 (fun v hv => by
   simp only [devC,List.mem_cons,List.not_mem_nil,or_false] at hv
   rcases hv with rfl | rfl | rfl | rfl | rfl | rfl | rfl | rfl
   ·exact .int
   ·exact .int
   ·exact .int
   ·exact .slice (by show h.n < H.n + 1; omega)
   ·exact .slice (by show y < H.n + 1; omega)
   ·exact .slice (by show z < H.n + 1; omega)
   ·exact .bool
   ·exact .int)
  have k4 := keep_push c3 (.cells (devC h.n y z (dev0 n)) .ex 1)
  refine ⟨h.n,y,z,⟨by rw [← n3]; exact cellsOf_new _ _ _ _,⟨_,_,cellsOf_keep k4 k3,by simp,fun _ => rfl⟩,⟨_,_,cellsOf_keep k4 q1,by simp,fun q => absurd q (by decide)⟩,⟨_,_,cellsOf_keep k4 q2,by simp,fun q => absurd q (by decide)⟩,by omega⟩,by omega,Nat.le_refl _,by omega,by omega,g3.trans ⟨Nat.le_succ _,c4,k4⟩⟩
 have bz : ∀ m : Nat,(AObj.cells (List.replicate n (Value.int .i64 0)) .ex 1).Below m := fun m v hv => by rw [List.eq_of_mem_replicate hv]; exact .int
 have bf : ∀ m : Nat,(AObj.cells (List.replicate n (Value.bool false)) .ex 1).Below m := fun m v hv => by rw [List.eq_of_mem_replicate hv]; exact .bool
 have rz : (List.replicate n (0 : Int)).map (fun q => Value.int .i64 q) = List.replicate n (Value.int .i64 0) := List.map_replicate
 have rf : (List.replicate n false).map Value.bool = List.replicate n (Value.bool false) := List.map_replicate
 have hdv : ∀ x y z,devC x y z (dev0 n) = [.int .i64 0,.int .u8 0,.int .i64 (-1),.slice (some ⟨x,0,none⟩) (64 * n) (64 * n),.slice (some ⟨y,0,none⟩) n n,.slice (some ⟨z,0,none⟩) n n,.bool false,.int .i64 0] := fun x y z => by simp [devC,dev0]
 refine ⟨?_,?_⟩
 ·refine go _ _ _ (h.n + 1) (h.n + 1 + 1) (bf _) (bz _) (fun H e => ?_) (by rw [hdv]) (.inl ⟨rfl,rfl⟩)
  subst e
  refine ⟨?_,by rw [rz]; exact cellsOf_new _ _ _ _⟩
  rw [cellsOf_ne (by simp),rf]; exact cellsOf_new _ _ _ _
 ·refine go _ _ _ (h.n + 1 + 1) (h.n + 1) (bz _) (bf _) (fun H e => ?_) (by rw [hdv]) (.inr ⟨rfl,rfl⟩)
  subst e
  refine ⟨by rw [rf]; exact cellsOf_new _ _ _ _,?_⟩
  rw [cellsOf_ne (by simp),rz]; exact cellsOf_new _ _ _ _
structure DevU (D : DevS) : Prop where
 up : D.down = false
 lf : D.left < 0
 dl : D.data.length = 64 * D.lock.length
 wl : D.wear.length = D.lock.length
 nl : D.lock.length ≤ 512
def _root_.Go.Proofs.YtdnmkenamgfjoaaGreat.arbb.DevS.read (D : DevS) (a n : Nat) : List UInt8 := (D.data.drop a).take n
theorem fread_ok (d x y z : Nat) (D : DevS) (hU : DevU D) (a n : Nat) (ha : a + n ≤ D.data.length) (h : Heap) (k : DevK h d x y z D) :
  ACalls Tryz.prog 72 [.pointer (some ⟨d,0,none⟩),.int .i64 (a : Int),.int .i64 (n : Int)] h fun r h' => r = .tuple #[.string (bs (D.read a n)),.int .i64 0] ∧ h' = h.set d (.cells (devC x y z D.step) .ex 1) := by
 refine acalls_of mix Tryz.func72 k72 n72 (by simp) fun hcl hb => ?_
 have hdl := hU.dl
 have hnl := hU.nl
 simp [c72]
 refine (devwrong_ok d x y z D a n ha (by omega) h k).eqK ?_
 have c1 := k.cd
 obtain ⟨mx,ex,cx,hm1,hm2⟩ := k.cx
 obtain ⟨n1,n2,n3,n4,n5,n6⟩ := k.ne
 have e7 : ∀ p,(devC x y z D)[7]'p = .int .i64 D.ops := fun _ => rfl
 have e3 : ∀ p,(devC x y z D.step)[3]'p = .slice (some ⟨x,0,none⟩) D.data.length D.data.length := fun _ => rfl
 have hl : ∀ E,(devC x y z E).length = 8 := fun _ => rfl
 have c2 := cells_setJ' h d (devC x y z D.step) .ex 1
 have cx2 : (h.set d (.cells (devC x y z D.step) .ex 1)).cellsOf x = some (ubs D.data,mx,ex) := by rw [cells_setJ _ n1]; exact cx
 have w1 : IntKind.i64.wrap ((a : Int) + (n : Int)) = ((a + n : Nat) : Int) := wI (by omega)
 have hab : abounds D.data.length D.data.length (some (.int .i64 (a : Int))) (some (.int .i64 ((a + n : Nat) : Int))) none = some (a,a + n,D.data.length) := abounds_lohi (by omega) ha
 have hab2 := hab
 have hml : (mx.isLoose = true → ex = 1) = True := eq_true hm2
 have hcut : acut (ubs D.data) a n = some (ubs (D.read a n)) := by
  unfold acut DevS.read ubs
  rw [if_pos (by rw [List.length_map]; omega),List.map_take,List.map_drop]
 rw [Int.natCast_add] at hab2
 have hput : aput (devC x y z D) 7 [.int .i64 (IntKind.i64.wrap (D.ops + 1))] = devC x y z D.step := rfl
 have hfst : ∀ c,afirst (h.set d (.cells (devC x y z D.step) .ex 1)) 1 n (.slice (some ⟨x,a,none⟩) n c) = some (ubs (D.read a n)) := fun c => by simp [afirst,cx2,hcut]
 simp [hU.up,c1,apart,hl,hput,mcells,e7,c2,e3,w1,hab,hab2,cx2,hml,hfst,abytes_ubs,bs_mk]
def _root_.Go.Proofs.YtdnmkenamgfjoaaGreat.arbb.DevS.erase (D : DevS) (i : Nat) : DevS := { D.step with data := putB D.data (64 * i) (List.replicate 64 255),wear := putB D.wear i [IntKind.i64.wrap (D.wear[i]! + 1)] }
theorem _root_.Go.Proofs.YtdnmkenamgfjoaaGreat.arbb.DevK.mk' {h : Heap} {d x y z : Nat} {D : DevS} {mx my mz : BMode} {ex ey ez : Nat} (ne : d ≠ x ∧ d ≠ y ∧ d ≠ z ∧ x ≠ y ∧ x ≠ z ∧ y ≠ z) (cd : h.cellsOf d = some (devC x y z D,.ex,1)) (cx : h.cellsOf x = some (ubs D.data,mx,ex)) (hx1 : mx ≠ .ro) (hx2 : mx.isLoose = true → ex = 1)
  (cy : h.cellsOf y = some (D.lock.map Value.bool,my,ey)) (hy1 : my ≠ .ro) (hy2 : my.isLoose = true → ey = 1) (cz : h.cellsOf z = some (D.wear.map fun n => Value.int .i64 n,mz,ez)) (hz1 : mz ≠ .ro) (hz2 : mz.isLoose = true → ez = 1) : DevK h d x y z D :=
 ⟨cd,⟨mx,ex,cx,hx1,hx2⟩,⟨my,ey,cy,hy1,hy2⟩,⟨mz,ez,cz,hz1,hz2⟩,ne⟩
theorem ferase_ok (d x y z : Nat) (D : DevS) (hU : DevU D) (i : Nat) (hi : i < D.lock.length) (hlk : D.lock[i]! = false) (h : Heap) (k : DevK h d x y z D) :
  ACalls Tryz.prog 46 [.pointer (some ⟨d,0,none⟩),.int .i64 (i : Int)] h fun r h' => r = .int .i64 0 ∧ DevK h' d x y z (D.erase i) ∧ Xd d x y z h h' := by
 refine acalls_of mix Tryz.func46 k46 n46 (by simp) fun hcl hb => ?_
 have hdl := hU.dl
 have hnl := hU.nl
 have hwl := hU.wl
 have d1 : ¬ ((i : Int) < 0) := by omega
 have d2 : ¬ ((512 : Int) ≤ (i : Int)) := by omega
 have w : IntKind.i64.wrap ((i : Int) * 64) = ((64 * i : Nat) : Int) := wI (by omega)
 have w2 : IntKind.i64.wrap (((64 * i : Nat) : Int) + 64) = ((64 * i + 64 : Nat) : Int) := wI (by omega)
 have c1 := k.cd
 have bd := cellsOf_lt hcl c1
 obtain ⟨mx,ex,cx,hx1,hx2⟩ := k.cx
 obtain ⟨my,ey,cy,hy1,hy2⟩ := k.cy
 obtain ⟨mz,ez,cz,hz1,hz2⟩ := k.cz
 obtain ⟨n1,n2,n3,n4,n5,n6⟩ := k.ne
 have bx := cellsOf_lt hcl cx
 have bz := cellsOf_lt hcl cz
 rw [getElem!_pos D.lock i hi] at hlk
 have e3 : ∀ p,(devC x y z D)[3]'p = .slice (some ⟨x,0,none⟩) D.data.length D.data.length := fun _ => rfl
 have e4 : ∀ p,(devC x y z D)[4]'p = .slice (some ⟨y,0,none⟩) D.lock.length D.lock.length := fun _ => rfl
 have e5 : ∀ p,(devC x y z D)[5]'p = .slice (some ⟨z,0,none⟩) D.wear.length D.wear.length := fun _ => rfl
 have hl : ∀ E,(devC x y z E).length = 8 := fun _ => rfl
 have hiw : i < D.wear.length := by omega
 have hab : abounds D.data.length D.data.length (some (.int .i64 ((64 * i : Nat) : Int))) (some (.int .i64 ((64 * i + 64 : Nat) : Int))) none = some (64 * i,64 * i + 64,D.data.length) := abounds_lohi (by omega) (by omega)
 have hml : (mx.isLoose = true → ex = 1) = True := eq_true hx2
 have hmz : (mz.isLoose = true → ez = 1) = True := eq_true hz2
 simp [c46,d1,d2,w,-Int.natCast_mul]
 refine (devwrong_ok d x y z D (64 * i) 64 (by omega) (by omega) h k).eqK ?_
 have hzp : aput (D.wear.map fun n => Value.int .i64 n) i [.int .i64 (IntKind.i64.wrap (D.wear[i] + 1))] = (putB D.wear i [IntKind.i64.wrap (D.wear[i] + 1)]).map fun n => Value.int .i64 n := aput_map1 (fun n : Int => Value.int .i64 n) D.wear i _
 simp [hU.up,c1,apart,hl,e4,aidx_of hi,cy,hi,hlk,e3,w2,hab,-Int.natCast_mul,-Int.natCast_add,cx,hml,e5,aidx_of hiw,cz,hiw,mcells,hz1,hzp,show i + 1 ≤ D.wear.length by omega]
 have hwi : D.wear[i] = D.wear[i]! := (getElem!_pos D.wear i hiw).symm
 rw [hwi]
 obtain ⟨W,hW⟩ : ∃ W,putB D.wear i [IntKind.i64.wrap (D.wear[i]! + 1)] = W := ⟨_,rfl⟩
 rw [hW]
 have hWl : W.length = D.wear.length := by rw [← hW]; exact putB_len _ _ _ (by simp; omega)
 have hcl1 : (h.set z (.cells (W.map fun n => Value.int .i64 n) mz ez)).Closed := closed_set hcl bz (fun v hv => by
  obtain ⟨q,_,rfl⟩ := List.mem_map.1 hv
  exact .int)
 have g1 : Xd d x y z h (h.set z (.cells (W.map fun n => Value.int .i64 n) mz ez)) := (Xd.refl hcl).set (.inr (.inr (.inr rfl))) bz (fun v hv => by
  obtain ⟨q,_,rfl⟩ := List.mem_map.1 hv
  exact .int)
 have k1 : DevK (h.set z (.cells (W.map fun n => Value.int .i64 n) mz ez)) d x y z { D with wear := W } := by
  refine DevK.mk' k.ne ?_ (by rw [cells_setJ _ (fun q => n5 q.symm)]; exact cx) hx1 hx2 (by rw [cells_setJ _ (fun q => n6 q.symm)]; exact cy) hy1 hy2 (cells_setJ' _ _ _ _ _) hz1 hz2
  rw [cells_setJ _ (fun q => n3 q.symm),c1]
  simp [devC,hWl]
 generalize h.set z (.cells (W.map fun n => Value.int .i64 n) mz ez) = H1 at *
 refine (part_ok d x y z { D with wear := W } 64 hU.lf H1 k1).eqK ?_
 have bd1 := cellsOf_lt hcl1 k1.cd
 have k2 := k1.set (D' := DevS.step { D with wear := W }) rfl rfl rfl
 have g2 := g1.set (u := d) (.inl rfl) (o := .cells (devC x y z (DevS.step { D with wear := W })) .ex 1) bd1 (fun v hv => by
  simp only [devC,List.mem_cons,List.not_mem_nil,or_false] at hv
  have bx1 := cellsOf_lt hcl1 (k1.cx.choose_spec.choose_spec.1)
  have by1 := cellsOf_lt hcl1 (k1.cy.choose_spec.choose_spec.1)
  have bz1 := cellsOf_lt hcl1 (k1.cz.choose_spec.choose_spec.1)
  rcases hv with rfl | rfl | rfl | rfl | rfl | rfl | rfl | rfl
  ·exact .int
  ·exact .int
  ·exact .int
  ·exact .slice bx1
  ·exact .slice by1
  ·exact .slice bz1
  ·exact .bool
  ·exact .int)
 generalize H1.set d (.cells (devC x y z (DevS.step { D with wear := W })) .ex 1) = H2 at *
 have hc2 := g2.cl
 have c3 := k2.cd
 obtain ⟨mx,ex,cx,hx1,hx2⟩ := k2.cx
 have bx2 := cellsOf_lt hc2 cx
 have bd2 := cellsOf_lt hc2 c3
 have hcx : (DevS.step { D with wear := W }).data = D.data := rfl
 rw [hcx] at cx
 have hb64 : ∀ (Z : List UInt8),(AObj.cells (ubs Z) mx ex).Below H2.n := fun Z => ubs_bel
 simp
 refine awp_loop_of (α := Nat) (fun j => j ≤ 64) (fun j => [(0,.pointer (some ⟨d,0,none⟩)),(7,.slice (some ⟨x,64 * i,none⟩) 64 (D.data.length - 64 * i)),(8,.int .i64 64),(9,.bool true),(56,.int .i64 64),(57,.int .i64 (j : Int))]) (fun j => H2.set x (.cells (ubs (putB D.data (64 * i) (List.replicate j 255))) mx ex)) (fun j => 64 - j) 0
  (by omega) ⟨g2.n,Nat.le_refl _,fun u ob q => by
   have e0 : H2.set x (.cells (ubs (putB D.data (64 * i) (List.replicate 0 255))) mx ex) = H2 := by
    rw [List.replicate_zero,putB_nil]; exact set_same (m_of_cells cx)
   rw [e0] at q; exact q,closed_set hc2 bx2 (hb64 _)⟩ (by simp; exact ⟨.ptr bd2,.slice bx2,.int,.bool,.int,.int⟩) ?_
 rintro j hj
 have hpl : ∀ j,j ≤ 64 → (putB D.data (64 * i) (List.replicate j 255)).length = D.data.length := fun j hj => putB_len _ _ _ (by simp; omega)
 have cx3 : (H2.set x (.cells (ubs (putB D.data (64 * i) (List.replicate j 255))) mx ex)).cellsOf x = some (ubs (putB D.data (64 * i) (List.replicate j 255)),mx,ex) := cells_setJ' _ _ _ _ _
 by_cases hlt : j < 64
 ·have hi' : (j : Int) < 64 := by omega
  have w4 := w64n (i := j) (by omega)
  have hst : aput (ubs (putB D.data (64 * i) (List.replicate j 255))) (64 * i + j) [.int .u8 255] = ubs (putB D.data (64 * i) (List.replicate (j + 1) 255)) := by
   have e1 : List.replicate (j + 1) (255 : UInt8) = List.replicate j 255 ++ [255] := by rw [List.replicate_succ']
   rw [e1,← putB_snoc _ _ _ _ (by simp; omega),← aput_ubs1]
   simp
  have hss : ∀ a b : AObj,(H2.set x a).set x b = H2.set x b := fun a b => set_set _ _ _ _
  have hle : 64 * i + j + 1 ≤ D.data.length := by omega
  have hm1 : mcells (.int .u8 255) = some [.int .u8 255] := rfl
  simp [c46_0, hi', aidx_of hlt, cx3, hm1, hx1, hst, hss, w4, ubs_len, hpl j (by omega), hle, -Int.natCast_add]
  exact ⟨j + 1,by omega,by omega,⟨g2.n,Nat.le_refl _,fun _ _ q => q,closed_set hc2 bx2 (hb64 _)⟩,.ptr bd2,.slice bx2,.int,.bool,.int,rfl,.int⟩
 ·have hje : j = 64 := by omega
  subst hje
  have k3 : DevK (H2.set x (.cells (ubs (putB D.data (64 * i) (List.replicate 64 255))) mx ex)) d x y z (D.erase i) := by
   obtain ⟨my,ey,cy,hy1,hy2⟩ := k2.cy
   obtain ⟨mz,ez,cz,hz1,hz2⟩ := k2.cz
   refine DevK.mk' k.ne ?_ cx3 hx1 hx2 (by rw [cells_setJ _ n4]; exact cy) hy1 hy2 (by rw [cells_setJ _ n5]; show _ = some ((putB D.wear i [IntKind.i64.wrap (D.wear[i]! + 1)]).map _,mz,ez); rw [hW]; exact cz) hz1 hz2
   rw [cells_setJ _ (fun q => n1 q.symm),c3]
   have he1 : (D.erase i).data.length = D.data.length := hpl 64 (by omega)
   have he2 : (D.erase i).wear = W := hW
   unfold devC
   rw [he1,he2]
   rfl
  simp [c46_0,aun]
  refine (told_ok d x y z (D.erase i) _ k3).eqK ?_
  have hdn : (D.erase i).down = false := hU.up
  simp [hdn]
  exact ⟨k3,g2.set (.inr (.inl rfl)) bx2 (hb64 _)⟩
def andL (a b : List UInt8) : List UInt8 := List.zipWith (· &&& ·) a b
def _root_.Go.Proofs.YtdnmkenamgfjoaaGreat.arbb.DevS.prog (D : DevS) (a : Nat) (pg : List UInt8) : DevS := { D.step with data := putB D.data a (andL ((D.data.drop a).take 16) pg) }
theorem u8and (a b : UInt8) : abits .and .u8 (a.toNat : Int) (b.toNat : Int) = ((a &&& b).toNat : Int) := by
 have e : ∀ x : UInt8,BitVec.ofInt 8 (x.toNat : Int) = x.toBitVec := fun x => by
  apply BitVec.eq_of_toNat_eq
  rw [BitVec.toNat_ofInt]
  have := x.toNat_lt
  show ((x.toNat : Int) % 256).toNat = x.toNat
  omega
 show IntKind.u8.wrap (((BitVec.ofInt 8 (a.toNat : Int)) &&& (BitVec.ofInt 8 (b.toNat : Int))).toNat : Int) = _
 rw [e,e,← UInt8.toBitVec_and]
 have hw : ∀ n : Nat,n < 256 → IntKind.u8.wrap (n : Int) = n := fun n h => by simp [IntKind.wrap,IntKind.bits,IntKind.signed]; omega
 exact hw _ (a &&& b).toNat_lt
theorem fprog_ok (d x y z : Nat) (D : DevS) (hU : DevU D) (a : Nat) (ha : a + 16 ≤ D.data.length) (ha16 : a % 16 = 0) (hlk : D.lock[a / 64]! = false) (pg : List UInt8) (hpg : pg.length = 16) (h : Heap) (k : DevK h d x y z D) :
  ACalls Tryz.prog 109 [.pointer (some ⟨d,0,none⟩),.int .i64 (a : Int),.string (bs pg)] h fun r h' => r = .int .i64 0 ∧ DevK h' d x y z (D.prog a pg) ∧ Xd d x y z h h' := by
 refine acalls_of mix Tryz.func109 k109 n109 (by simp) fun hcl hb => ?_
 have hq := ptrq
 have hdl := hU.dl
 have hnl := hU.nl
 have hi : a / 64 < D.lock.length := by omega
 have w2 : IntKind.i64.wrap ((a : Int) + 16) = ((a + 16 : Nat) : Int) := wI (by omega)
 have w3 : IntKind.i64.wrap ((a : Int) / 64) = (a : Int) / 64 := IntWalk.i64_in _ (by omega)
 have hai : aidx (.int .i64 ((a : Int) / 64)) D.lock.length = some (a / 64) := by
  have := aidx_of (k := .i64) hi
  rwa [show ((a / 64 : Nat) : Int) = (a : Int) / 64 from rfl] at this
 have hm16 : (a : Int).tmod 16 = 0 := by
  have : (a : Int).tmod 16 = ((a % 16 : Nat) : Int) := rfl
  rw [this,ha16]; rfl
 have c1 := k.cd
 have bd := cellsOf_lt hcl c1
 obtain ⟨mx,ex,cx,hx1,hx2⟩ := k.cx
 obtain ⟨my,ey,cy,hy1,hy2⟩ := k.cy
 obtain ⟨mz,ez,cz,hz1,hz2⟩ := k.cz
 obtain ⟨n1,n2,n3,n4,n5,n6⟩ := k.ne
 have bx := cellsOf_lt hcl cx
 rw [getElem!_pos D.lock (a / 64) hi] at hlk
 have e3 : ∀ p,(devC x y z D)[3]'p = .slice (some ⟨x,0,none⟩) D.data.length D.data.length := fun _ => rfl
 have e4 : ∀ p,(devC x y z D)[4]'p = .slice (some ⟨y,0,none⟩) D.lock.length D.lock.length := fun _ => rfl
 have e6 : ∀ p,(devC x y z D)[6]'p = .bool D.down := fun _ => rfl
 have hl : ∀ E,(devC x y z E).length = 8 := fun _ => rfl
 have hab : abounds D.data.length D.data.length (some (.int .i64 (a : Int))) (some (.int .i64 ((a + 16 : Nat) : Int))) none = some (a,a + 16,D.data.length) := abounds_lohi (by omega) (by omega)
 have hml : (mx.isLoose = true → ex = 1) = True := eq_true hx2
 have hps : (bs pg).size = 16 := by rw [bs_size,hpg]
 simp [c109,hq,c1,apart,hl,e6,hU.up,hm16,hps]
 refine (devwrong_ok d x y z D a 16 (by omega) (by omega) h k).eqK ?_
 simp [hU.up,c1,apart,hl,e4,hai,cy,hi,hlk,e3,w2,w3,hab,-Int.natCast_add,cx,hml]
 refine (part_ok d x y z D 16 hU.lf h k).eqK ?_
 have k2 := k.set (D' := D.step) rfl rfl rfl
 have g2 := (Xd.refl (d := d) (x := x) (y := y) (z := z) hcl).set (u := d) (.inl rfl) (o := .cells (devC x y z D.step) .ex 1) bd (fun v hv => by
  simp only [devC,List.mem_cons,List.not_mem_nil,or_false] at hv
  have by1 := cellsOf_lt hcl cy
  have bz1 := cellsOf_lt hcl cz
  rcases hv with rfl | rfl | rfl | rfl | rfl | rfl | rfl | rfl
  ·exact .int
  ·exact .int
  ·exact .int
  ·exact .slice bx
  ·exact .slice by1
  ·exact .slice bz1
  ·exact .bool
  ·exact .int)
 clear cx cy cz c1
 generalize h.set d (.cells (devC x y z D.step) .ex 1) = H2 at *
 have hc2 := g2.cl
 have c3 := k2.cd
 obtain ⟨mx,ex,cx,hx1,hx2⟩ := k2.cx
 have bx2 := cellsOf_lt hc2 cx
 have bd2 := cellsOf_lt hc2 c3
 have hcx : D.step.data = D.data := rfl
 rw [hcx] at cx
 have hb64 : ∀ (Z : List UInt8),(AObj.cells (ubs Z) mx ex).Below H2.n := fun Z => ubs_bel
 obtain ⟨V,hV⟩ : ∃ V,andL ((D.data.drop a).take 16) pg = V := ⟨_,rfl⟩
 have hVl : V.length = 16 := by rw [← hV]; unfold andL; simp; omega
 simp
 refine awp_loop_of (α := Nat) (fun j => j ≤ 16) (fun j => [(0,.pointer (some ⟨d,0,none⟩)),(2,.string (bs pg)),(8,.slice (some ⟨x,a,none⟩) 16 (D.data.length - a)),(9,.int .i64 16),(10,.bool true),(58,.int .i64 16),(59,.int .i64 (j : Int))]) (fun j => H2.set x (.cells (ubs (putB D.data a (V.take j))) mx ex)) (fun j => 16 - j) 0
  (by omega) ⟨g2.n,Nat.le_refl _,fun u ob q => by
   have e0 : H2.set x (.cells (ubs (putB D.data a (V.take 0))) mx ex) = H2 := by
    rw [List.take_zero,putB_nil]; exact set_same (m_of_cells cx)
   rw [e0] at q; exact q,closed_set hc2 bx2 (hb64 _)⟩ (by simp; exact ⟨.ptr bd2,.string,.slice bx2,.int,.bool,.int,.int⟩) ?_
 rintro j hj
 have hpl : ∀ j,(putB D.data a (V.take j)).length = D.data.length := fun j => putB_len _ _ _ (by simp; omega)
 have cx3 : (H2.set x (.cells (ubs (putB D.data a (V.take j))) mx ex)).cellsOf x = some (ubs (putB D.data a (V.take j)),mx,ex) := cells_setJ' _ _ _ _ _
 by_cases hlt : j < 16
 ·have hi' : (j : Int) < 16 := by omega
  have w4 := w64n (i := j) (by omega)
  have haj : a + j < D.data.length := by omega
  have hjp : j < pg.length := by omega
  have hg : (putB D.data a (V.take j))[a + j]'(by rw [hpl]; exact haj) = D.data[a + j] := by
   unfold putB
   have e1 : (D.data.take a ++ V.take j).length = a + j := by simp; omega
   rw [List.getElem_append_right (by omega)]
   simp [e1,show min j V.length = j by omega]
  have hVj : V[j]'(by omega) = D.data[a + j] &&& pg[j] := by
   subst hV
   unfold andL
   rw [List.getElem_zipWith]
   simp
  have hst : aput (ubs (putB D.data a (V.take j))) (a + j) [.int .u8 ((D.data[a + j] &&& pg[j]).toNat : Int)] = ubs (putB D.data a (V.take (j + 1))) := by
   have e1 : V.take (j + 1) = V.take j ++ [V[j]'(by omega)] := by rw [List.take_succ_eq_append_getElem]
   rw [e1,← putB_snoc _ _ _ _ (by simp; omega),← aput_ubs1,hVj]
   simp [show min j V.length = j by omega]
  have hss : ∀ a b : AObj,(H2.set x a).set x b = H2.set x b := fun a b => set_set _ _ _ _
  have hle : a + j + 1 ≤ D.data.length := by omega
  have hm1 : ∀ b : UInt8,mcells (.int .u8 (b.toNat : Int)) = some [.int .u8 (b.toNat : Int)] := fun _ => rfl
  have hpd : (bs pg).data[j]? = some pg[j] := by unfold bs; simp [hjp]
  have hgu : (ubs (putB D.data a (V.take j)))[a + j]? = some (.int .u8 (D.data[a + j].toNat : Int)) := by
   rw [ubs_get (by rw [hpl]; exact haj),hg]
  simp [c109_1, hi', aidx_of hlt, cx3, apart, hgu, hps, bs_size, hpg, u8and, hm1, hx1, hst, hss, w4, ubs_len, hpl j, hle, hpd, -Int.natCast_add, -UInt8.toNat_and]
  exact ⟨j + 1,by omega,by omega,⟨g2.n,Nat.le_refl _,fun _ _ q => q,closed_set hc2 bx2 (hb64 _)⟩,.ptr bd2,.string,.slice bx2,.int,.bool,.int,rfl,.int⟩
 ·have hje : j = 16 := by omega
  subst hje
  have hV16 : V.take 16 = V := List.take_of_length_le (by omega)
  have k3 : DevK (H2.set x (.cells (ubs (putB D.data a (V.take 16))) mx ex)) d x y z (D.prog a pg) := by
   obtain ⟨my,ey,cy,hy1,hy2⟩ := k2.cy
   obtain ⟨mz,ez,cz,hz1,hz2⟩ := k2.cz
   have hPd : (D.prog a pg).data = putB D.data a (V.take 16) := by rw [hV16,← hV]; rfl
   refine DevK.mk' k.ne ?_ (by rw [hPd]; exact cx3) hx1 hx2 (by rw [cells_setJ _ n4]; exact cy) hy1 hy2 (by rw [cells_setJ _ n5]; exact cz) hz1 hz2
   rw [cells_setJ _ (fun q => n1 q.symm),c3]
   have he1 : (D.prog a pg).data.length = D.data.length := by rw [hPd]; exact hpl 16
   unfold devC
   rw [he1]
   rfl
  simp [c109_1,aun]
  refine (told_ok d x y z (D.prog a pg) _ k3).eqK ?_
  have hdn : (D.prog a pg).down = false := hU.up
  simp [hdn]
  exact ⟨k3,g2.set (.inr (.inl rfl)) bx2 (hb64 _)⟩
def c166 : AC := sO [oP 2 (.mv (.const (.slice none 0 0)))] (sO [mV 4 0,oP 5 (.call 188 [tP 4]),mV 3 5] (sO [mV 6 3,oP 7 (.call 189 [tP 6])] (sO [mV 8 3,mV 2 8] .ret)))
theorem k166 : compF Tryz.prog Tryz.f166 = some (c166,[2]) := by kernel_rfl
theorem n166 : Tryz.f166.ntmps = 9 := by kernel_rfl
def c167 : AC := sO [oP 1 (.box (tP 0)),oP 2 (.mv (.const .nilFunc))] (sO [oP 3 (.mkF (.func 190) [] [tP 1]),mV 2 3] .ret)
theorem k167 : compF Tryz.prog Tryz.f167 = some (c167,[2]) := by kernel_rfl
theorem n167 : Tryz.f167.ntmps = 4 := by kernel_rfl
def c188 : AC := sO [oP 2 (.mv (.const (.slice none 0 0)))] (sO [mV 3 0,oP 4 (.call 206 [.const (.slice none 0 0),tP 3]),mV 2 4] .ret)
theorem k188 : compF Tryz.prog Tryz.f188 = some (c188,[2]) := by kernel_rfl
theorem n188 : Tryz.f188.ntmps = 5 := by kernel_rfl
open Go.Shelf in
def rhoS : Ren := ⟨fun n => if n = 125 then 208 else if n = 128 then 222 else if n = 129 then 223 else if n = 189 then 189 else if n = 215 then 231 else if n = 216 then 219 else if n = 257 then 207 else if n = 294 then 213 else if n = 295 then 214 else if n = 296 then 215 else if n = 297 then 216 else if n = 298 then 217 else if n = 299 then 218 else if n = 300 then 220 else if n = 301 then 221 else if n = 328 then 226 else if n = 329 then 227 else if n = 330 then 228 else if n = 331 then 229 else if n = 332 then 230 else 233,
 fun n => if n = 0 then 0 else if n = 3 then 3 else if n = 4 then 4 else if n = 5 then 5 else if n = 9 then 9 else if n = 28 then 40 else if n = 46 then 198 else if n = 51 then 222 else if n = 53 then 255 else if n = 131 then 156 else if n = 182 then 310 else if n = 183 then 311 else if n = 218 then 319 else if n = 222 then 323 else if n = 228 then 325 else 50,fun n => 0⟩
set_option maxHeartbeats 4000000 in
open Go.Shelf in
theorem lays189 : Lays.n189 Tryz.prog rhoS where
 mixed := mix
 f125 := by kernel_rfl
 f128 := by kernel_rfl
 f129 := by kernel_rfl
 f189 := by kernel_rfl
 f215 := by kernel_rfl
 f216 := by kernel_rfl
 f257 := by kernel_rfl
 f294 := by kernel_rfl
 f295 := by kernel_rfl
 f296 := by kernel_rfl
 f297 := by kernel_rfl
 f298 := by kernel_rfl
 f299 := by kernel_rfl
 f300 := by kernel_rfl
 f301 := by kernel_rfl
 f328 := by kernel_rfl
 f329 := by kernel_rfl
 f330 := by kernel_rfl
 f331 := by kernel_rfl
 f332 := by kernel_rfl
 f343 := by kernel_rfl
 t0 := by kernel_rfl
 a0 := fun w => by kernel_rfl
 z0 := fun w => by kernel_rfl
 v0 := fun w => by kernel_rfl
 t3 := by kernel_rfl
 a3 := fun w => by kernel_rfl
 z3 := fun w => by kernel_rfl
 v3 := fun w => by kernel_rfl
 t4 := by kernel_rfl
 a4 := fun w => by kernel_rfl
 z4 := fun w => by kernel_rfl
 v4 := fun w => by kernel_rfl
 t5 := by kernel_rfl
 a5 := fun w => by kernel_rfl
 z5 := fun w => by kernel_rfl
 v5 := fun w => by kernel_rfl
 t9 := by kernel_rfl
 a9 := fun w => by kernel_rfl
 z9 := fun w => by kernel_rfl
 v9 := fun w => by kernel_rfl
 t28 := by kernel_rfl
 a28 := fun w => by kernel_rfl
 z28 := fun w => by kernel_rfl
 v28 := fun w => by kernel_rfl
 t46 := by kernel_rfl
 a46 := fun w => by kernel_rfl
 z46 := fun w => by kernel_rfl
 v46 := fun w => by kernel_rfl
 t51 := by kernel_rfl
 a51 := fun w => by kernel_rfl
 z51 := fun w => by kernel_rfl
 v51 := fun w => by kernel_rfl
 t53 := by kernel_rfl
 a53 := fun w => by kernel_rfl
 z53 := fun w => by kernel_rfl
 v53 := fun w => by kernel_rfl
 t131 := by kernel_rfl
 a131 := fun w => by kernel_rfl
 z131 := fun w => by kernel_rfl
 v131 := fun w => by kernel_rfl
 t182 := by kernel_rfl
 a182 := fun w => by kernel_rfl
 z182 := fun w => by kernel_rfl
 v182 := fun w => by kernel_rfl
 t183 := by kernel_rfl
 a183 := fun w => by kernel_rfl
 z183 := fun w => by kernel_rfl
 v183 := fun w => by kernel_rfl
 t218 := by kernel_rfl
 a218 := fun w => by kernel_rfl
 z218 := fun w => by kernel_rfl
 v218 := fun w => by kernel_rfl
 t222 := by kernel_rfl
 a222 := fun w => by kernel_rfl
 z222 := fun w => by kernel_rfl
 v222 := fun w => by kernel_rfl
 t228 := by kernel_rfl
 a228 := fun w => by kernel_rfl
 z228 := fun w => by kernel_rfl
 v228 := fun w => by kernel_rfl
 t229 := by kernel_rfl
 a229 := fun w => by kernel_rfl
 z229 := fun w => by kernel_rfl
 v229 := fun w => by kernel_rfl
theorem Below.grow {w : World} (n : Nat) (os : Array Obj) : Below w.heap.size w (Sort.grow (Sort.ahead w n) os) :=
 ⟨rfl,rfl,rfl,by simp [Sort.grow,Sort.ahead],fun k hk => by
  show (w.heap ++ os)[k]? = w.heap[k]?
  rw [Array.getElem?_append_left hk]⟩
theorem frozen_of_rel {B : Nat} {μ : Mu} {h : Heap} {w : World} (rel : HRel B μ h w) {b : Nat} {c : List Value} {m : BMode} {e : Nat} (hc : h.cellsOf b = some (c,m,e)) (hm : m ≠ .ro) {mi : MI} (hmi : μ b = some mi) {i : Nat} (hi : i < c.length) :
  w.frozen? ⟨mi.cb,mi.dl + i,none⟩ = false := by
 obtain ⟨mi', cc, t, fz, h1, _, hw, hle, _, _, _, _, hf, _⟩ := rel.cells hc
 rw [hmi] at h1; cases h1
 have q := hf hm (mi.dl + i) (by omega)
 simp only [World.frozen?,hw]
 simp only [Bool.and_eq_false_iff,decide_eq_false_iff_not]
 by_cases g : fz.1 ≤ mi.dl + i
 ·right; exact fun g2 => q ⟨g,by omega⟩
 ·left; exact g
theorem asc_sorted {l : List Nat} (hd : l.Pairwise (· < ·)) : ((l.map fun n : Nat => (n : Int)).mergeSort fun x y => decide (x ≤ y)) = l.map fun n : Nat => (n : Int) := by
 apply List.mergeSort_of_pairwise
 rw [List.pairwise_map]
 exact hd.imp fun {a b} q => by simp; omega
theorem sort_ok (l : List Nat) (nm : Option Nat) (v : Value) (h : Heap) (hl : LAt h 1 nm v l.length (l.map ei)) (hn : l.length ≤ 1000000) (hd : l.Pairwise (· < ·)) :
  ACalls Tryz.prog 189 [v] h fun r h' => r = .tuple #[] ∧ h' = h := by
 intro B μ w args' rel la
 obtain ⟨hsz,hat⟩ := la
 have h0 := hat 0 (by simp)
 have hs1 : args'.size = 1 := by simpa using hsz.symm
 have harg : ∀ u,args'.getD 0 unk = u → args' = #[u] := fun u e0 => by
  apply Array.ext
  ·simp [hs1]
  ·intro i hi1 hi2
   match i,hi1 with
   | 0,hi1 => simpa [Array.getD,hi1] using e0
   | i + 1,hi1 => omega
 have fin : ∀ w', Below w.heap.size w w' → ∃ v v' h' μ', Ending.returned (.tuple #[]) = .returned v' ∧ VRel μ' v v' ∧ HRel B μ' h' w' ∧ Below B w w' ∧ (∀ b, b < h.n → μ' b = μ b) ∧ h.n ≤ h'.n ∧ v = .tuple #[] ∧ h' = h := fun w' hb =>
  ⟨.tuple #[],.tuple #[],h,μ,rfl,.tuple rfl (fun i hi => by simp at hi),HRel.under rel hb,hb.mono rel.base,fun _ _ => rfl,Nat.le_refl _,rfl,rfl⟩
 by_cases hz : l = []
 ·subst hz
  have e0 : ∃ p cap,args'.getD 0 unk = .slice p 0 cap := by
   have q : VRel μ v (args'.getD 0 unk) := h0
   generalize args'.getD 0 unk = X at q
   rcases hl with ⟨_,rfl,_,_⟩ | ⟨x,md,e,_,rfl,_⟩
   ·cases q; exact ⟨_,_,rfl⟩
   ·cases q <;> exact ⟨_,_,rfl⟩
  obtain ⟨p,cap,e0⟩ := e0
  rw [harg _ e0]
  have key := Any.slices_Sort_int_none lays189 p cap w
  refine Calls.mono key ?_
  rintro e' w' ⟨rfl,rfl⟩
  exact fin _ (Below.refl _ _)
 ·have hpos : 0 < l.length := List.length_pos_iff.2 hz
  rcases hl with ⟨_,_,h3,_⟩ | ⟨x,md,e,_,rfl,hx,hlen,hro,_⟩
  ·omega
  ·obtain ⟨mi,hm,hlt,hcells⟩ := cell_of_rel rel hx
   have e0 : ∃ cap,args'.getD 0 unk = .slice (some ⟨mi.cb,mi.dl + 0,none⟩) l.length cap := by
    have q : VRel μ (.slice (some ⟨x,0,none⟩) l.length l.length) (args'.getD 0 unk) := h0
    generalize args'.getD 0 unk = X at q
    generalize hq : (Value.slice (some ⟨x,0,none⟩) l.length l.length) = y at q
    cases q with
    | slice hm2 hc2 => cases hq; rw [hm] at hm2; cases hm2; exact ⟨_,rfl⟩
    | sempty => simp at hq; exact absurd hq.2 hz
    | _ => cases hq
   obtain ⟨cap,e0⟩ := e0
   rw [harg _ e0]
   have hlm : (l.map fun n : Nat => (n : Int)).length = l.length := List.length_map _
   have hH : Go.Sort.Holds (Value.int .i64) w mi.cb (mi.dl + 0) (l.map fun n : Nat => (n : Int)).toArray := fun j hj => by
    have hj' : j < l.length := by simpa using hj
    have hjc : j < (l.map ei).length := by rw [List.length_map]; exact hj'
    obtain ⟨u,hu,hr⟩ := hcells j hjc
    have hfz := frozen_of_rel rel hx hro hm hjc
    rw [Nat.add_zero]
    refine ⟨?_,hfz⟩
    rw [hu]
    have hce : (l.map ei)[j] = ei l[j] := List.getElem_map _
    rw [hce] at hr
    have hz : ((l.map fun n : Nat => (n : Int)).toArray)[j]! = ((l[j] : Nat) : Int) := by simp [hj']
    rw [hz]
    generalize hq : ei l[j] = q at hr
    cases hr <;> first | (cases hq; rfl) | cases hq
   have key := Any.slices_Sort_int lays189 mi.cb (mi.dl + 0) cap (l.map fun n : Nat => (n : Int)) w hH hlt (by rw [hlm]; exact Nat.lt_of_le_of_lt hn (by decide))
   rw [asc_sorted hd,hlm] at key
   refine Calls.mono key ?_
   rintro e' w' ⟨rfl,n,os,rfl⟩
   refine fin _ ?_
   rw [Go.Sort.putRow_ahead,Go.Sort.putRow_self _ _ _ _ _ hH]
   exact Below.grow n os
theorem values_okJ (a : Option Addr) (n c : Nat) (h : Heap) : ACalls Tryz.prog 167 [.slice a n c] h fun r h' => r = .func (.func 190) #[] #[.pointer (some ⟨h.n,0,none⟩)] ∧ h' = h.push (.cells [.slice a n c] .ex 1) := by
 refine acalls_of mix Tryz.func167 k167 n167 (by simp) fun hcl hb => ?_
 have hm : mcells (.slice a n c) = some [.slice a n c] := rfl
 simp [c167,hm]
theorem sorted_ok (bx : Nat) (l : List Nat) (v : Value) (m : BMode) (e : Nat) (h : Heap) (hbx : h.cellsOf bx = some ([v],m,e)) (hl : Sl ei h v l) (hn : l.length ≤ 1000000) (hd : l.Pairwise (· < ·)) :
  ACalls Tryz.prog 166 [.func (.func 190) #[] #[.pointer (some ⟨bx,0,none⟩)]] h fun r h' => NewI h h' r l := by
 refine acalls_of mix Tryz.func166 k166 n166 (by simp) fun hcl hb => ?_
 simp [c166]
 refine ACalls.mono' (R := fun r h' => NewI h h' r l) ?_ ?_
 ·refine acalls_of mix Tryz.func188 k188 n188 (by simp) fun hcl hb => ?_
  simp [c188]
  exact appseq_ok bx l v m e h hbx hl hn
 ·rintro v1 H1 hc1 _ n1
  obtain ⟨nm,l1,x1,g1⟩ := n1
  refine (sort_ok l nm v1 H1 l1 hn hd).eqK ?_
  simp
  exact ⟨nm,l1,x1,g1⟩
def c139 : AC := sO [oP 8 (.mv (.const (.slice none 0 0))),oP 9 (.mv (.const (.slice none 0 0))),oP 10 (.mv (kI 0))] (sO [mV 21 0,mV 22 1,oP 23 (.call 162 [tP 21,tP 22]),mV 20 23,oP 24 (xR 20 0),oP 25 (xR 20 1),mV 11 24,mV 12 25] (sO [mV 27 0,oP 28 (.call 163 [tP 27]),mV 26 28,oP 29 (xR 26 0),oP 30 (xR 26 1),oP 13 (.alloc [.int .i64 0]),nP (.store 1 (tP 13) (tP 29)),mV 14 30] (sO [oP 31 (.mkF (.func 164) [] [tP 13]),mV 15 31] (.seq (sO [mV 32 12,oP 33 (bK .neq 32 0),mV 34 33,gP 35 34 false (.mv (tP 2)),gP 36 34 false (.mv (tP 15)),gP 37 34 false (.call 135 [tP 35,tP 36]),oP 38 (pT 34 37)] (cT 38 (sO [oP 8 (.mv (.const (.slice none 0 0))),oP 9 (.mv (.const (.slice none 0 0))),oP 10 (.mv (kI 1))] .ret) .skip)) (sO [mV 39 2,oP 40 (.call 167 [tP 39]),oP 41 (.call 166 [tP 40]),oP 42 (.call 165 [tP 41]),mV 16 42] (.seq (sO [mV 43 16,oP 44 (lS 43),oP 45 (lN 13),mV 46 14,oP 47 (bT .sub 45 46),oP 48 (bT .gtr 44 47)] (cT 48 (sO [oP 8 (.mv (.const (.slice none 0 0))),oP 9 (.mv (.const (.slice none 0 0))),oP 10 (.mv (kI 8))] .ret) .skip)) (.seq (sO [mV 49 0,mV 50 1,oP 51 (.call 168 [tP 49,tP 50])] (cT 51 (sO [mV 52 1,oP 53 (.call 169 [tP 52]),mV 8 53,oP 9 (.mv (.const (.slice none 0 0))),oP 10 (.mv (kI 0))] .ret) .skip)) (.seq (.draw [([mV 54 0,oP 56 (lN 13),oP 57 (lN 13),mV 58 14,oP 59 (bT .sub 57 58),mV 60 11,mV 61 16],[oP 55 (.call 170 [tP 54])],[oP 56 (lN 13),oP 57 (lN 13)]),([oP 62 (.build [.pointer none,.int .i64 0,.int .i64 0,.slice none 0 0,.slice none 0 0,.slice none 0 0] [(0,1,.tmp 55),(1,1,.tmp 56),(2,1,.tmp 59),(3,1,.tmp 60),(4,1,.tmp 61)])],[oP 63 (.box (tP 62))],[]),([mV 17 63],[],[])]) (sO [mV 64 17,oP 65 (.call 171 [tP 64])] (sO [mV 67 17,mV 68 1,mV 69 3,mV 70 17,oP 71 (.callv (tP 69) [tP 70]),oP 72 (.call 172 [tP 67,tP 68,tP 71]),mV 66 72,oP 73 (xR 66 0),oP 74 (xR 66 1),mV 18 73,mV 19 74] (.seq (sO [mV 75 19,oP 76 (.un .not (tP 75)),mV 77 76,gP 78 77 false (.mv (tP 0)),gP 79 77 false (.mv (tP 18)),gP 80 77 false (.call 168 [tP 78,tP 79]),gP 81 77 false (.un .not (tP 80)),oP 82 (pT 77 81)] (cT 82 (sO [oP 8 (.mv (.const (.slice none 0 0))),oP 9 (.mv (.const (.slice none 0 0))),oP 10 (.mv (kI 8))] .ret) .skip)) (sO [mV 83 18,mV 84 1,mV 85 18,oP 86 (.call 173 [tP 84,tP 85]),mV 8 83,mV 9 86,oP 10 (.mv (kI 0))] .ret))))))))))))
theorem k139 : compF Tryz.prog Tryz.f139 = some (c139,[8,9,10]) := by kernel_rfl
theorem n139 : Tryz.f139.ntmps = 87 := by kernel_rfl
def c106 : AC := sO [oP 6 (.mv (.const (.slice none 0 0))),oP 7 (.mv (.const (.slice none 0 0))),oP 8 (.mv (kI 0))] (sO [mV 9 0,mV 10 1,mV 11 2,oP 12 (.call 139 [tP 9,tP 10,tP 11,.func 140]),oP 13 (xR 12 0),oP 14 (xR 12 1),oP 15 (xR 12 2),mV 6 13,mV 7 14,mV 8 15] .ret)
theorem k106 : compF Tryz.prog Tryz.f106 = some (c106,[6,7,8]) := by kernel_rfl
theorem n106 : Tryz.f106.ntmps = 16 := by kernel_rfl
theorem NewI.sl {h H : Heap} {v : Value} {l : List Nat} (n : NewI h H v l) : Sl ei H v l := by
 obtain ⟨nm,q,_⟩ := n
 rcases q with ⟨_,rfl,h1,h2⟩ | ⟨x,md,e,_,rfl,h3,h4,_⟩
 ·refine .inl ⟨0,?_,List.eq_nil_of_length_eq_zero h1⟩
  rfl
 ·refine .inr ⟨x,0,_,_,md,e,rfl,h3,Nat.le_refl _,fun _ => by rw [List.length_map]; omega,fun i hi => by simp [hi]⟩
theorem NewI.gr {h H : Heap} {v : Value} {l : List Nat} (n : NewI h H v l) : Gr h H := by obtain ⟨_,_,_,g⟩ := n; exact g
def MR (n k : Nat) (E : List Nat) (w : List UInt8) (h : Heap) (r : Value) (h' : Heap) : Prop :=
 (n - k < E.length ∧ r = .tuple #[.slice none 0 0,.slice none 0 0,.int .i64 8] ∧ Gr h h') ∨ (E.length ≤ n - k ∧ ∃ vw,r = .tuple #[vw,.slice none 0 0,.int .i64 0] ∧ NewB h h' vw w)
theorem _root_.Go.Proofs.YtdnmkenamgfjoaaGreat.arba.NewB.from {a b c : Heap} {v : Value} {l : List UInt8} (g : Gr a b) (n : NewB b c v l) : NewB a c v l := by
 obtain ⟨nm,q,x,y⟩ := n
 exact ⟨nm,q,fun u e => Nat.le_trans g.n (x u e),g.trans y⟩
theorem by_ok (c f n k : Nat) (gv : Value) (hk : 1 ≤ k) (hnk : k < n) (hn : n ≤ 255) (hp : n - k ≤ 64) (w : List UInt8) (hw : w.length = n) (v ve vf : Value) (E : List Nat) (hE : ∀ x ∈ E,x < n) (hEa : E.Pairwise (· < ·)) (hEl : E.length ≤ 255) (h : Heap) (hc : CodeK h c f n k gv) (hl : SlB h v w) (hle : Sl ei h ve E)
  (hor : n - k < E.length ∨ rightF (n - k) w) : ACalls Tryz.prog 139 [.pointer (some ⟨c,0,none⟩),v,ve,vf] h (MR n k E w h) := by
 refine acalls_of mix Tryz.func139 k139 n139 (by simp) fun hcl hb => ?_
 simp only [c139,s_seq,s_ops]
 simp
 refine (synd_ok c f n k gv hk hnk hn hp w hw v h hc hl).mono' ?_
 rintro _ H1 hc1 _ ⟨vs,rfl,n1⟩
 have g1 := n1.gr
 have k1 := hc.keep g1
 simp
 refine (rssize_ok c f n k gv H1 k1).eqK ?_
 have hmn : mcells (.int .i64 (n : Int)) = some [.int .i64 (n : Int)] := rfl
 have c2 : (H1.push (.cells [.int .i64 (n : Int)] .ex 1)).Closed := closed_push hc1 (fun x hx => by simp at hx; subst hx; exact .int)
 have g2 : Gr h (H1.push (.cells [.int .i64 (n : Int)] .ex 1)) := g1.trans ⟨Nat.le_succ _,c2,keep_push hc1 _⟩
 have cn := cellsOf_new H1 [.int .i64 (n : Int)] .ex 1
 have cn0 := cellsOf_new H1 [.int .i64 0] .ex 1
 have hp1 : aput [.int .i64 0] 0 [.int .i64 (n : Int)] = [.int .i64 (n : Int)] := rfl
 simp [cn0,hmn,hp1,set_push]
 generalize H1.push (.cells [.int .i64 (n : Int)] .ex 1) = H2 at *
 have hle2 := Sl.keep hle g2.m
 refine (conov_ok n H1.n .ex E ve H2 cn hle2 (by omega)).eqK ?_
 have hAll : (∀ x : Nat,x ∈ E → x < n) = True := eq_true hE
 simp only [hAll,not_true_eq_false,decide_false]
 obtain ⟨a,cc,rfl⟩ := Sl.form hle
 simp
 refine (values_okJ a E.length cc H2).eqK ?_
 have c3 : (H2.push (.cells [.slice a E.length cc] .ex 1)).Closed := closed_push c2 (fun x hx => by simp at hx; subst hx; exact (Sl.below hle2 c2).mono (Nat.le_succ _))
 have g3 : Gr h (H2.push (.cells [.slice a E.length cc] .ex 1)) := g2.trans ⟨Nat.le_succ _,c3,keep_push c2 _⟩
 have cb := cellsOf_new H2 [.slice a E.length cc] .ex 1
 have cn3 := cellsOf_keep (keep_push c2 (.cells [.slice a E.length cc] .ex 1)) cn
 have hle3 := Sl.keep hle g3.m
 generalize H2.push (.cells [.slice a E.length cc] .ex 1) = H3 at *
 simp
 refine (sorted_ok H2.n E _ .ex 1 H3 cb hle3 (by omega) hEa).mono' ?_
 rintro v4 H4 c4 _ n4
 have g4 := g3.trans n4.gr
 have cn4 := cellsOf_keep n4.gr.m cn3
 simp
 refine (compD_ok E v4 H4 n4.sl (by omega) (fun i hi => ?_)).mono ?_
 ·have := List.pairwise_iff_getElem.1 hEa i (i + 1) (by omega) hi (by omega)
  rw [getElem!_pos E (i + 1) hi,getElem!_pos E i (by omega)]
  omega
 rintro _ h9 ⟨rfl,e⟩
 rw [e]; clear e h9
 obtain ⟨a4,cc4,e4⟩ := Sl.form n4.sl
 rw [e4]
 have wnk : IntKind.i64.wrap ((n : Int) - (k : Int)) = ((n - k : Nat) : Int) := wI (by omega)
 by_cases hm : n - k < E.length
 ·have hm' : ((n - k : Nat) : Int) < (E.length : Int) := by omega
  simp [cn4,apart,wnk,hm,hm']
  exact .inl ⟨hm,rfl,g4⟩
 ·have hm' : ¬ ((n - k : Nat) : Int) < (E.length : Int) := by omega
  have hR := hor.resolve_left hm
  simp [cn4,apart,wnk,hm,hm']
  refine (rsright_ok c f n k gv hk hnk hn hp w hw v H4 (hc.keep g4) (Sl.keep hl g4.m)).mono' ?_
  rintro _ H5 c5 _ ⟨rfl,g5⟩
  simp only [hR,decide_true]
  simp
  have g6 := g4.trans g5
  refine (clone_okJ w (fun q => by subst q; simp at hw; omega) v H5 (Sl.keep hl g6.m) (by omega)).mono' ?_
  rintro v7 H7 c7 _ n7
  simp
  exact .inr ⟨by omega,v7,rfl,NewB.from g6 n7⟩
theorem mend_ok (c f n k : Nat) (gv : Value) (hk : 1 ≤ k) (hnk : k < n) (hn : n ≤ 255) (hp : n - k ≤ 64) (w : List UInt8) (hw : w.length = n) (v ve : Value) (E : List Nat) (hE : ∀ x ∈ E,x < n) (hEa : E.Pairwise (· < ·)) (hEl : E.length ≤ 255) (h : Heap) (hc : CodeK h c f n k gv) (hl : SlB h v w) (hle : Sl ei h ve E)
  (hor : n - k < E.length ∨ rightF (n - k) w) : ACalls Tryz.prog 106 [.pointer (some ⟨c,0,none⟩),v,ve] h (MR n k E w h) := by
 refine acalls_of mix Tryz.func106 k106 n106 (by simp) fun hcl hb => ?_
 simp [c106]
 refine (by_ok c f n k gv hk hnk hn hp w hw v ve _ E hE hEa hEl h hc hl hle hor).mono ?_
 rintro r h' (⟨q1,rfl,q2⟩ | ⟨q1,vw,rfl,q2⟩)
 ·simp
  exact .inl ⟨q1,rfl,q2⟩
 ·simp
  exact .inr ⟨q1,vw,rfl,q2⟩
def c107_0 : AC := sO [oP 11 (bT .lss 10 9)] (.seq (cT 11 .skip (.exit 0)) (.seq (.block 1 (sO [oP 12 (iA 60 8 10),oP 13 (.load (some 60) (tP 12)),oP 7 (.alloc (zl .u8 60)),nP (.store 60 (tP 7) (tP 13))] (.ops [mV 14 5,mV 15 1,oP 16 (.iAddrA 60 1 (tP 7) (tP 15)),oP 17 (lN 16),oP 18 (.buildS 1 [.int .u8 0] [(0,1,.tmp 17)]),oP 19 (.app 1 1 5 (tP 14) (tP 18)),mV 5 19]))) (.ops [oP 20 (bK .add 10 1),mV 10 20])))
def c107 : AC := sO [oP 4 (.mv (.const (.slice none 0 0)))] (sO [oP 5 (.mv (.const (.slice none 0 0)))] (.seq (sO [mV 8 0,oP 9 (lS 8),oP 10 (.mv (kI 0))] (.block 0 (.loop c107_0))) (sO [mV 21 5,mV 4 21] .ret)))
theorem k107 : compF Tryz.prog Tryz.f107 = some (c107,[4]) := by kernel_rfl
theorem n107 : Tryz.f107.ntmps = 22 := by kernel_rfl
def c108_0 : AC := sO [oP 11 (bT .lss 10 9)] (.seq (cT 11 .skip (.exit 0)) (.seq (.block 1 (sO [mV 12 10,oP 13 (iA 1 8 10),oP 14 (lN 13),mV 6 12,mV 7 14] (.ops [mV 15 0,mV 16 6,mV 17 1,mV 18 7,oP 19 (iA 60 15 16),oP 20 (.iAddrA 60 1 (tP 19) (tP 17)),nP (.store 1 (tP 20) (tP 18))]))) (.ops [oP 21 (bK .add 10 1),mV 10 21])))
def c108 : AC := sO [mV 8 2,oP 9 (lS 8),oP 10 (.mv (kI 0))] (.block 0 (.loop c108_0))
theorem k108 : compF Tryz.prog Tryz.f108 = some (c108,[]) := by kernel_rfl
theorem n108 : Tryz.f108.ntmps = 22 := by kernel_rfl
def BlS (h : Heap) (v : Value) (L : List (List UInt8)) : Prop := (∀ x ∈ L,x.length = 60) ∧ ((∃ c,v = .slice none 0 c ∧ L = []) ∨ ∃ b o cap c m e,v = .slice (some ⟨b,o,none⟩) L.length cap ∧ h.cellsOf b = some (c,m,e) ∧ ∀ i (hi : i < L.length),acut c (o + i * 60) 60 = some (ubs L[i]))
theorem BlS.keep {h H : Heap} {v : Value} {L : List (List UInt8)} (s : BlS h v L) (hk : ∀ u ob,h.m u = some ob → H.m u = some ob) : BlS H v L := by
 obtain ⟨s1,s2⟩ := s
 refine ⟨s1,?_⟩
 rcases s2 with q | ⟨b,o,cap,c,m,e,h1,h2,h3⟩
 ·exact .inl q
 ·exact .inr ⟨b,o,cap,c,m,e,h1,cellsOf_keep hk h2,h3⟩
theorem BlS.form {h : Heap} {v : Value} {L : List (List UInt8)} (s : BlS h v L) : ∃ a c,v = .slice a L.length c := by
 rcases s.2 with ⟨c,rfl,rfl⟩ | ⟨b,o,cap,c,m,e,rfl,h2,h3⟩
 ·exact ⟨_,_,rfl⟩
 ·exact ⟨_,_,rfl⟩
theorem BlS.at {h : Heap} {a : Option Addr} {n cc : Nat} {L : List (List UInt8)} (s : BlS h (.slice a n cc) L) {i : Nat} (hi : i < L.length) : ∃ b o c m e,a = some ⟨b,o,none⟩ ∧ n = L.length ∧ h.cellsOf b = some (c,m,e) ∧ acut c (o + i * 60) 60 = some (ubs L[i]) := by
 rcases s.2 with ⟨c,_,rfl⟩ | ⟨b,o,cap,c,m,e,h1,h2,h3⟩
 ·simp at hi
 ·cases h1; exact ⟨b,o,c,m,e,rfl,rfl,h2,h3 i hi⟩
theorem BlS.below {h : Heap} {v : Value} {L : List (List UInt8)} (s : BlS h v L) (hc : h.Closed) : VBelow h.n v := by
 rcases s.2 with ⟨c,rfl,_⟩ | ⟨b,o,cap,c,m,e,rfl,h2,_⟩
 ·exact .snil
 ·exact .slice (cellsOf_lt hc h2)
theorem put60 {l : List UInt8} (h : l.length = 60) : aput (zl .u8 60) 0 (ubs l) = ubs l := by
 unfold aput
 rw [List.take_zero,List.nil_append,ubs_len,h,List.drop_of_length_le (by rw [zl_len]; omega),List.append_nil]
theorem m_agB (l : List UInt8) : mcells (agB l) = some (ubs l) := rfl
theorem _root_.Go.Proofs.YtdnmkenamgfjoaaGreat.lin1.Gr.pushB {h H : Heap} (g : Gr h H) (l : List UInt8) (m : BMode) (e : Nat) : Gr h (H.push (.cells (ubs l) m e)) := g.push ubs_bel
theorem _root_.Go.Proofs.YtdnmkenamgfjoaaGreat.arba.NewB.grow {a b c : Heap} {v : Value} {l : List UInt8} (n : NewB a b v l) (g : Gr b c) : NewB a c v l := by
 obtain ⟨nm,q,x,y⟩ := n
 refine ⟨nm,?_,x,y.trans g⟩
 rcases q with q | ⟨u,md,e,h1,h2,h3,h4⟩
 ·exact .inl q
 ·exact .inr ⟨u,md,e,h1,h2,cellsOf_keep g.m h3,h4⟩
def colF (L : List (List UInt8)) (p : Nat) : List UInt8 := L.map fun l => l[p]!
structure CoS where
 i : Nat
 v : Value
 H : Heap
theorem column_ok (v : Value) (L : List (List UInt8)) (p : Nat) (hp : p < 60) (hL : L.length ≤ 1000) (h : Heap) (hl : BlS h v L) :
  ACalls Tryz.prog 107 [v,.int .i64 (p : Int)] h fun r h' => NewB h h' r (colF L p) := by
 refine acalls_of mix Tryz.func107 k107 n107 (by simp) fun hcl hb => ?_
 have bl := hl.below hcl
 obtain ⟨a,cc,rfl⟩ := hl.form
 simp [c107]
 refine awp_loop_of (α := CoS) (fun z => z.i ≤ L.length ∧ NewB h z.H z.v (colF (L.take z.i) p)) (fun z => [(1,.int .i64 p),(5,z.v),(8,.slice a L.length cc),(9,.int .i64 L.length),(10,.int .i64 z.i)]) (fun z => z.H) (fun z => L.length - z.i) ⟨0,.slice none 0 0,h⟩
  ⟨Nat.zero_le _,NewB.nil hcl⟩ (Heap.Sub.refl hcl) (by simp; exact ⟨.int,.snil,bl,.int,.int⟩) ?_
 rintro ⟨i,w,H⟩ ⟨hi,nb⟩
 dsimp only at hi nb ⊢
 have gH := nb.gr
 by_cases hlt : i < L.length
 ·have hi' : (i : Int) < (L.length : Int) := by omega
  have w4 := w64n (i := i) (by omega)
  obtain ⟨b1,o1,c1,m1,e1,rfl,_,hc1,hcut⟩ := (hl.keep gH.m).at hlt
  have hx60 : (L[i]).length = 60 := hl.1 _ (List.getElem_mem hlt)
  have f1 := cellsOf_new H (zl .u8 60) .ex 1
  have f2 := cellsOf_new H (ubs L[i]) .ex 1
  have g2 := gH.pushB L[i] .ex 1
  have gs : Gr H (H.push (.cells (ubs L[i]) .ex 1)) := (Gr.refl gH.cl).pushB _ _ _
  have hpc : (ubs L[i])[p]? = some (.int .u8 ((L[i][p]).toNat : Int)) := ubs_get (by omega)
  have nb2 := nb.grow gs
  have hlen : (colF (L.take i) p).length = i := by unfold colF; rw [List.length_map,List.length_take]; omega
  obtain ⟨a,ev,v2,H2,happ,n2⟩ := nb2.byte hcl (L[i][p]) (by rw [hlen]; omega)
  rw [hlen] at ev happ
  have hfst := first1J (H.push (.cells (ubs L[i]) .ex 1)) (L[i][p])
  have hn1 : (H.push (.cells (ubs L[i]) .ex 1)).n = H.n + 1 := rfl
  rw [hn1] at hfst
  have hcs : colF (L.take i) p ++ [L[i][p]] = colF (L.take (i + 1)) p := by
   unfold colF
   rw [List.take_succ_eq_append_getElem hlt,List.map_append]
   simp [show p < (L[i]).length by omega]
  rw [hcs] at n2
  subst ev
  have hp60 : p < 60 := hp
  simp [c107_0, hi', aidx_of hlt, hc1, apart, hcut, f1, m_agB, ubs_len, hx60, zl_len, put60 hx60, set_push, f2, aidx_of hp, hpc, fil1J, alen, hfst, happ, w4, -Int.natCast_add]
  exact ⟨⟨i + 1,v2,H2⟩,by show L.length - (i + 1) < L.length - i; omega,⟨by show i + 1 ≤ L.length; omega,n2⟩,⟨n2.gr.n,Nat.le_refl _,fun _ _ e => e,n2.gr.cl⟩,.int,⟨rfl,n2.below⟩,bl.mono n2.gr.n,.int,rfl,.int⟩
 ·have hie : i = L.length := by omega
  subst hie
  rw [List.take_length] at nb
  simp [c107_0]
  exact nb
theorem putB_one {α : Type} (F : List α) (k : Nat) (b : α) (h : k < F.length) : putB F k [b] = F.set k b := by
 unfold putB
 rw [List.set_eq_take_append_cons_drop,if_pos h]
 simp
theorem flat60_len {L : List (List UInt8)} (h : ∀ x ∈ L,x.length = 60) : L.flatten.length = L.length * 60 := by
 induction L with
 | nil => rfl
 | cons x L ih =>
   rw [List.flatten_cons,List.length_append,h x (by simp),ih fun y hy => h y (by simp [hy])]
   simp; omega
theorem flat_set {L : List (List UInt8)} (h : ∀ x ∈ L,x.length = 60) (p : Nat) (hp : p < 60) (b : UInt8) : ∀ (i : Nat) (hi : i < L.length),L.flatten.set (i * 60 + p) b = (L.set i (L[i].set p b)).flatten := by
 induction L with
 | nil => intro i hi; simp at hi
 | cons x L ih =>
   intro i hi
   have hx := h x (by simp)
   match i with
   | 0 => simp [List.set_append_left,hx,hp]
   | i + 1 =>
     have := ih (fun y hy => h y (by simp [hy])) i (by simpa using hi)
     simp only [List.flatten_cons,List.set_cons_succ,List.getElem_cons_succ]
     rw [List.set_append_right _ _ (by omega),← this,hx]
     congr 2
     omega
theorem flat_cut {L : List (List UInt8)} (h : ∀ x ∈ L,x.length = 60) : ∀ (i : Nat) (hi : i < L.length),acut (ubs L.flatten) (i * 60) 60 = some (ubs L[i]) := by
 induction L with
 | nil => intro i hi; simp at hi
 | cons x L ih =>
   intro i hi
   have hx := h x (by simp)
   match i with
   | 0 =>
     unfold acut
     rw [if_pos (by rw [ubs_len]; simp; omega)]
     simp [ubs,hx]
   | i + 1 =>
     have q := ih (fun y hy => h y (by simp [hy])) i (by simpa using hi)
     unfold acut at q ⊢
     split at q
     ·rename_i hle
      rw [if_pos (by rw [ubs_len] at hle ⊢; simp at hle ⊢; omega)]
      simp only [List.getElem_cons_succ]
      rw [← q]
      simp only [List.flatten_cons,ubs_app]
      rw [List.drop_append,List.drop_of_length_le (by rw [ubs_len]; omega),List.nil_append,ubs_len,hx]
      congr 3
      omega
     ·cases q
def setK (L : List (List UInt8)) (p : Nat) (w : List UInt8) : Nat → List (List UInt8)
 | 0 => L
 | j + 1 => (setK L p w j).set j ((setK L p w j)[j]!.set p (w[j]!))
theorem setK_len (L : List (List UInt8)) (p : Nat) (w : List UInt8) : ∀ j,(setK L p w j).length = L.length
 | 0 => rfl
 | j + 1 => by show ((setK L p w j).set j _).length = _; rw [List.length_set,setK_len L p w j]
theorem setK_60 {L : List (List UInt8)} (h : ∀ x ∈ L,x.length = 60) (p : Nat) (w : List UInt8) : ∀ j,j ≤ L.length → ∀ x ∈ setK L p w j,x.length = 60
 | 0,_,x,hx => h x hx
 | j + 1,hj,x,hx => by
   rcases List.mem_or_eq_of_mem_set hx with h1 | h1
   ·exact setK_60 h p w j (by omega) x h1
   ·rw [h1,List.length_set]
    rw [getElem!_pos _ j (by rw [setK_len]; omega)]
    exact setK_60 h p w j (by omega) _ (List.getElem_mem _)
theorem bput_ok (x cap p : Nat) (md : BMode) (e : Nat) (L : List (List UInt8)) (hL : ∀ l ∈ L,l.length = 60) (hp : p < 60) (hLl : L.length ≤ 1000) (w : List UInt8) (hw : w.length = L.length) (v : Value) (h : Heap)
  (hx : h.cellsOf x = some (ubs L.flatten,md,e)) (hro : md ≠ .ro) (hv : ∀ c,SlB (h.set x (.cells c md e)) v w) (hcap : L.length ≤ cap) :
  ACalls Tryz.prog 108 [.slice (some ⟨x,0,none⟩) L.length cap,.int .i64 (p : Int),v] h fun r h' => h' = h.set x (.cells (ubs (setK L p w L.length).flatten) md e) := by
 refine acalls_of mix Tryz.func108 k108 n108 (by simp) fun hcl hb => ?_
 have bl := hb v (by simp)
 have bx := cellsOf_lt hcl hx
 obtain ⟨a,cc,rfl⟩ := Sl.form (hv [])
 have hcc : ∀ j,(h.set x (.cells (ubs (setK L p w j).flatten) md e)).Closed := fun j => closed_set hcl bx ubs_bel
 simp [c108]
 refine awp_loop_of (α := Nat) (fun j => j ≤ L.length) (fun j => [(0,.slice (some ⟨x,0,none⟩) L.length cap),(1,.int .i64 p),(8,.slice a w.length cc),(9,.int .i64 w.length),(10,.int .i64 (j : Int))]) (fun j => h.set x (.cells (ubs (setK L p w j).flatten) md e)) (fun j => L.length - j) 0
  (Nat.zero_le _) ⟨Nat.le_refl _,Nat.le_refl _,fun u ob q => by
   have e0 : h.set x (.cells (ubs (setK L p w 0).flatten) md e) = h := set_same (m_of_cells hx)
   rw [e0] at q; exact q,hcc 0⟩ (by simp; exact ⟨.slice bx,.int,bl,.int,.int⟩) ?_
 rintro j hj
 have cx3 := cells_setJ' h x (ubs (setK L p w j).flatten) md e
 by_cases hlt : j < L.length
 ·have hi' : (j : Int) < (w.length : Int) := by omega
  have hjw : j < w.length := by omega
  have w4 := w64n (i := j) (by omega)
  obtain ⟨b1,o1,c1,m1,e1,rfl,_,g1,g1'⟩ := Sl.at (hv (ubs (setK L p w j).flatten)) hjw
  have h60 := setK_60 hL p w j (by omega)
  have hlen := setK_len L p w j
  have hfl := flat60_len h60
  have hst : aput (ubs (setK L p w j).flatten) (j * 60 + p) [.int .u8 ((w[j]).toNat : Int)] = ubs (setK L p w (j + 1)).flatten := by
   rw [aput_ubs1,putB_one _ _ _ (by omega),flat_set h60 p hp _ j (by omega)]
   show _ = ubs ((setK L p w j).set j ((setK L p w j)[j]!.set p (w[j]!))).flatten
   rw [getElem!_pos (setK L p w j) j (by omega),getElem!_pos w j hjw]
  have hss : ∀ a b : AObj,(h.set x a).set x b = h.set x b := fun a b => set_set _ _ _ _
  have hle : j * 60 + p + 1 ≤ L.length * 60 := by omega
  have hm1 : ∀ b : UInt8,mcells (.int .u8 (b.toNat : Int)) = some [.int .u8 (b.toNat : Int)] := fun _ => rfl
  simp [c108_0, hi', aidx_of hjw, g1, apart, g1', eb, aidx_of hlt, aidx_of hp, cx3, hm1, hro, ubs_len, hfl, hlen, hle, hst, hss, w4, -Int.natCast_add]
  exact ⟨j + 1,by omega,by omega,⟨Nat.le_refl _,Nat.le_refl _,fun _ _ q => q,hcc _⟩,.slice bx,.int,bl,.int,rfl,.int⟩
 ·have hje : j = L.length := by omega
  subst hje
  have hn' : ¬ (L.length : Int) < (w.length : Int) := by omega
  simp [c108_0,hn']
def c65 : AC := sO [oP 2 (.mv kF)] (.seq (.block 0 (.loop (.seq (sO [mV 3 0,oP 4 (lS 3),oP 5 (bK .gtr 4 0)] (cT 5 .skip (.exit 0))) (.seq (.block 1 (.seq (.draw [([mV 8 0,oP 9 (.iAddrS 1 (tP 8) (kI 1)),oP 10 (lN 9),mV 11 0,oP 12 (.iAddrS 1 (tP 11) (kI 0)),oP 13 (lN 12),oP 14 (bT .lss 10 13),mV 15 14,gP 16 15 false (.mv (tP 0)),gP 17 15 false (.iAddrS 1 (tP 16) (kI 1)),gP 18 15 false (lN 17),gP 19 15 false (.mv (tP 0)),gP 20 15 false (.iAddrS 1 (tP 19) (kI 2)),gP 21 15 false (lN 20),gP 22 15 false (bT .gtr 18 21),oP 23 (pT 15 22)],[],[])]) (cT 23 (sO [oP 2 (.mv kF)] .ret) .skip))) (.ops [mV 6 0,oP 7 (.slV 1 (tP 6) (some (kI 3)) none none),mV 0 7]))))) (sO [oP 2 (.mv kT)] .ret))
theorem k65 : compF Tryz.prog Tryz.f65 = some (c65,[2]) := by kernel_rfl
theorem n65 : Tryz.f65.ntmps = 24 := by kernel_rfl
def c47 : AC := sO [oP 1 (.box (tP 0)),oP 2 (.mv kF)] (sO [oP 3 (fA 0 1),oP 4 (lN 3),oP 5 (fA 1 1),oP 6 (lN 5),oP 7 (fA 2 1),oP 8 (lN 7),oP 9 (.buildS 9 [.int .i64 0,.int .i64 0,.int .i64 0,.int .i64 0,.int .i64 0,.int .i64 0,.int .i64 0,.int .i64 0,.int .i64 0] [(0,1,.const (.int .i64 1)),(1,1,.tmp 4),(2,1,.const (.int .i64 8)),(3,1,.const (.int .i64 2)),(4,1,.tmp 6),(5,1,.const (.int .i64 6)),(6,1,.const (.int .i64 1)),(7,1,.tmp 8),(8,1,.const (.int .i64 8))]),oP 10 (.call 65 [tP 9]),mV 2 10] .ret)
theorem k47 : compF Tryz.prog Tryz.f47 = some (c47,[2]) := by kernel_rfl
theorem n47 : Tryz.f47.ntmps = 11 := by kernel_rfl
def c70 : AC := sO [oP 1 (.box (tP 0)),oP 2 (.mv (kI 0))] (.seq (sO [oP 3 (.load (some 3) (tP 1)),oP 4 (.call 47 [tP 3]),oP 5 (.un .not (tP 4))] (cT 5 (sO [oP 2 (.mv (kI 0))] .ret) .skip)) (sO [oP 6 (fA 0 1),oP 7 (lN 6),oP 8 (fA 1 1),oP 9 (lN 8),oP 10 (bT .add 7 9),mV 2 10] .ret))
theorem k70 : compF Tryz.prog Tryz.f70 = some (c70,[2]) := by kernel_rfl
theorem n70 : Tryz.f70.ntmps = 11 := by kernel_rfl
def c35 : AC := sO [oP 1 (.box (tP 0)),oP 2 (.mv (kI 0))] (.seq (.draw [([oP 3 (.load (some 3) (tP 1)),oP 5 (fA 2 1),oP 6 (lN 5),oP 7 (.mx [tP 6,.const (.int .i64 0)])],[oP 4 (.call 70 [tP 3])],[oP 6 (lN 5)]),([oP 8 (bT .mul 4 7),mV 2 8],[],[])]) .ret)
theorem k35 : compF Tryz.prog Tryz.f35 = some (c35,[2]) := by kernel_rfl
theorem n35 : Tryz.f35.ntmps = 9 := by kernel_rfl
def c66 : AC := sO [oP 1 (.box (tP 0)),oP 2 (.mv (kI 0))] (sO [oP 3 (.load (some 3) (tP 1)),oP 4 (.call 35 [tP 3]),oP 5 (.bin .mul (kI 3) (tP 4)),mV 2 5] .ret)
theorem k66 : compF Tryz.prog Tryz.f66 = some (c66,[2]) := by kernel_rfl
theorem n66 : Tryz.f66.ntmps = 6 := by kernel_rfl
def c58 : AC := sO [oP 1 (.box (tP 0)),oP 2 (.mv (kI 0))] (.seq (sO [oP 3 (.load (some 3) (tP 1)),oP 4 (.call 47 [tP 3]),oP 5 (.un .not (tP 4))] (cT 5 (sO [oP 2 (.mv (kI 0))] .ret) .skip)) (sO [oP 6 (.load (some 3) (tP 1)),oP 7 (.call 66 [tP 6]),oP 8 (bK .add 7 16),oP 9 (bK .add 8 2),mV 2 9] .ret))
theorem k58 : compF Tryz.prog Tryz.f58 = some (c58,[2]) := by kernel_rfl
theorem n58 : Tryz.f58.ntmps = 10 := by kernel_rfl
def c71 : AC := sO [oP 4 (.box (tP 0)),oP 8 (.mv (kI 0)),oP 9 (.mv (kI 0))] (.seq (.block 0 (sO [oP 11 (.load (some 3) (tP 4)),oP 12 (.call 47 [tP 11]),oP 13 (.un .not (tP 12)),mV 10 13] (cT 10 (sO [oP 8 (.mv (kI 0)),oP 9 (.mv (kI 1))] .ret) (.seq (.draw [([mV 15 1,mV 16 2,oP 17 (fA 2 4),oP 18 (lN 17),oP 19 (bK .sub 18 1),mV 20 3,oP 21 (.load (some 3) (tP 4))],[oP 22 (.call 70 [tP 21])],[oP 18 (lN 17)]),([oP 23 (bK .sub 22 1)],[oP 24 (.buildS 9 [.int .i64 0,.int .i64 0,.int .i64 0,.int .i64 0,.int .i64 0,.int .i64 0,.int .i64 0,.int .i64 0,.int .i64 0] [(0,1,.const (.int .i64 0)),(1,1,.tmp 15),(2,1,.const (.int .i64 2)),(3,1,.const (.int .i64 0)),(4,1,.tmp 16),(5,1,.tmp 19),(6,1,.const (.int .i64 0)),(7,1,.tmp 20),(8,1,.tmp 23)])],[]),([],[oP 25 (.call 65 [tP 24])],[]),([oP 26 (.un .not (tP 25)),mV 14 26],[],[])]) (cT 14 (sO [oP 8 (.mv (kI 0)),oP 9 (.mv (kI 2))] .ret) .skip))))) (.seq (.draw [([mV 27 1,oP 28 (.load (some 3) (tP 4)),mV 31 3,oP 32 (fA 2 4),oP 33 (lN 32),oP 34 (bT .mul 31 33),mV 36 2],[oP 29 (.call 35 [tP 28])],[oP 33 (lN 32)]),([oP 30 (bT .mul 27 29),oP 35 (bT .add 30 34),oP 37 (bT .add 35 36),mV 8 37,oP 9 (.mv (kI 0))],[],[])]) .ret))
theorem k71 : compF Tryz.prog Tryz.f71 = some (c71,[8,9]) := by kernel_rfl
theorem n71 : Tryz.f71.ntmps = 38 := by kernel_rfl
def c28 : AC := sO [oP 2 (.box (tP 0)),oP 4 (.mv (kI 0)),oP 5 (.mv (kI 0)),oP 6 (.mv (kI 0)),oP 7 (.mv kF)] (.seq (sO [oP 9 (.load (some 3) (tP 2)),oP 10 (.call 47 [tP 9]),oP 11 (.un .not (tP 10)),mV 12 11,gP 13 12 false (.mv (tP 1)),gP 14 12 false (.load (some 3) (tP 2)),gP 15 12 false (.call 66 [tP 14]),gP 16 12 false (bK .sub 15 1),gP 17 12 false (.buildS 3 [.int .i64 0,.int .i64 0,.int .i64 0] [(0,1,.const (.int .i64 0)),(1,1,.tmp 13),(2,1,.tmp 16)]),gP 18 12 false (.call 65 [tP 17]),gP 19 12 false (.un .not (tP 18)),oP 20 (pT 12 19)] (cT 20 (sO [oP 4 (.mv (kI 0)),oP 5 (.mv (kI 0)),oP 6 (.mv (kI 0)),oP 7 (.mv kF)] .ret) .skip)) (sO [mV 21 1,oP 22 (.load (some 3) (tP 2)),oP 23 (.call 35 [tP 22]),oP 24 (bT .rem 21 23),mV 8 24] (.seq (.draw [([mV 25 1,oP 26 (.load (some 3) (tP 2)),mV 29 8,oP 30 (fA 2 2),oP 31 (lN 30),oP 32 (bT .rem 29 31),mV 33 8,oP 34 (fA 2 2),oP 35 (lN 34),oP 36 (bT .quo 33 35)],[oP 27 (.call 35 [tP 26])],[oP 31 (lN 30),oP 35 (lN 34)]),([oP 28 (bT .quo 25 27),mV 4 28,mV 5 32,mV 6 36,oP 7 (.mv kT)],[],[])]) .ret)))
theorem k28 : compF Tryz.prog Tryz.f28 = some (c28,[4,5,6,7]) := by kernel_rfl
theorem n28 : Tryz.f28.ntmps = 37 := by kernel_rfl
def c20 : AC := sO [oP 1 (.box (tP 0)),oP 2 (.mv kF)] (sO [oP 3 (fA 0 1),oP 4 (lN 3),oP 5 (bK .geq 4 1),mV 6 5,gP 7 6 true (fA 0 1),gP 8 6 true (lN 7),gP 9 6 true (bK .leq 8 8),oP 10 (pF 6 9),mV 11 10,gP 12 11 true (fA 1 1),gP 13 11 true (lN 12),gP 14 11 true (bK .geq 13 2),oP 15 (pF 11 14),mV 16 15,gP 17 16 true (fA 1 1),gP 18 16 true (lN 17),gP 19 16 true (bK .leq 18 6),oP 20 (pF 16 19),mV 21 20,gP 22 21 true (fA 2 1),gP 23 21 true (lN 22),gP 24 21 true (bK .geq 23 1),oP 25 (pF 21 24),mV 26 25,gP 27 26 true (fA 2 1),gP 28 26 true (lN 27),gP 29 26 true (bK .leq 28 8),oP 30 (pF 26 29),mV 2 30] .ret)
theorem k20 : compF Tryz.prog Tryz.f20 = some (c20,[2]) := by kernel_rfl
theorem n20 : Tryz.f20.ntmps = 31 := by kernel_rfl
theorem i64_sg {n : Int} (h0 : -9223372036854775808 ≤ n) (h1 : n < 9223372036854775808) : IntKind.i64.wrap n = n := IntWalk.i64_in _ (by omega)
def gv (d p s : Int) : Value := .agg #[.int .i64 d,.int .i64 p,.int .i64 s]
def within : List Int → Bool
 | lo :: x :: hi :: r => decide (lo ≤ x) && decide (x ≤ hi) && within r
 | _ => true
theorem within_drop (l : List Int) (j : Nat) (h : j + 2 < l.length) : within (l.drop j) = (decide (l[j] ≤ l[j + 1]) && decide (l[j + 1] ≤ l[j + 2]) && within (l.drop (j + 3))) := by
 rw [List.drop_eq_getElem_cons (by omega : j < l.length),List.drop_eq_getElem_cons (by omega : j + 1 < l.length),List.drop_eq_getElem_cons (by omega : j + 2 < l.length)]
 rfl
theorem within_ok (l : List Int) (k : Nat) (b : Nat) (h : Heap) (hk : l.length = 3 * k) (hb' : h.cellsOf b = some (l.map cI,.ex,1)) (hlen : k ≤ 1000000) :
  ACalls Tryz.prog 65 [.slice (some ⟨b,0,none⟩) (3 * k) (3 * k)] h fun v h' => v = .bool (within l) ∧ h' = h := by
 refine acalls_of mix Tryz.func65 k65 n65 (by simp) fun hcl hb => ?_
 have hbn := cellsOf_lt hcl hb'
 simp [c65]
 refine awp_loop_of (α := Nat) (fun j => j ≤ k ∧ within l = within (l.drop (3 * j))) (fun j => [(0,.slice (some ⟨b,3 * j,none⟩) (3 * k - 3 * j) (3 * k - 3 * j))]) (fun _ => h) (fun j => k - j) 0
  ⟨Nat.zero_le _,by simp⟩ (Heap.Sub.refl hcl) (by simp; exact vb_slice hbn) ?_
 rintro j ⟨hj,hw⟩
 by_cases hlt : j < k
 ·have hlt' : (0 : Int) < ((3 * k - 3 * j : Nat) : Int) := by omega
  have i0 : aidx (.int .i64 0) (3 * k - 3 * j) = some 0 := aidx_of (i := 0) (by omega)
  have i1 : aidx (.int .i64 1) (3 * k - 3 * j) = some 1 := aidx_of (i := 1) (by omega)
  have i2 : aidx (.int .i64 2) (3 * k - 3 * j) = some 2 := aidx_of (i := 2) (by omega)
  have l0 : 3 * j < l.length := by omega
  have l1 : 3 * j + 1 < l.length := by omega
  have l2 : 3 * j + 2 < l.length := by omega
  have hd := within_drop l (3 * j) l2
  have hab : abounds (3 * k - 3 * j) (3 * k - 3 * j) (some (.int .i64 3)) none none = some (3,3 * k - 3 * j,3 * k - 3 * j) := by
   have : abound (.int .i64 3) (3 * k - 3 * j) = some 3 := by unfold abound; simp only; rw [if_pos ⟨by omega,by omega⟩]; rfl
   simp [abounds,this]
  rw [hd] at hw
  have hz : ¬ 3 * k - 3 * j = 0 := by omega
  generalize hn : 3 * k - 3 * j = n at i0 i1 i2 hab hlt' hz ⊢
  have hdt : decide (0 < n) = true := decide_eq_true (by omega)
  simp [hdt, i0, i1, i2, hb', apart, l0, l1, l2]
  by_cases h1 : l[3 * j + 1] < l[3 * j]
  ·have : ¬ l[3 * j] ≤ l[3 * j + 1] := by omega
   simp [h1,hw,this]
  by_cases h2 : l[3 * j + 2] < l[3 * j + 1]
  ·have : ¬ l[3 * j + 1] ≤ l[3 * j + 2] := by omega
   simp [h1, h2, hw, this, i1, i2, hb', apart, l1, l2]
  have h1' : l[3 * j] ≤ l[3 * j + 1] := by omega
  have h2' : l[3 * j + 1] ≤ l[3 * j + 2] := by omega
  simp [h1, h2, i1, i2, hb', apart, l1, l2, hab]
  refine ⟨j + 1,by omega,⟨by omega,?_⟩,Heap.Sub.refl hcl,⟨by omega,by omega⟩,vb_slice hbn⟩
  rw [hw,show 3 * (j + 1) = 3 * j + 3 by omega]
  simp [h1', h2']
 ·have : j = k := by omega
  subst this
  simp
  rw [hw,List.drop_eq_nil_of_le (by omega)]
  rfl
def right (d p s : Int) : Bool := decide (1 ≤ d) && decide (d ≤ 8) && (decide (2 ≤ p) && decide (p ≤ 6) && (decide (1 ≤ s) && decide (s ≤ 8)))
theorem rightG_ok (d p s : Int) (h : Heap) : ACalls Tryz.prog 47 [gv d p s] h fun v h' => v = .bool (right d p s) ∧ h' = h := by
 refine ACalls.same .bool (acalls_of mix Tryz.func47 k47 n47 (by simp) fun hcl hb => ?_)
 simp [c47,gv,mcells,cellsOf_new,apart,afill]
 refine (within_ok [1,d,8,2,p,6,1,s,8] 3 _ _ rfl (cellsOf_new _ _ _ _) (by omega)).mono ?_
 rintro v1 h1 ⟨rfl,e⟩
 subst e
 simp
 exact ⟨by simp [within,right],((Heap.Ext.refl h).push hcl _).push hcl _⟩
def wide (d p s : Int) : Int := if right d p s then d + p else 0
theorem right_prop {d p s : Int} : right d p s = true ↔ (1 ≤ d ∧ d ≤ 8) ∧ (2 ≤ p ∧ p ≤ 6) ∧ 1 ≤ s ∧ s ≤ 8 := by simp [right]
theorem wide_ok (d p s : Int) (h : Heap) : ACalls Tryz.prog 70 [gv d p s] h fun v h' => v = .int .i64 (wide d p s) ∧ h' = h := by
 refine ACalls.same .int (acalls_of mix Tryz.func70 k70 n70 (by simp) fun hcl hb => ?_)
 simp [c70,gv,mcells,cellsOf_new,apart,acut]
 refine (rightG_ok d p s _).mono ?_
 rintro v1 h1 ⟨rfl,e⟩
 subst e
 by_cases hr : right d p s = true
 ·simp [hr,aun,wide,cellsOf_new,apart]
  have := right_prop.1 hr
  exact ⟨i64_sg (by omega) (by omega),(Heap.Ext.refl h).push hcl _⟩
 ·have hr' : right d p s = false := by simpa using hr
  simp [hr', aun, wide]
  exact (Heap.Ext.refl h).push hcl _
def slot (d p s : Int) : Int := if right d p s then (d + p) * s else 0
theorem mulb {a b m n : Int} (h1 : 0 ≤ a) (h2 : a ≤ m) (h3 : 0 ≤ b) (h4 : b ≤ n) : 0 ≤ a * b ∧ a * b ≤ m * n := ⟨Int.mul_nonneg h1 h3,Int.mul_le_mul h2 h4 h3 (by omega)⟩
theorem slot_bound {d p s : Int} : 0 ≤ slot d p s ∧ slot d p s ≤ 112 := by
 unfold slot
 split
 ·rename_i hr
  have := right_prop.1 hr
  exact mulb (m := 14) (n := 8) (by omega) (by omega) (by omega) (by omega)
 ·omega
theorem slot_ok (d p s : Int) (h : Heap) : ACalls Tryz.prog 35 [gv d p s] h fun v h' => v = .int .i64 (slot d p s) ∧ h' = h := by
 refine ACalls.same .int (acalls_of mix Tryz.func35 k35 n35 (by simp) fun hcl hb => ?_)
 simp [c35,gv,mcells,cellsOf_new,apart,acut,afold,amax2]
 refine (wide_ok d p s _).mono ?_
 rintro v1 h1 ⟨rfl,e⟩
 subst e
 simp [cellsOf_new,apart]
 refine ⟨?_,(Heap.Ext.refl h).push hcl _⟩
 have hb := slot_bound (d := d) (p := p) (s := s)
 unfold slot wide at *
 split
 ·rename_i hr
  have := right_prop.1 hr
  rw [if_pos hr] at hb
  rw [Int.max_eq_left (by omega),i64_sg (by omega) (by omega)]
 ·simp [i64_sg]
theorem log_ok (d p s : Int) (h : Heap) : ACalls Tryz.prog 66 [gv d p s] h fun v h' => v = .int .i64 (3 * slot d p s) ∧ h' = h := by
 refine ACalls.same .int (acalls_of mix Tryz.func66 k66 n66 (by simp) fun hcl hb => ?_)
 simp [c66,gv,mcells,cellsOf_new,apart,acut]
 refine (slot_ok d p s _).mono ?_
 rintro v1 h1 ⟨rfl,e⟩
 subst e
 simp
 have hb := slot_bound (d := d) (p := p) (s := s)
 exact ⟨i64_sg (by omega) (by omega),(Heap.Ext.refl h).push hcl _⟩
def allS (d p s : Int) : Int := if right d p s then 3 * slot d p s + 18 else 0
theorem all_ok (d p s : Int) (h : Heap) : ACalls Tryz.prog 58 [gv d p s] h fun v h' => v = .int .i64 (allS d p s) ∧ h' = h := by
 refine ACalls.same .int (acalls_of mix Tryz.func58 k58 n58 (by simp) fun hcl hb => ?_)
 simp [c58,gv,mcells,cellsOf_new,apart,acut]
 refine (rightG_ok d p s _).mono ?_
 rintro v1 h1 ⟨rfl,e⟩
 subst e
 by_cases hr : right d p s = true
 ·simp [hr,aun,cellsOf_new,apart,acut]
  refine (log_ok d p s _).mono ?_
  rintro v1 h1 ⟨rfl,e⟩
  subst e
  simp
  have hb := slot_bound (d := d) (p := p) (s := s)
  refine ⟨?_,(Heap.Ext.refl h).push hcl _⟩
  unfold allS
  rw [if_pos hr,i64_sg (n := 3 * slot d p s + 16) (by omega) (by omega),i64_sg (by omega) (by omega)]
  omega
 ·have hr' : right d p s = false := by simpa using hr
  simp [hr', aun, allS]
  exact (Heap.Ext.refl h).push hcl _
theorem tdiv_pos {a b : Int} (ha : 0 ≤ a) : a.tdiv b = a / b := Int.tdiv_eq_ediv_of_nonneg ha
theorem tmod_pos {a b : Int} (ha : 0 ≤ a) : a.tmod b = a % b := Int.tmod_eq_emod_of_nonneg ha
def ofR (d p s x : Int) : Value := if right d p s = true ∧ 0 ≤ x ∧ x ≤ 3 * slot d p s - 1 then
  .tuple #[cI (x / slot d p s),cI (x % slot d p s % s),cI (x % slot d p s / s),.bool true]
 else .tuple #[cI 0,cI 0,cI 0,.bool false]
theorem ofR_below {n : Nat} {d p s x : Int} : VBelow n (ofR d p s x) := by
 unfold ofR
 split <;> exact .tuple fun i hi => by
  match i,hi with
  | 0,_ => exact .int
  | 1,_ => exact .int
  | 2,_ => exact .int
  | 3,_ => exact .bool
theorem slot_right {d p s : Int} (hr : right d p s = true) : slot d p s = (d + p) * s ∧ 3 * s ≤ slot d p s := by
 have := right_prop.1 hr
 unfold slot
 rw [if_pos hr]
 exact ⟨rfl,Int.mul_le_mul_of_nonneg_right (by omega) (by omega)⟩
theorem of_ok (d p s x : Int) (h : Heap) : ACalls Tryz.prog 28 [gv d p s,.int .i64 x] h fun v h' => v = ofR d p s x ∧ h' = h := by
 refine ACalls.same ofR_below (acalls_of mix Tryz.func28 k28 n28 (by simp) fun hcl hb => ?_)
 have hext := (Heap.Ext.refl h).push hcl (.cells [.int .i64 d,.int .i64 p,.int .i64 s] .ex 1)
 simp [c28,gv,mcells,cellsOf_new,apart,acut]
 refine (rightG_ok d p s _).mono ?_
 rintro v1 h1 ⟨rfl,e⟩
 subst e
 by_cases hr : right d p s = true
 case neg =>
  have hr' : right d p s = false := by simpa using hr
  simp [hr', aun, ofR]
  exact hext
 have hp := right_prop.1 hr
 have hsb := slot_bound (d := d) (p := p) (s := s)
 have hsr := slot_right hr
 simp [hr,aun,cellsOf_new,apart,acut]
 refine (log_ok d p s _).mono ?_
 rintro v1 h1 ⟨rfl,e⟩
 subst e
 simp [afill,mcells]
 have hw1 : IntKind.i64.wrap (3 * slot d p s - 1) = 3 * slot d p s - 1 := i64_sg (by omega) (by omega)
 refine (within_ok [0,x,IntKind.i64.wrap (3 * slot d p s - 1)] 1 _ _ rfl (cellsOf_new _ _ _ _) (by omega)).mono ?_
 rintro v1 h1 ⟨rfl,e⟩
 subst e
 rw [hw1]
 by_cases hx : 0 ≤ x ∧ x ≤ 3 * slot d p s - 1
 case neg =>
  have hwf : within [0,x,3 * slot d p s - 1] = false := by simp [within]; omega
  simp [hwf,aun,ofR,hx]
  exact hext.push hcl _
 have hwt : within [0,x,3 * slot d p s - 1] = true := by simp [within]; omega
 simp [hwt,aun,cellsOf_ne,cellsOf_new,apart,acut]
 refine (slot_ok d p s _).mono ?_
 rintro v1 h1 ⟨rfl,e⟩
 subst e
 have hs0 : ¬ slot d p s = 0 := by omega
 have hs1 : ¬ s = 0 := by omega
 have e1 : 0 ≤ x.tmod (slot d p s) ∧ x.tmod (slot d p s) < 112 := by
  rw [tmod_pos hx.1]
  exact ⟨Int.emod_nonneg _ hs0,Int.lt_of_lt_of_le (Int.emod_lt_of_pos _ (by omega)) hsb.2⟩
 have e2 : ∀ y : Int,0 ≤ y → y < 112 * 3 → 0 < s → IntKind.i64.wrap (y / s) = y / s := fun y h0 h1 h2 => by
  have h3 := Int.ediv_le_self s h0
  have h4 := Int.ediv_nonneg h0 (Int.le_of_lt h2)
  exact i64_sg (by omega) (by omega)
 have e3 : IntKind.i64.wrap (x / slot d p s) = x / slot d p s := by
  have h3 := Int.ediv_le_self (slot d p s) hx.1
  have h4 := Int.ediv_nonneg hx.1 hsb.1
  exact i64_sg (by omega) (by omega)
 simp [hs0,hs1,cellsOf_ne,cellsOf_new,apart,acut]
 refine (slot_ok d p s _).mono ?_
 rintro v1 h1 ⟨rfl,e⟩
 subst e
 simp [hs0,hs1,cellsOf_ne,cellsOf_new,apart,acut]
 refine ⟨?_,hext.push hcl _⟩
 unfold ofR
 rw [if_pos ⟨hr,hx⟩,tdiv_pos hx.1,tdiv_pos e1.1,tmod_pos e1.1,e3]
 rw [tmod_pos hx.1] at e1 ⊢
 rw [e2 _ e1.1 (by omega) (by omega)]
def sectorR (d p s a k i : Int) : Value := if right d p s = false then .tuple #[cI 0,cI 1] else if 0 ≤ a ∧ a ≤ 2 ∧ 0 ≤ k ∧ k ≤ s - 1 ∧ 0 ≤ i ∧ i ≤ wide d p s - 1 then .tuple #[cI (a * slot d p s + i * s + k),cI 0] else .tuple #[cI 0,cI 2]
theorem sectorR_below {n : Nat} {d p s a k i : Int} : VBelow n (sectorR d p s a k i) := by
 unfold sectorR
 split
 ·exact vb_tuple2 .int .int
 ·split <;> exact vb_tuple2 .int .int
theorem sector_ok (d p s a k i : Int) (h : Heap) : ACalls Tryz.prog 71 [gv d p s,.int .i64 a,.int .i64 k,.int .i64 i] h fun v h' => v = sectorR d p s a k i ∧ h' = h := by
 refine ACalls.same sectorR_below (acalls_of mix Tryz.func71 k71 n71 (by simp) fun hcl hb => ?_)
 have hext := (Heap.Ext.refl h).push hcl (.cells [.int .i64 d,.int .i64 p,.int .i64 s] .ex 1)
 simp [c71,gv,mcells,cellsOf_new,apart,acut]
 refine (rightG_ok d p s _).mono ?_
 rintro v1 h1 ⟨rfl,e⟩
 subst e
 by_cases hr : right d p s = true
 case neg =>
  have hr' : right d p s = false := by simpa using hr
  simp [hr', aun, sectorR]
  exact hext
 have hp := right_prop.1 hr
 have hsb := slot_bound (d := d) (p := p) (s := s)
 have hsr := slot_right hr
 have hw : wide d p s = d + p := by unfold wide; rw [if_pos hr]
 simp [hr,aun,cellsOf_new,apart,acut]
 refine (wide_ok d p s _).mono ?_
 rintro v1 h1 ⟨rfl,e⟩
 subst e
 have w1 : IntKind.i64.wrap (s - 1) = s - 1 := i64_sg (by omega) (by omega)
 have w2 : IntKind.i64.wrap (wide d p s - 1) = wide d p s - 1 := i64_sg (by omega) (by omega)
 simp [afill,mcells,cellsOf_new,apart,w1,w2]
 refine (within_ok [0,a,2,0,k,s - 1,0,i,wide d p s - 1] 3 _ _ rfl (cellsOf_new _ _ _ _) (by omega)).mono ?_
 rintro v1 h1 ⟨rfl,e⟩
 subst e
 by_cases hx : 0 ≤ a ∧ a ≤ 2 ∧ 0 ≤ k ∧ k ≤ s - 1 ∧ 0 ≤ i ∧ i ≤ wide d p s - 1
 case neg =>
  have hwf : within [0,a,2,0,k,s - 1,0,i,wide d p s - 1] = false := by simp [within]; omega
  simp [hwf,aun,sectorR,hx,hr]
  exact hext.push hcl _
 have hwt : within [0,a,2,0,k,s - 1,0,i,wide d p s - 1] = true := by simp [within]; omega
 simp [hwt,aun,cellsOf_ne,cellsOf_new,apart,acut]
 refine (slot_ok d p s _).mono ?_
 rintro v1 h1 ⟨rfl,e⟩
 subst e
 simp [cellsOf_ne,cellsOf_new,apart]
 refine ⟨?_,hext.push hcl _⟩
 have m1 := mulb (a := a) (b := slot d p s) (m := 2) (n := 112) (by omega) (by omega) (by omega) (by omega)
 have m2 := mulb (a := i) (b := s) (m := 14) (n := 8) (by omega) (by omega) (by omega) (by omega)
 unfold sectorR
 rw [if_neg (by rw [hr]; decide),if_pos hx,i64_sg (n := a * slot d p s) (by omega) (by omega),i64_sg (n := i * s) (by omega) (by omega),i64_sg (n := a * slot d p s + i * s) (by omega) (by omega),i64_sg (by omega) (by omega)]
theorem gRefRight_ok (d p s : Int) (h : Heap) : ACalls Tryz.prog 20 [gv d p s] h fun v h' => v = .bool (right d p s) ∧ h' = h := by
 refine ACalls.same .bool (acalls_of mix Tryz.func20 k20 n20 (by simp) fun hcl hb => ?_)
 have hext := (Heap.Ext.refl h).push hcl (.cells [.int .i64 d,.int .i64 p,.int .i64 s] .ex 1)
 simp [c20,gv,mcells,cellsOf_new,apart]
 by_cases h1 : 1 ≤ d
 case neg => simp [h1,right]; exact hext
 by_cases h2 : d ≤ 8
 case neg => simp [h1,h2,right,cellsOf_new,apart]; exact hext
 by_cases h3 : 2 ≤ p
 case neg => simp [h1,h2,h3,right,cellsOf_new,apart]; exact hext
 by_cases h4 : p ≤ 6
 case neg => simp [h1,h2,h3,h4,right,cellsOf_new,apart]; exact hext
 by_cases h5 : 1 ≤ s
 case neg => simp [h1,h2,h3,h4,h5,right,cellsOf_new,apart]; exact hext
 simp [h1,h2,h3,h4,h5,right,cellsOf_new,apart]
 exact hext
end Go.Proofs.YtdnmkenamgfjoaaGreat.arbc
