/-
 Ab: memory that is written; append and copy.
-/
import Derived.Test.YtdnmkenamgfjoaaGreatAbSound6
set_option linter.unusedSimpArgs false
set_option linter.unusedVariables false
namespace Go.Ab
set_option linter.unusedSectionVars false
variable [Inhabited TabBox]
open Go.RowKit
theorem write_world {P : Program} {w : World} {cb o : Nat} {cc : Array Value} {t : TypeId} {fz : Nat × Nat} {vs : List Value} (hw : w.heap[cb]? = some (.cells cc t fz)) (hf : ∀ i,i < cc.size → ¬ (fz.1 ≤ i ∧ fz.2 ≠ fz.1))
  (hl : o + vs.length ≤ cc.size) (h1 : ∀ v ∈ vs,v.oneCell' = true) : (storeCells ⟨cb,o,none⟩ vs).run P w = .ok () (w.setCells cb o vs) := by
 have := run_storeCells_cells (P := P) cb o vs 0 w (fun j hj => by simp [World.cell?,hw,show o + j < cc.size by omega]) (fun j hj => by
  have := hf (o + j) (by omega)
  simp only [World.frozen?,hw,Nat.add_zero]
  simp only [Bool.and_eq_false_iff,decide_eq_false_iff_not]
  by_cases g : fz.1 ≤ o + j
  ·right; exact fun g2 => this ⟨g,by omega⟩
  ·left; exact g) h1
 simpa using this
theorem aput_length {c vs : List Value} {o : Nat} (h : o + vs.length ≤ c.length) : (aput c o vs).length = c.length := by
 simp [aput]; omega
theorem aput_getD {c vs : List Value} {o : Nat} (h : o + vs.length ≤ c.length) (i : Nat) : (aput c o vs).getD i unk = if o ≤ i ∧ i < o + vs.length then vs.getD (i - o) unk else c.getD i unk := by
 have l1 : (c.take o).length = o := by simp; omega
 rw [aput,getD_append3,l1]
 by_cases h1 : i < o
 ·rw [if_pos h1,if_neg (by omega),getD_take _ _ _ h1]
 ·rw [if_neg h1]
  by_cases h2 : i < o + vs.length
  ·rw [if_pos h2,if_pos (by omega)]
  ·rw [if_neg h2,if_neg (by omega),getD_drop,show o + vs.length + (i - o - vs.length) = i by omega]
theorem St.write {P : Program} {B n0 N : Nat} {μ0 : Mu} {w0 : World} {f : AF} {h : Heap} {a : Act} {w : World} {μ : Mu} (s : St B n0 N μ0 w0 f h a w μ) {b o : Nat} {c : List Value} {m : BMode} {e : Nat} {mi : MI} {vs : List Value} {vv : Array Value}
  (hb : h.cellsOf b = some (c,m,e)) (hm : μ b = some mi) (hro : m ≠ .ro) (r : CsRel μ vs vv) (hl : o + vs.length ≤ c.length) :
  ∃ w', (storeCells ⟨mi.cb, mi.dl + o, none⟩ vv.toList).run P w = .ok () w' ∧ St B n0 N μ0 w0 f (h.set b (.cells (aput c o vs) m e)) a w' μ := by
 obtain ⟨mi', cc, t, fz, hm', hb', hw, cr, htt⟩ := s.rel.cellsT hb
 rw [hm] at hm'; cases hm'
 obtain ⟨r1,r2,r3,r4,r5,r6,r7,r8⟩ := cr
 have hvl : vv.toList.length = vs.length := by simpa using r.1.symm
 have hle : mi.dl + o + vv.toList.length ≤ cc.size := by rw [hvl]; omega
 obtain ⟨cc', h1, h2, h3⟩ := setCells_heap mi.cb vv.toList (mi.dl + o) w cc t fz hw hle
 refine ⟨_,write_world hw (r6 hro) hle (mem_of_one r.2.2),?_⟩
 refine s.setBlk hb' hm (by simp [AObj.rw,hro]) h1 (setCells_size _ _ _ _) (setCells_same _ _ _ _) ?_
 refine ⟨cc', t, fz, rfl, ?_⟩
 refine ⟨⟨by rw [aput_length hl,h2]; exact r1,fun i hi => ?_,fun i hi => ?_,by rw [aput_length hl]; exact r4,by rw [h2]; exact r5,by rw [h2]; exact r6,r7,r8⟩,htt⟩
 ·rw [aput_length hl] at hi
  rw [aput_getD hl,h3]
  by_cases hc : o ≤ i ∧ i < o + vs.length
  ·rw [if_pos hc,if_pos (by omega),show mi.dl + i - (mi.dl + o) = i - o by omega,toList_getD vv]
   exact r.2.1 _ (by omega)
  ·rw [if_neg hc,if_neg (by omega)]
   exact r2 i hi
 ·rw [aput_length hl] at hi
  rw [h3]
  split
  ·rw [toList_getD vv]; exact r.2.2 _ (by have := r.1; omega)
  ·exact r3 i hi
section
variable {P : Program} {N : Nat} {o : Oper}
theorem store_runs {t : TypeId} {sz : Nat} {x y : Operand} (ho : o.op = .store t x y) (hs : szOf P t = some sz) (okx : okOpd N x = true) (oky : okOpd N y = true) : OpRuns P N o (.store sz x y) := by
 intro n0 B μ0 w0 f h a w μ s v h' e
 have rx := opd_rel s.fr okx
 have ry := opd_rel s.fr oky
 simp only [aop] at e
 split at e
 ·rename_i ad hx
  rw [hx] at rx
  obtain ⟨mi,hmi,hsp,hv⟩ := rx.ptr_inv
  split at e
  ·rename_i c m es hc
   split at e
   ·rename_i vs hvs
    split at e
    ·rename_i hcond
     cases e
     have r := mcells_rel hvs ry
     obtain ⟨w', hrun, s'⟩ := s.write (P := P) hc hmi hcond.2.1 r (by rw [hcond.2.2.1]; exact hcond.2.2.2)
     refine ⟨undef, w', μ, .inr ⟨?_, rfl⟩, .any, s'⟩
     have hsz : (a.eval y).cells.size = sz := by rw [← r.1]; exact hcond.2.2.1
     simp only [execOp,ho,Instr.storeAt,hv,Instr.sureAddr,pure_bind,storeVar,Sem.run_bind,run_sizeOf' hs,Result.andThen_ok,hsz,ne_eq,not_true_eq_false,if_false]
     rw [hrun]
     rfl
    ·cases e
   ·cases e
  ·cases e
 ·cases e
theorem first_rel {B : Nat} {μ : Mu} {h : Heap} {w : World} (hr : HRel B μ h w) {sz n m : Nat} {v v' : Value} {l : List Value} (hf : afirst h sz n v = some l) (hn : alen v = some m) (hle : n ≤ m) (r : VRel μ v v') :
  ∃ cs,(∀ w1 : World,w1.heap = w.heap → (Builtin.firstCells sz n v').run P w1 = .ok cs w1) ∧ CsRel μ l cs := by
 unfold afirst at hf
 split at hf
 ·rename_i ad len cap
  simp only [alen,Option.some.injEq] at hn
  subst hn
  split at hf
  ·rename_i c m es hc
   split at hf
   ·rename_i hsp
    obtain ⟨a', c', hv, hcase⟩ := r.slice_inv
    rcases hcase with ⟨mi,hmi,_,rfl,_⟩ | ⟨rfl,rfl,rfl,mi,hmi⟩
    ·obtain ⟨mi', cc, t, fz, hm', hb', hw, cr⟩ := hr.cells hc
     rw [hmi] at hm'; cases hm'
     obtain ⟨hlen,rl⟩ := acut_rel hf cr.1 cr.2.1 cr.2.2.1
     have hle2 : ad.off + n * sz ≤ c.length := by
      unfold acut at hf
      split at hf
      ·assumption
      ·cases hf
     have hcr1 := cr.1
     refine ⟨cc.extract (mi.dl + ad.off) (mi.dl + ad.off + n * sz),?_,?_⟩
     ·intro w1 hw1
      rw [hv]
      simp only [Builtin.firstCells]
      exact run_loadCells' (by rw [hw1]; exact hw) (by omega)
     ·obtain ⟨cs', hcs', h1, h2, h3⟩ := rl.agg_inv
      cases hcs'
      refine ⟨by simpa using h1,fun i hi => ?_,h3⟩
      have := h2 i (by simpa using hi)
      rwa [toArray_getD] at this
    ·have hn0 : n = 0 := by omega
     subst hn0
     rw [Nat.zero_mul] at hf
     have : l = [] := by
      unfold acut at hf
      split at hf
      ·cases hf; simp
      ·cases hf
     subst this
     refine ⟨#[],?_,⟨rfl,fun i hi => absurd hi (by simp),fun i hi => absurd hi (by simp)⟩⟩
     intro w1 hw1
     rw [hv]
     simp [Builtin.firstCells,loadCells,loadCellsFrom]
   ·cases hf
  ·cases hf
 ·rename_i len cap
  split at hf
  ·rename_i hn0
   subst hn0
   cases hf
   refine ⟨#[],?_,⟨rfl,fun i hi => absurd hi (by simp),fun i hi => absurd hi (by simp)⟩⟩
   intro w1 hw1
   rw [r.snil_inv]
   simp [Builtin.firstCells]
  ·cases hf
 ·rename_i s
  cases hf
  refine ⟨(s.extract 0 n).data.map fun b => .int .u8 b.toNat,?_,?_⟩
  ·intro w1 hw1; rw [r.string_inv]; rfl
  ·have hx : (s.extract 0 n).data.toList = s.data.toList.take n := by
    simp [ByteArray.data_extract]
   have hsz : (s.extract 0 n).data.size = (s.data.toList.take n).length := by rw [← hx]; simp
   have key : ((s.extract 0 n).data.map fun b => Value.int .u8 (b.toNat : Int)) = ((s.data.toList.take n).map fun b => Value.int .u8 (b.toNat : Int)).toArray := by
    apply Array.ext'
    rw [Array.toList_map,hx]
   rw [key]
   refine ⟨by simp,fun i hi => ?_,fun i hi => ?_⟩
   ·rw [toArray_getD]
    have hi' : i < (s.data.toList.take n).length := by simpa using hi
    have : ((s.data.toList.take n).map fun b => Value.int .u8 (b.toNat : Int)).getD i unk = .int .u8 (((s.data.toList.take n)[i]).toNat : Int) := by
     simp only [List.getD, List.getElem?_map, List.getElem?_eq_getElem hi', Option.map_some, Option.getD_some]
    rw [this]; exact .int
   ·rw [toArray_getD]
    refine one_of_mem (fun v hv => ?_) i (by simpa using hi)
    obtain ⟨b,_,rfl⟩ := List.mem_map.1 hv
    rfl
 ·cases hf
theorem lenOf_run {μ : Mu} {v v' : Value} {n : Nat} {w : World} (h : alen v = some n) (r : VRel μ v v') : (Builtin.lenOf v').run P w = .ok n w := by
 unfold alen at h
 split at h
 ·cases h
  generalize v' = V at r
  cases r <;> rfl
 ·cases h; rw [r.string_inv]; rfl
 ·cases h
theorem copy_runs {c : Call} {dT e : TypeId} {rest : List TypeId} {sz : Nat} {x y : Operand} (ho : o.op = .call c) (hcal : c.callee = .builtin .copy) (hargs : c.args = #[x,y]) (hty : c.argTypes.toList = dT :: rest)
  (hu : P.underlying dT = some (.slice e)) (hs : szOf P e = some sz) (okx : okOpd N x = true) (oky : okOpd N y = true) : OpRuns P N o (.copy sz x y) := by
 intro n0 B μ0 w0 f h a w μ s v h' ev
 have rx := opd_rel s.fr okx
 have ry := opd_rel s.fr oky
 have hty0 : c.argTypes[0]? = some dT := by
  have : c.argTypes.toList[0]? = some dT := by rw [hty]; rfl
  simpa using this
 have ha0 : (c.args.map a.eval)[0]? = some (a.eval x) := by simp [hargs]
 have ha1 : (c.args.map a.eval)[1]? = some (a.eval y) := by simp [hargs]
 simp only [aop] at ev
 split at ev
 ·rename_i ad dl cap sl hx hsl
  rw [hx] at rx
  split at ev
  ·rename_i new c0 m es hnew hc
   split at ev
   ·rename_i hcond
    cases ev
    obtain ⟨cs,hrun,r⟩ := first_rel (P := P) s.rel hnew hsl (Nat.min_le_left _ _) ry
    have hrun := hrun w rfl
    obtain ⟨a', c', hv, hcase⟩ := rx.slice_inv
    have hl := lenOf_run (P := P) (w := w) hsl ry
    have hmin : Nat.min sl dl = min sl dl := rfl
    rcases hcase with ⟨mi,hmi,_,rfl,_⟩ | ⟨rfl,rfl,rfl,mi,hmi⟩
    ·obtain ⟨w', hw', s'⟩ := s.write (P := P) hc hmi hcond.2.1 r hcond.2.2
     refine ⟨_, w', μ, .inl ?_, .int, s'⟩
     refine builtin_run ho hcal fun cs' => ?_
     simp only [builtin, Builtin.copy_, ha0, ha1, hty0, hv, Sem.run_bind, run_und hu, Result.andThen_ok, hl, run_sizeOf' hs, hmin, hrun, hw', Sem.run_pure, goInt]
    ·
     have hsl0 : min sl 0 = 0 := by omega
     rw [hsl0] at hnew hrun ⊢
     have hcs : cs = #[] ∧ new = [] := by
      have : new = [] := by
       unfold afirst at hnew
       split at hnew
       ·split at hnew
        ·split at hnew
         ·unfold acut at hnew
          split at hnew
          ·cases hnew; simp
          ·cases hnew
         ·cases hnew
        ·cases hnew
       ·split at hnew
        ·cases hnew; rfl
        ·cases hnew
       ·cases hnew; simp
       ·cases hnew
      subst this
      have := r.1
      exact ⟨by simpa using this.symm,rfl⟩
     obtain ⟨rfl,rfl⟩ := hcs
     refine ⟨_,w,μ,.inl ?_,.int,?_⟩
     ·refine builtin_run ho hcal fun cs' => ?_
      simp only [builtin,Builtin.copy_,ha0,ha1,hty0,hv,Sem.run_bind,run_und hu,Result.andThen_ok,hl,run_sizeOf' hs,hmin,hsl0,hrun,storeCells,Sem.run_pure,goInt]
     ·have heq : h.set ad.block (.cells (aput c0 ad.off []) m es) = h := by
       obtain ⟨mi2,cc,t,fz,hm2,hb2,_,_⟩ := s.rel.cells hc
       unfold Heap.set
       have : (fun b' => if b' = ad.block then some (AObj.cells (aput c0 ad.off []) m es) else h.m b') = h.m := by
        funext b'
        split
        ·rename_i hb; subst hb; rw [hb2]; simp [aput]
        ·rfl
       rw [this]
      rw [heq]; exact s
   ·cases ev
  ·cases ev
 ·rename_i dl cap sl hx hsl
  rw [hx] at rx
  split at ev
  ·rename_i new hnew
   cases ev
   obtain ⟨cs,hrun,r⟩ := first_rel (P := P) s.rel hnew hsl (Nat.min_le_left _ _) ry
   have hrun := hrun w rfl
   have hl := lenOf_run (P := P) (w := w) hsl ry
   have hmin : Nat.min sl dl = min sl dl := rfl
   refine ⟨_,w,μ,.inl ?_,.int,s⟩
   refine builtin_run ho hcal fun cs' => ?_
   simp only [builtin,Builtin.copy_,ha0,ha1,hty0,rx.snil_inv,Sem.run_bind,run_und hu,Result.andThen_ok,hl,run_sizeOf' hs,hmin,hrun,Sem.run_pure,goInt]
  ·cases ev
 ·cases ev
end
end Go.Ab
