/-
 Ab: ranging over maps.
-/
import Derived.Test.YtdnmkenamgfjoaaGreatAbSoundM2
set_option linter.unusedSimpArgs false
set_option linter.unusedVariables false
namespace Go.Ab
set_option linter.unusedSectionVars false
variable [Inhabited TabBox]
open Go.RowKit
section
variable {P : Program} {N : Nat} {o : Oper}
theorem rangeM_runs {t k e : TypeId} {x : Operand} (ho : o.op = .range t x) (hu : P.underlying t = some (.map k e)) (okx : okOpd N x = true) : OpRuns P N o (.rangeM x) := by
 intro n0 B μ0 w0 f h a w μ s v h' ev
 have rx := opd_rel s.fr okx
 simp only [aop] at ev
 have hm := Mu.ext_same μ h.n ⟨w.heap.size,0,0,0,0,false⟩
 split at ev
 ·rename_i hx
  rw [hx] at rx
  cases ev
  refine ⟨.pointer (some ⟨w.heap.size,0,none⟩),w.alloc (.mapIter none 0 #[] 0),_,.inl ?_,?_,s.push (obj := .mapIter none 0 #[] 0) (mi := ⟨w.heap.size,0,0,0,0,false⟩) rfl ⟨rfl,rfl,rfl⟩ rfl ?_⟩
  ·simp [execOp,ho,Instr.range,run_und hu,rx.mnil_inv]
  ·exact .ptr hm
  ·exact ⟨rfl,none,rfl,.inl ⟨rfl,rfl⟩⟩
 ·rename_i b hx
  rw [hx] at rx
  split at ev
  ·rename_i es cl hb
   cases ev
   obtain ⟨mi, es', hm1, hw, hE⟩ := s.rel.map hb
   obtain ⟨mi2,hm2,hv⟩ := rx.map_inv
   rw [hm1] at hm2; cases hm2
   refine ⟨.pointer (some ⟨w.heap.size,0,none⟩),w.alloc (.mapIter (some mi.cb) cl #[] cl),_,.inl ?_,?_,s.push (obj := .mapIter (some mi.cb) cl #[] cl) (mi := ⟨w.heap.size,0,0,0,0,false⟩) rfl ⟨rfl,rfl,rfl⟩ rfl ?_⟩
   ·simp [execOp,ho,Instr.range,run_und hu,hv,run_getObj_map hw]
   ·exact .ptr hm
   ·exact ⟨rfl,some mi.cb,rfl,.inr ⟨b,mi,rfl,s.ext_mono _ _ _ hm1,rfl⟩⟩
  ·cases ev
 ·cases ev
theorem run_getObj_iter {w : World} {r : Nat} {m : Option Nat} {s : Nat} {sn : Array Nat} {l : Nat} (h : w.heap[r]? = some (.mapIter m s sn l)) : (getObj r).run P w = .ok (.mapIter m s sn l) w := by
 simp only [getObj,Sem.run,h]
theorem run_setObj_iter {w : World} {r : Nat} {m : Option Nat} {s : Nat} {sn : Array Nat} {l : Nat} (h : w.heap[r]? = some (.mapIter m s sn l)) (ob : Obj) : (setObj r ob).run P w = .ok () { w with heap := w.heap.setIfInBounds r ob } := by
 simp only [setObj,Sem.run,h]
theorem nextM_ok {it : Operand} (ho : o.op = .next it false) (okx : okOpd N it = true) : OpOk P N o (.nextM it) := by
 intro n0 B μ0 w0 f h a w μ s K hK next Q hn
 have rx := opd_rel s.fr okx
 simp only [aopK] at hK
 unfold nextK at hK
 split at hK
 ·rename_i r hx
  rw [hx] at rx
  obtain ⟨mi,hmi,_,hv⟩ := rx.ptr_inv
  split at hK
  ·
   rename_i since seen last hr
   obtain ⟨mi2, hm2, hd, m', hw, hmm⟩ := s.rel.obj r _ hr
   rw [hmi] at hm2; cases hm2
   have hm' : m' = none := by
    rcases hmm with q | ⟨b, mi', q, _⟩
    ·exact q.2
    ·cases q
   subst hm'
   unfold Oper.wp
   have hrun : (execOp a.eval o).run P w = .ok (.value (.tuple #[.bool false])) w := by
    simp [execOp,ho,Instr.next,hv,hd,run_getObj_iter hw]
   rw [hrun]
   exact hn _ _ _ _ _ hK (.tuple rfl fun i hi => by
    have : i = 0 := by simpa using hi
    subst this; exact .bool) s
  ·rename_i m since seen last hr
   split at hK
   ·rename_i es clock hm
    obtain ⟨hold,hlast,hover,hstep⟩ := hK
    obtain ⟨mi2, hm2, hd, m', hw, hmm⟩ := s.rel.obj r _ hr
    rw [hmi] at hm2; cases hm2
    obtain ⟨mm, es', hmm1, hwm, hE⟩ := s.rel.map hm
    have hm' : m' = some mm.cb := by
     rcases hmm with q | ⟨b, mi', q, q2, q3⟩
     ·cases q.1
     ·cases q; rw [hmm1] at q2; cases q2; exact q3
    subst hm'
    have hold' : ∀ e' ∈ es'.toList,e'.born < since := fun e' he' => by
     obtain ⟨i,hi,rfl⟩ := List.mem_iff_getElem.1 he'
     rw [(hE.2 i (by rw [hE.1]; exact hi) hi).2.2]
     exact hold _ (List.getElem_mem _)
    have hnot : (!seen.toArray.isEmpty && !es'.isEmpty && es'.all (fun e => decide (e.born ≥ last))) = false := by
     rcases hlast with q | q
     ·subst q; simp
     ·cases hes : es'.toList with
      | nil => 
        have : es' = #[] := by apply Array.ext'; simpa using hes
        subst this; simp
      | cons e' r' =>
        have hi : 0 < es'.toList.length := by rw [hes]; simp
        have hi0 : 0 < es.length := by rw [hE.1]; exact hi
        have h1 := (hE.2 0 hi0 hi).2.2
        have h2 := q es[0] (List.getElem_mem _)
        rw [Bool.and_eq_false_iff]
        right
        rw [Array.all_eq_false]
        refine ⟨0,by simpa using hi,?_⟩
        have h3 : es'[0]'(by simpa using hi) = es'.toList[0] := by simp
        rw [h3]
        simp only [decide_eq_true_eq]
        omega
    have hleft : es'.filter (fun e => !seen.toArray.contains e.born) = es'.filter (fun e => !seen.toArray.contains e.born) := rfl
    generalize hL : es'.filter (fun e => !seen.toArray.contains e.born) = L at hleft
    have hLm : ∀ e', e' ∈ L.toList ↔ e' ∈ es'.toList ∧ e'.born ∉ seen := fun e' => by
     rw [← hL]; simp
    have hLold : L.filter (fun e => decide (e.born < since)) = L := by
     rw [Array.filter_eq_self]
     intro e' he'
     simpa using hold' e' ((hLm e').1 (by simpa using he')).1
    have hLnew : L.filter (fun e => decide (e.born ≥ since)) = #[] := by
     rw [Array.filter_eq_empty_iff]
     intro e' he'
     have := hold' e' ((hLm e').1 (by simpa using he')).1
     simp; omega
    unfold Oper.wp
    by_cases hemp : L = #[]
    ·have hrun : ∃ w2,(execOp a.eval o).run P w = .ok (.value (.tuple #[.bool false])) w2 ∧ w2.heap = w.heap ∧ SameBut w w2 := by
      refine ⟨w,?_,rfl,SameBut.refl _⟩
      simp only [execOp,ho,Instr.next,hv,hd,Sem.run_bind,run_getObj_iter hw,run_getObj_map hwm,Result.andThen_ok,hnot,Bool.false_eq_true,if_false,hL,hLold,hLnew,hemp]
      simp [run_choose,Question.forced]
     obtain ⟨w2,hrun,hh,hs⟩ := hrun
     rw [hrun]
     refine hn _ _ _ _ _ (hover fun e he => ?_) (.tuple rfl fun i hi => by
      have : i = 0 := by simpa using hi
      subst this; exact .bool) (s.same hh hs)
     apply Classical.byContradiction
     intro hne
     obtain ⟨i,hi,rfl⟩ := List.mem_iff_getElem.1 he
     have hi' : i < es'.toList.length := by rw [← hE.1]; exact hi
     have := (hLm (es'.toList[i])).2 ⟨List.getElem_mem _,by rw [(hE.2 i hi hi').2.2]; exact hne⟩
     rw [hemp] at this
     simp at this
    ·have hsz : 0 < L.size := by
      rcases Nat.eq_zero_or_pos L.size with q | q
      ·exact absurd (Array.size_eq_zero_iff.1 q) hemp
      ·exact q
     have hpick : ∃ e' ∈ L.toList,∃ w1,w1.heap = w.heap ∧ SameBut w w1 ∧ (execOp a.eval o).run P w = .ok (.value (.tuple #[.bool true,e'.key,e'.val])) { w1 with heap := w1.heap.setIfInBounds mi.cb (.mapIter (some mm.cb) since (seen ++ [e'.born]).toArray clock) } := by
      have hrun : ∀ (k : Nat) (w1 : World),k < L.size → w1.heap = w.heap → SameBut w w1 → (choose (.mapNext L.size)).run P w = .ok k w1 → ∃ e' ∈ L.toList,∃ w1,w1.heap = w.heap ∧ SameBut w w1 ∧ (execOp a.eval o).run P w = .ok (.value (.tuple #[.bool true,e'.key,e'.val])) { w1 with heap := w1.heap.setIfInBounds mi.cb (.mapIter (some mm.cb) since (seen ++ [e'.born]).toArray clock) } := by
       intro k w1 hk hh hs hc
       refine ⟨L[k],by simp,w1,hh,hs,?_⟩
       have hw1 : w1.heap[mi.cb]? = some (.mapIter (some mm.cb) since seen.toArray last) := by rw [hh]; exact hw
       have hcand : (((if L.isEmpty then #[none] else #[]) ++ (L ++ #[]).map some : Array (Option Go.MapEntry)))[k]? = some (some L[k]) := by
        have : L.isEmpty = false := by rw [Array.isEmpty_eq_false_iff]; exact hemp
        rw [this]
        simp [hk]
       have hcs : (((if L.isEmpty then #[none] else #[]) ++ (L ++ #[]).map some : Array (Option Go.MapEntry))).size = L.size := by
        have : L.isEmpty = false := by rw [Array.isEmpty_eq_false_iff]; exact hemp
        rw [this]
        simp
       simp only [execOp,ho,Instr.next,hv,hd,Sem.run_bind,run_getObj_iter hw,run_getObj_map hwm,Result.andThen_ok,hnot,Bool.false_eq_true,if_false,hL,hLold,hLnew,hcs,hc,hcand,run_setObj_iter hw1,Sem.run_pure]
       simp
      by_cases h1 : L.size ≤ 1
      ·exact hrun 0 w hsz rfl (SameBut.refl _) (by simp [run_choose,Question.forced,h1])
      ·exact hrun _ w.drew (Nat.mod_lt (w.tape w.drawn (.mapNext L.size)) hsz) rfl ⟨rfl,rfl,rfl⟩ (by simp only [run_choose_drew,Question.forced,decide_eq_false h1,Bool.false_eq_true,if_false]; rfl)
     obtain ⟨e', he', w1, hh, hs, hrun⟩ := hpick
     rw [hrun]
     obtain ⟨hin,hns⟩ := (hLm e').1 he'
     obtain ⟨i, hi', rfl⟩ := List.mem_iff_getElem.1 hin
     have hi : i < es.length := by rw [hE.1]; exact hi'
     obtain ⟨hk1,hk2,hk3⟩ := hE.2 i hi hi'
     have hstep' := hstep es[i] (List.getElem_mem _) (by rw [← hk3]; exact hns)
     refine hn _ _ _ _ μ hstep' ?_ ?_
     ·exact .tuple rfl fun j hj => by
       match j,hj with
       | 0,_ => exact .bool
       | 1,_ => exact hk1
       | 2,_ => exact hk2
     ·have hlt := (s.rel.dom r mi hmi).2
      refine s.setBlk hr hmi rfl (obj := .mapIter (some mm.cb) since (seen ++ [es[i].born]).toArray clock) (fun k => ?_) (by simp [hh]) ⟨hs.os,hs.tape,hs.output⟩ ⟨hd,some mm.cb,rfl,.inr ⟨m,mm,rfl,hmm1,rfl⟩⟩
      simp only [hh,hk3]
      rw [Array.getElem?_setIfInBounds]
      by_cases hk : k = mi.cb
      ·subst hk; simp [hlt]
      ·rw [if_neg (by omega),if_neg hk]
   ·exact hK.elim
  ·exact hK.elim
 ·exact hK.elim
end
end Go.Ab
