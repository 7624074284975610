/-
 Ab: capacities,new bytes of whatever kind,counting of bytes.
-/
import Derived.Test.YtdnmkenamgfjoaaGreatAbSoundN
set_option linter.unusedSimpArgs false
set_option linter.unusedVariables false
namespace Go.Ab
set_option linter.unusedSectionVars false
variable [Inhabited TabBox]
open Go.RowKit
section
variable {P : Program} {N : Nat} {o : Oper}
theorem find_cntB {fn : Func} (h : fn.name = "internal/bytealg.CountString") : Extern.find fn = some Extern.BytealgCount.count := by
 unfold Extern.find
 rw [h]
 kernel_rfl
theorem find_mkNZ {fn : Func} (h : fn.name = "internal/bytealg.MakeNoZero") : Extern.find fn = some (Extern.BytealgMakeNoZero.makeNoZero fn.params fn.resultTypes) := by
 unfold Extern.find
 rw [h]
 have e1 : Extern.allGenericRows.lookup "internal/bytealg.MakeNoZero" = none := by kernel_rfl
 have e2 : Extern.allTypedRows.lookup "internal/bytealg.MakeNoZero" = some Extern.BytealgMakeNoZero.makeNoZero := by kernel_rfl
 simp [e1,e2]
theorem cntB_runs {c : Call} {g : FuncId} {fn : Func} {x y : Operand} (ho : o.op = .call c) (hcal : c.callee = .value (.func g)) (hargs : c.args = #[x,y]) (hf : P.funcs[g]? = some fn) (hb : fn.body.isNone = true) (hn : Extern.findNext fn = none)
  (hnm : fn.name = "internal/bytealg.CountString") (okx : okOpd N x = true) (oky : okOpd N y = true) : OpRuns P N o (.cntB x y) :=
 .pure fun B μ f h a w hr fr v h' ev => by
  have rx := opd_rel fr okx
  have ry := opd_rel fr oky
  simp only [aop] at ev
  split at ev
  ·rename_i s n hx hy
   rw [hx] at rx; rw [hy] at ry
   cases ev
   refine ⟨rfl,_,ext_run ho hcal hf (by rw [hnm]; rfl) hb hn (find_cntB hnm) ?_,.int⟩
   have e1 : c.args.map a.eval = #[.string s,.int .u8 n] := by rw [hargs]; simp [rx.string_inv,ry.int_inv]
   rw [e1]
   exact Lib.run_countString s n w
  ·cases ev
theorem capS_runs {t e : TypeId} {x : Operand} {c : Call} (ho : o.op = .call c) (hcal : c.callee = .builtin .cap) (hargs : c.args = #[x]) (hty : c.argTypes.toList = [t])
  (hu : P.underlying t = some (.slice e)) (okx : okOpd N x = true) : OpRuns P N o (.capS x) :=
 .pure fun B μ f h a w hr fr v h' ev => by
  have rx := opd_rel fr okx
  have hty' : c.argTypes = #[t] := by apply Array.ext'; simpa using hty
  simp only [aop] at ev
  split at ev
  ·rename_i n c' hx
   rw [hx] at rx
   cases ev
   refine ⟨rfl,_,?_,.int⟩
   refine builtin_run ho hcal fun cs => ?_
   simp [builtin, Builtin.cap_, hargs, hty', run_und hu, rx.snil_inv, goInt]
  ·rename_i a' n c' hx
   rw [hx] at rx
   split at ev
   ·rename_i cs md es hb
    split at ev
    ·cases ev
    ·rename_i hl
     cases ev
     refine ⟨rfl,_,?_,.int⟩
     refine builtin_run ho hcal fun cs => ?_
     have : ∃ a'', a.eval x = .slice a'' n c' := by
      obtain ⟨a'', c'', hv, hh⟩ := rx.slice_inv
      refine ⟨some a'', ?_⟩
      ·rw [hv]
       rcases hh with ⟨mi,hm,_,_,q⟩ | ⟨_,q1,q2,_⟩
       ·rcases q with q | ⟨q,_⟩
        ·rw [q]
        ·obtain ⟨mi2,cc,ty,fz,hm2,_,_,r⟩ := hr.cells hb
         rw [hm] at hm2; cases hm2
         exact absurd (r.2.2.2.2.2.2.1.1 q) hl
       ·rw [q1,q2]
     obtain ⟨a'', hv⟩ := this
     simp [builtin, Builtin.cap_, hargs, hty', run_und hu, hv, goInt]
   ·cases ev
  ·cases ev
theorem eqi_runs {neg : Bool} {t t' : TypeId} {x y : Operand} (ho : o.op = .binOp (if neg then .neq else .eql) t x y t') (ht : isIfc P t = true) (okx : okOpd N x = true) (oky : okOpd N y = true) : OpRuns P N o (.eqi neg (intTys P) x y) :=
 .pure fun B μ f h a w hr fr v h' e => by
  obtain ⟨ms,hms⟩ : ∃ ms,P.underlying t = some (.interface ms) := by
   unfold isIfc at ht
   split at ht
   ·exact ⟨_,by assumption⟩
   ·cases ht
  have rx := opd_rel fr okx
  have ry := opd_rel fr oky
  have key : ∀ (b : Bool) (t1 t2 : TypeId) (u1 u2 : Value),a.eval x = .iface t1 u1 → a.eval y = .iface t2 u2 → (Op.equal t (.iface t1 u1) (.iface t2 u2)).run P w = .ok b w →
    (execOp a.eval o).run P w = .ok (.value (.bool (if neg then !b else b))) w := by
   intro b t1 t2 u1 u2 hx hy he
   obtain ⟨e1,e2⟩ := binOp_eqv (P := P) (by simp) (by simp) (by simp) (by simp) he
   have g : (eqGuard (if neg then .neq else .eql) t x y (a.eval x) (a.eval y)).run P w = .ok () w := by
    rw [hx,hy]; cases neg <;> rfl
   simp only [execOp,ho,Sem.run_bind,g,Result.andThen_ok]
   rw [hx,hy]
   cases neg
   ·simp only [Bool.false_eq_true,if_false,e1,Result.andThen_ok,Sem.run_pure]
   ·simp only [if_true,e2,Result.andThen_ok,Sem.run_pure]
  simp only [aop] at e
  split at e
  ·rename_i t1 v1 t2 v2 hx hy
   rw [hx] at rx; rw [hy] at ry
   obtain ⟨u1,hu1,r1⟩ := rx.iface_inv
   obtain ⟨u2,hu2,r2⟩ := ry.iface_inv
   split at e
   ·rename_i ht12
    subst ht12
    split at e
    ·rename_i hin
     split at e
     ·rename_i k n k' m
      split at e
      ·rename_i hk
       subst hk
       cases e
       rw [r1.int_inv] at hu1
       rw [r2.int_inv] at hu2
       refine ⟨rfl,_,key (decide (n = m)) _ _ _ _ hu1 hu2 ?_,.bool⟩
       have hmem : t1 ∈ intTys P := by simpa using hin
       unfold intTys at hmem
       have := (List.mem_filter.1 hmem).2
       split at this
       ·rename_i i hi
        rw [Bool.and_eq_true] at this
        obtain ⟨hcmp,hint⟩ := this
        obtain ⟨kk,hkk⟩ : ∃ k,P.underlying t1 = some (.int k) := by
         unfold isInt at hint
         split at hint
         ·exact ⟨_,by assumption⟩
         ·cases hint
        unfold Op.equal Op.maxDepth
        obtain ⟨D,hD⟩ : ∃ D,10000 = D + 1 + 1 := ⟨9998,rfl⟩
        rw [hD]; clear hD
        have hti : (typeInfo t1).run P w = .ok i w := by simp [typeInfo,hi]
        have hbd : (n == m) = decide (n = m) := by rw [Bool.eq_iff_iff]; simp
        simp [Op.equalIn,run_und hms,hti,hcmp,run_und hkk,hbd]
       ·cases this
      ·cases e
     ·cases e
    ·cases e
   ·rename_i hne
    cases e
    refine ⟨rfl,_,?_,.bool⟩
    have := key false _ _ _ _ hu1 hu2 (by
     unfold Op.equal Op.maxDepth
     obtain ⟨D,hD⟩ : ∃ D,10000 = D + 1 := ⟨9999,rfl⟩
     rw [hD]; clear hD
     simp [Op.equalIn,run_und hms,hne])
    rw [this]
    cases neg <;> rfl
  ·cases e
theorem rangeS_runs {t : TypeId} {x : Operand} (ho : o.op = .range t x) (hu : P.underlying t = some .string) (okx : okOpd N x = true) : OpRuns P N o (.rangeS x) := by
 intro n0 B μ0 w0 f h a w μ s v h' ev
 have rx := opd_rel s.fr okx
 simp only [aop] at ev
 split at ev
 ·rename_i st hx
  rw [hx] at rx
  cases ev
  have hm := Mu.ext_same μ h.n ⟨w.heap.size,0,0,0,0,false⟩
  refine ⟨.pointer (some ⟨w.heap.size,0,none⟩),w.alloc (.stringIter st 0),_,.inl ?_,?_,s.push (obj := .stringIter st 0) (mi := ⟨w.heap.size,0,0,0,0,false⟩) rfl ⟨rfl,rfl,rfl⟩ rfl ?_⟩
  ·simp [execOp,ho,Instr.range,run_und hu,rx.string_inv]
  ·exact .ptr hm
  ·exact ⟨rfl,rfl⟩
 ·cases ev
theorem decode_low {s : ByteArray} {p : Nat} {b : UInt8} (h : s.data.toList[p]? = some b) (hb : b.toNat < 128) : Utf8.decode s p = (b.toNat,1) := by
 have hg : s.get! (p + 0) = b := by
  have h1 : s.data[p]? = some b := by simpa using h
  show s.data[p]! = b
  rw [getElem!_def,h1]
 unfold Utf8.decode
 simp only [hg]
 rw [if_pos hb]
theorem nextS_runs {it : Operand} (ho : o.op = .next it true) (okx : okOpd N it = true) : OpRuns P N o (.nextS it) := by
 intro n0 B μ0 w0 f h a w μ s v h' ev
 have rx := opd_rel s.fr okx
 simp only [aop] at ev
 split at ev
 ·rename_i r hx
  rw [hx] at rx
  obtain ⟨mi,hmi,_,hv⟩ := rx.ptr_inv
  split at ev
  ·rename_i st p hr
   obtain ⟨mi2,hm2,hd,hw⟩ := s.rel.obj r _ hr
   rw [hmi] at hm2; cases hm2
   have hget : (getObj mi.cb).run P w = .ok (.stringIter st p) w := by simp only [getObj,Sem.run,hw]
   have hset : ∀ ob,(setObj mi.cb ob).run P w = .ok () { w with heap := w.heap.setIfInBounds mi.cb ob } := fun ob => by simp only [setObj,Sem.run,hw]
   split at ev
   ·rename_i b hb
    split at ev
    ·rename_i hlt
     cases ev
     have hp : p < st.size := by
      have := (List.getElem?_eq_some_iff.1 hb).1
      simpa using this
     have hdec := decode_low hb hlt
     have hcb := (s.rel.dom r mi hmi).2
     refine ⟨.tuple #[.bool true,.int .i64 p,.int .i32 (b.toNat : Int)],{ w with heap := w.heap.setIfInBounds mi.cb (.stringIter st (p + 1)) },μ,.inl ?_,?_,s.setBlk (obj := .stringIter st (p + 1)) (o' := .strIter st (p + 1)) hr hmi rfl (fun k => ?_) (by simp) ⟨rfl,rfl,rfl⟩ ⟨hd,rfl⟩⟩
     ·simp [execOp,ho,Instr.next,hv,hd,hget,hp,hdec,hset,goInt]
     ·refine .tuple rfl fun i hi => ?_
      have : i = 0 ∨ i = 1 ∨ i = 2 := by simp at hi; omega
      rcases this with rfl | rfl | rfl
      ·exact .bool
      ·exact .int
      ·exact .int
     ·simp only [Array.getElem?_setIfInBounds]
      by_cases hk : k = mi.cb
      ·subst hk; simp [hcb]
      ·rw [if_neg hk,if_neg (fun q => hk q.symm)]
    ·cases ev
   ·rename_i hb
    cases ev
    have hp : ¬ p < st.size := by
     intro q
     have : p < st.data.toList.length := by simpa using q
     rw [List.getElem?_eq_getElem this] at hb
     cases hb
    refine ⟨.tuple #[.bool false],w,μ,.inl ?_,?_,s⟩
    ·simp [execOp,ho,Instr.next,hv,hd,hget,hp]
    ·refine .tuple rfl fun i hi => ?_
     have : i = 0 := by simpa using hi
     subst this
     exact .bool
  ·cases ev
 ·cases ev
theorem freeze_end {w : World} {b : Nat} {cc : Array Value} {e : TypeId} {fz : Nat × Nat} (hw : w.heap[b]? = some (.cells cc e fz)) (hf : ∀ i,i < cc.size → ¬ (fz.1 ≤ i ∧ fz.2 ≠ fz.1)) :
  ∃ fz' : Nat × Nat,(∀ i,i < cc.size → ¬ (fz'.1 ≤ i ∧ fz'.2 ≠ fz'.1)) ∧ ∀ k,(w.freeze ⟨b,cc.size,none⟩ 1).heap[k]? = if k = b then some (.cells cc e fz') else w.heap[k]? := by
 obtain ⟨lo,hi⟩ := fz
 refine ⟨if lo == hi then (cc.size,cc.size + 1) else (min lo cc.size,max hi (cc.size + 1)),fun i hi' => ?_,fun k => ?_⟩
 ·have := hf i hi'
  by_cases hc : lo = hi
  ·simp [hc]; omega
  ·simp [hc]
   simp at this
   omega
 ·have h1 : ¬ ((1 : Nat) = 0) := by omega
  simp only [World.freeze,if_neg h1,Array.getElem?_modify]
  by_cases hk : b = k
  ·subst hk
   rw [if_pos rfl,if_pos rfl,hw]
   rfl
  ·rw [if_neg hk,if_neg fun e => hk e.symm]
theorem slId_runs {sT dT e0 e : TypeId} {x : Operand} (ho : o.op = .convert sT dT x) (hsd : (sT == dT) = true) (hs : P.underlying sT = some (.slice e0)) (hd : P.underlying dT = some (.slice e)) (he : P.underlying e = some (.int .u8)) (okx : okOpd N x = true) : OpRuns P N o (.slId x) := by
 intro n0 B μ0 w0 f h a w μ s v h' ev
 have rx := opd_rel s.fr okx
 simp only [aop] at ev
 split at ev
 ·rename_i ad l c hx
  rw [hx] at rx
  split at ev
  ·rename_i c0 m ez hc
   split at ev
   ·cases ev
   ·rename_i hm
    cases ev
    obtain ⟨mi2,cc,ty,fz,hm2,hb0,hw,cr,htt⟩ := s.rel.cellsT hc
    obtain ⟨r1,r2,r3,r4,r5,r6,r7⟩ := cr
    obtain ⟨fz', g1, g2⟩ := freeze_end hw (r6 fun e => hm (.inl e))
    obtain ⟨a', c', hv, hcase⟩ := rx.slice_inv
    have hab : a'.block = mi2.cb := by
     rcases hcase with ⟨mi,hmi,_,rfl,_⟩ | ⟨q,_⟩
     ·rw [hmi] at hm2; cases hm2; rfl
     ·exact absurd (.inr q) hm
    have hrw : (AObj.cells c0 m ez).rw = true := by
     cases m with
     | ro => exact absurd (.inl rfl) hm
     | _ => rfl
    have hsz : (w.freeze ⟨mi2.cb,cc.size,none⟩ 1).heap.size = w.heap.size := by simp [World.freeze]
    have hS := s.setBlk (w' := w.freeze ⟨mi2.cb,cc.size,none⟩ 1) (obj := .cells cc ty fz') (o' := .cells c0 m ez) hb0 hm2 hrw g2 hsz ⟨by simp [World.freeze],by simp [World.freeze],by simp [World.freeze]⟩
     ⟨cc, ty, fz', rfl, ⟨r1, r2, r3, r4, r5, fun _ => g1, r7⟩, htt⟩
    have hss : h.set ad.block (.cells c0 m ez) = h := by
     cases h with | mk mm n =>
     show Heap.mk _ _ = _
     congr 1
     funext b
     by_cases hb : b = ad.block
     ·subst hb; rw [if_pos rfl]; exact hb0.symm
     ·rw [if_neg hb]
    rw [hss] at hS
    refine ⟨a.eval x,w.freeze ⟨mi2.cb,cc.size,none⟩ 1,μ,.inl ?_,rx,hS⟩
    have hsh : w.shape? a'.block = some (ty,cc.size) := by rw [hab]; simp [World.shape?,hw]
    have hsd : sT = dT := by simpa using hsd
    subst hsd
    have hee : e0 = e := by rw [hs] at hd; cases hd; rfl
    subst hee
    rw [hv,← hab]
    simp [execOp,ho,hv,convert,run_und hs,run_und hd,run_und he,markStringish,run_shape,hsh,run_freeze]
  ·cases ev
 ·cases ev
theorem digits_size : ∀ (n t : Nat) (acc : Array Value),(Extern.BytealgMakeNoZero.digits n t acc).size = acc.size + n
 | 0,_,_ => rfl
 | n + 1,t,acc => by
   rw [Extern.BytealgMakeNoZero.digits,digits_size n]
   simp
   omega
theorem digits_one : ∀ (n t : Nat) (acc : Array Value),(∀ v ∈ acc.toList,v.oneCell' = true) → ∀ v ∈ (Extern.BytealgMakeNoZero.digits n t acc).toList,v.oneCell' = true
 | 0,_,_,h => h
 | n + 1,t,acc,h => by
   rw [Extern.BytealgMakeNoZero.digits]
   refine digits_one n _ _ fun v hv => ?_
   simp at hv
   rcases hv with hv | rfl
   ·exact h v (by simpa using hv)
   ·rfl
theorem run_mkNZ {w : World} (ps : Array TypeId) (t e : TypeId) (ht : P.underlying t = some (.slice e)) (n : Nat) (hn : n ≤ 281474976710656) :
  ∃ cs : Array Value,(Extern.BytealgMakeNoZero.makeNoZero ps #[t] #[.int .i64 n]).run P w = .ok (.slice (some ⟨w.heap.size,0,none⟩) n cs.size) (w.drew.drew.alloc (.cells cs e)) ∧ n ≤ cs.size ∧ ∀ v ∈ cs.toList,v.oneCell' = true := by
 have hdef : Extern.BytealgMakeNoZero.makeNoZero ps #[t] #[.int .i64 n] =
   (do
    let .slice elem ← underlying t | stuck "bytealg.MakeNoZero: slice type expected"
    if (n : Int) < 0 || (n : Int) > 2 ^ 48 then runtimePanic (.error "makeslice: len out of range")
    let cap ← choose (.appendCap (n : Int).toNat 0 elem)
    askRoom cap
    let bytes ← choose (.extern "internal/bytealg.MakeNoZero.bytes" 0)
    let a ← newRow elem (Extern.BytealgMakeNoZero.digits cap bytes #[])
    pure (.slice (some a) (n : Int).toNat cap)) := rfl
 refine ⟨Extern.BytealgMakeNoZero.digits (grownCap w n 0 e) ((Question.extern "internal/bytealg.MakeNoZero.bytes" 0).cut (w.tape (w.drawn + 1) (.extern "internal/bytealg.MakeNoZero.bytes" 0))) #[], ?_, ?_, ?_⟩
 ·rw [hdef]
  have h1 : ¬ (n : Int) < 0 := by omega
  have h2 : ¬ (281474976710656 : Int) < (n : Int) := by omega
  simp [run_underlying ht,h1,h2,Question.forced,newRow,digits_size,grownCap]
 ·rw [digits_size]
  have := grownCap_ge w n 0 e
  simpa using this
 ·exact digits_one _ _ _ (fun v hv => by simp at hv)
theorem mkNZ_runs {c : Call} {g : FuncId} {fn : Func} {t e : TypeId} {x : Operand} (ho : o.op = .call c) (hcal : c.callee = .value (.func g)) (hargs : c.args = #[x]) (hf : P.funcs[g]? = some fn) (hb : fn.body.isNone = true) (hn : Extern.findNext fn = none)
  (hnm : fn.name = "internal/bytealg.MakeNoZero") (hrt : fn.resultTypes.toList = [t]) (ht : P.underlying t = some (.slice e)) (okx : okOpd N x = true) : OpRuns P N o (.mkNZ e x) := by
 intro n0 B μ0 w0 f h a w μ s v h' ev
 have rx := opd_rel s.fr okx
 simp only [aop] at ev
 split at ev
 ·rename_i n hx
  rw [hx] at rx
  split at ev
  ·rename_i hc
   cases ev
   obtain ⟨n,rfl⟩ : ∃ m : Nat,n = m := ⟨n.toNat,by omega⟩
   rw [Int.toNat_natCast]
   have hrt' : fn.resultTypes = #[t] := by apply Array.ext'; simpa using hrt
   obtain ⟨cs,hrun,hge,hone⟩ := run_mkNZ (P := P) (w := w) fn.params t e ht n (by omega)
   have hsplit : cs = (cs.toList.take n).toArray ++ (cs.toList.drop n).toArray := by
    apply Array.ext'; simp
   have hr : CsRel μ (List.replicate n unk) (cs.toList.take n).toArray := by
    have hsz : (cs.toList.take n).length = n := by rw [List.length_take,Array.length_toList]; omega
    refine ⟨by rw [List.length_replicate,List.size_toArray,hsz],fun i hi => ?_,fun i hi => ?_⟩
    ·have hi' : i < n := by simpa using hi
     simp only [List.getD, List.getElem?_replicate, if_pos hi', Option.getD_some]
     exact .any
    ·have hi' : i < (cs.toList.take n).length := by simpa using hi
     have : (cs.toList.take n).toArray.getD i unk = (cs.toList.take n)[i] := by simp only [Array.getD, List.size_toArray, hi', dif_pos]; rfl
     rw [this]
     exact hone _ (List.mem_of_mem_take (List.getElem_mem hi'))
   obtain ⟨μ', g1, g2, g3⟩ := s.newLoose (w1 := w.drew.drew.alloc (.cells cs e)) hr (fun v hv => hone v (List.mem_of_mem_drop hv)) e (0, 0) (fun i _ => by omega) (by rw [← hsplit]; rfl) ⟨rfl, rfl, rfl⟩ (len := n) (cap' := cs.size) (esz := 1) (by simp) hge (by simp; omega) (.inr rfl)
   refine ⟨_, w.drew.drew.alloc (.cells cs e), μ', .inl ?_, g2, g3⟩
   refine ext_run ho hcal hf (by rw [hnm]; rfl) hb hn (find_mkNZ hnm) ?_
   have e1 : c.args.map a.eval = #[.int .i64 (n : Int)] := by rw [hargs]; simp [rx.int_inv]
   rw [e1,hrt']
   exact hrun
  ·cases ev
 ·cases ev
end
end Go.Ab
