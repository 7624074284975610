/-
 Ab: entries,type assertions,functions without a body,strings over bytes.
-/
import Derived.Test.YtdnmkenamgfjoaaGreatAbSoundR
import Derived.Lib.UnsafeStr
import Derived.KernelRfl
set_option linter.unusedSimpArgs false
set_option linter.unusedVariables false
namespace Go.Ab
set_option linter.unusedSectionVars false
variable [Inhabited TabBox]
open Go.RowKit
theorem kill_m' (h : Heap) (b b' : Nat) : (h.kill b).m b' = if b' = b then none else h.m b' := rfl
theorem St.aside {B n0 N : Nat} {μ0 : Mu} {w0 : World} {f : AF} {h : Heap} {a : Act} {w : World} {μ : Mu} (s : St B n0 N μ0 w0 f h a w μ) {w' : World} {cb : Nat} (hw : ∀ k,k ≠ cb → w'.heap[k]? = w.heap[k]?) (hsz : w'.heap.size = w.heap.size)
  (hs : SameBut w w') (hB : B ≤ cb) (hno : ∀ b o mi,h.m b = some o → μ b = some mi → mi.cb ≠ cb) : St B n0 N μ0 w0 f h a w' μ where
 rel := ⟨by rw [hsz]; exact s.rel.base,by rw [hsz]; exact s.rel.dom,fun b o e => by
  obtain ⟨mi,hm,r⟩ := s.rel.obj b o e
  exact ⟨mi,hm,by rw [hw _ (hno b o mi e hm)]; exact r⟩,s.rel.own,s.rel.glob.keep fun k hk => hw k (by omega)⟩
 fr := s.fr
 nod := s.nod
 bel := s.bel.trans ⟨hs.os,hs.tape,hs.output,by omega,fun k hk => hw k (by omega)⟩
 ext := s.ext
 le := s.le
section
variable {P : Program} {N : Nat} {o : Oper}
theorem allocT_runs {t : TypeId} {z : List Value} (ho : o.op = .alloc t) (hz : zOf P t = some z) : OpRuns P N o (.allocT t z) := by
 intro n0 B μ0 w0 f h a w μ s v h' e
 simp only [aop] at e
 cases e
 obtain ⟨i,zv,hi,hzv,hc,hall,hs⟩ := zOf_spec hz
 obtain ⟨μ', _, hm, s'⟩ := s.newRowT (csrel_flat hall) t 1
 refine ⟨.pointer (some ⟨w.heap.size, 0, none⟩), _, μ', .inl ?_, ?_, s'⟩
 ·simp [execOp,ho,Instr.alloc,zeroValue,typeInfo,hi,hzv,newVar,newRow,hc]
 ·have := VRel.ptr (o := 0) hm
  simpa using this
theorem entryM_runs {it : Operand} (ho : o.op = .entry it) (okx : okOpd N it = true) : OpRuns P N o (.entryM it) :=
 .pure fun B μ f h a w hr fr v h' ev => by
  have rx := opd_rel fr okx
  simp only [aop] at ev
  split at ev
  ·rename_i r hx
   rw [hx] at rx
   obtain ⟨mi,hmi,_,hv⟩ := rx.ptr_inv
   split at ev
   ·rename_i m since seen stepped hrr
    split at ev
    ·rename_i stamp es cl hst hm
     split at ev
     ·rename_i hcl
      subst hcl
      simp only [Option.map_eq_some_iff,Prod.mk.injEq] at ev
      obtain ⟨e,he,rfl,rfl⟩ := ev
      obtain ⟨mi2, hm2, hd, m', hw, hmm⟩ := hr.obj r _ hrr
      rw [hmi] at hm2; cases hm2
      obtain ⟨mm, es', hmm1, hwm, hE⟩ := hr.map hm
      have hm' : m' = some mm.cb := by
       rcases hmm with q | ⟨b, mi', q, q2, q3⟩
       ·cases q.1
       ·cases q; rw [hmm1] at q2; cases q2; exact q3
      subst hm'
      have hback : seen.toArray.back? = some stamp := by simpa using hst
      obtain ⟨e', he', rk, rv⟩ : ∃ e', es'.find? (fun e => e.born == stamp) = some e' ∧ VRel μ e.key e'.key ∧ VRel μ e.val e'.val := by
       have key : ∀ (l : List MEnt) (l' : List Go.MapEntry), ERel μ l l' → ∀ e, l.find? (fun e => e.born == stamp) = some e → ∃ e', l'.find? (fun e => e.born == stamp) = some e' ∧ VRel μ e.key e'.key ∧ VRel μ e.val e'.val := by
        intro l
        induction l with
        | nil => intro l' _ e he; cases he
        | cons x l ih =>
          intro l' hE e he
          cases l' with
          | nil => have := hE.1; simp at this
          | cons x' l' =>
            obtain ⟨h1,h2,h3⟩ := hE.2 0 (by simp) (by simp)
            simp only [List.getElem_cons_zero] at h1 h2 h3
            rw [List.find?_cons] at he ⊢
            rw [h3]
            cases hq : (x.born == stamp) with
            | true => rw [hq] at he; cases he; exact ⟨x', rfl, h1, h2⟩
            | false => rw [hq] at he; exact ih l' hE.tail e he
       obtain ⟨e', q1, q2⟩ := key es es'.toList hE e he
       exact ⟨e', by rw [← q1]; exact (Array.find?_toList).symm, q2⟩
      refine ⟨rfl,.tuple #[e'.key,e'.val],?_,?_⟩
      ·simp [execOp,ho,Instr.entry,hv,hd,run_getObj_iter hw,run_getObj_map hwm,hback,he']
      ·exact .tuple rfl fun j hj => by
        match j,hj with
        | 0,_ => exact rk
        | 1,_ => exact rv
     ·cases ev
    ·cases ev
   ·cases ev
  ·cases ev
theorem tassert_runs {t xT : TypeId} {x : Operand} {d : TypeDesc} (ho : o.op = .typeAssert x xT t false) (hu : P.underlying t = some d) (hd : ∀ ms,d ≠ .interface ms) (okx : okOpd N x = true) : OpRuns P N o (.tassert t x) :=
 .pure fun B μ f h a w hr fr v h' ev => by
  have rx := opd_rel fr okx
  simp only [aop] at ev
  split at ev
  ·rename_i t' u hx
   rw [hx] at rx
   split at ev
   ·rename_i ht
    cases ev
    subst ht
    generalize hX : a.eval x = X at rx
    cases rx with
    | iface rv =>
      refine ⟨rfl,_,?_,rv⟩
      simp only [execOp,ho,Instr.typeAssert,Sem.run_bind,run_und hu,Result.andThen_ok,hX]
      cases d <;> first | exact absurd rfl (hd _) | (simp; done)
   ·cases ev
  ·cases ev
theorem ext_run {c : Call} {g : FuncId} {fn : Func} {a : Act} {w w' : World} {v : Value} {e : Array Value → Sem Value} (ho : o.op = .call c) (hcal : c.callee = .value (.func g)) (hf : P.funcs[g]? = some fn)
  (hname : (fn.name == "runtime.NumGoroutine") = false) (hb : fn.body.isNone = true) (hn : Extern.findNext fn = none) (he : Extern.find fn = some e)
  (hrun : (e (c.args.map a.eval)).run P w = .ok v w') : (execOp a.eval o).run P w = .ok (.value v) w' := by
 simp only [execOp,ho,resolve,hcal,Act.eval,Deferred.ofValue,pure_bind,invoke]
 have := run_callFunc_extern hf hname hb hn he (c.args.map a.eval) w
 rw [hrun] at this
 simp only [Result.andThen_ok] at this
 have h2 : (#[] ++ Array.map a.eval c.args ++ #[] : Array Value) = c.args.map a.eval := by simp
 show (callFunc g (#[] ++ Array.map a.eval c.args ++ #[])).run P w = _
 rw [h2]; exact this
theorem find_noesc {fn : Func} (h : fn.name = "internal/abi.NoEscape") : Extern.find fn = some Extern.AbiNoEscape.same := by
 unfold Extern.find
 rw [h]
 kernel_rfl
theorem find_clone {fn : Func} (h : fn.name = "maps.clone") : Extern.find fn = some Extern.MapsClone.clone := by
 unfold Extern.find
 rw [h]
 kernel_rfl
theorem find_idxB {fn : Func} (h : fn.name = "internal/bytealg.IndexByteString") : Extern.find fn = some Extern.BytealgIndexByte.indexByte := by
 unfold Extern.find
 rw [h]
 kernel_rfl
theorem noesc_runs {c : Call} {g : FuncId} {fn : Func} {x : Operand} (ho : o.op = .call c) (hcal : c.callee = .value (.func g)) (hargs : c.args = #[x]) (hf : P.funcs[g]? = some fn) (hb : fn.body.isNone = true) (hn : Extern.findNext fn = none)
  (hnm : fn.name = "internal/abi.NoEscape") (okx : okOpd N x = true) : OpRuns P N o (.noesc x) :=
 .pure fun B μ f h a w hr fr v h' ev => by
  have rx := opd_rel fr okx
  simp only [aop] at ev
  cases ev
  exact ⟨rfl,a.eval x,ext_run ho hcal hf (by rw [hnm]; rfl) hb hn (find_noesc hnm) (by
   have e1 : c.args.map a.eval = #[a.eval x] := by rw [hargs]; simp
   rw [e1]; rfl),rx⟩
theorem idxB_runs {c : Call} {g : FuncId} {fn : Func} {x y : Operand} (ho : o.op = .call c) (hcal : c.callee = .value (.func g)) (hargs : c.args = #[x,y]) (hf : P.funcs[g]? = some fn) (hb : fn.body.isNone = true) (hn : Extern.findNext fn = none)
  (hnm : fn.name = "internal/bytealg.IndexByteString") (okx : okOpd N x = true) (oky : okOpd N y = true) : OpRuns P N o (.idxB x y) :=
 .pure fun B μ f h a w hr fr v h' ev => by
  have rx := opd_rel fr okx
  have ry := opd_rel fr oky
  simp only [aop] at ev
  split at ev
  ·rename_i s n hx hy
   rw [hx] at rx; rw [hy] at ry
   cases ev
   refine ⟨rfl,_,ext_run ho hcal hf (by rw [hnm]; rfl) hb hn (find_idxB hnm) ?_,.int⟩
   have e1 : c.args.map a.eval = #[.string s,.int .u8 n] := by rw [hargs]; simp [rx.string_inv,ry.int_inv]
   rw [e1]
   exact run_indexByte_string s n w
  ·cases ev
theorem mclone_runs {c : Call} {g : FuncId} {fn : Func} {x : Operand} (ho : o.op = .call c) (hcal : c.callee = .value (.func g)) (hargs : c.args = #[x]) (hf : P.funcs[g]? = some fn) (hb : fn.body.isNone = true) (hn : Extern.findNext fn = none)
  (hnm : fn.name = "maps.clone") (okx : okOpd N x = true) : OpRuns P N o (.mclone x) := by
 intro n0 B μ0 w0 f h a w μ s v h' ev
 have rx := opd_rel s.fr okx
 simp only [aop] at ev
 split at ev
 ·rename_i t b hx
  rw [hx] at rx
  split at ev
  ·rename_i es cl hb'
   cases ev
   obtain ⟨mi, es', hm1, hw, hE⟩ := s.rel.map hb'
   generalize hX : a.eval x = X at rx
   cases rx with
   | iface rv =>
     obtain ⟨mi2,hm2,hv⟩ := rv.map_inv
     rw [hm1] at hm2; cases hm2
     subst hv
     have hm := Mu.ext_same μ h.n ⟨w.heap.size,0,0,0,0,false⟩
     refine ⟨.iface t (.map (some w.heap.size)),w.alloc (.map es' cl),_,.inl ?_,.iface (.map hm),s.push (obj := .map es' cl) (mi := ⟨w.heap.size,0,0,0,0,false⟩) rfl ⟨rfl,rfl,rfl⟩ rfl ?_⟩
     ·refine ext_run ho hcal hf (by rw [hnm]; rfl) hb hn (find_clone hnm) ?_
      have e1 : c.args.map a.eval = #[.iface t (.map (some mi.cb))] := by rw [hargs]; simp [hX]
      rw [e1]
      have hdef : Extern.MapsClone.clone #[.iface t (.map (some mi.cb))] = (do
        let .map entries clock ← getObj mi.cb | stuck "maps.clone: a map expected"
        pure (.iface t (.map (some (← newObj (.map entries clock)))))) := rfl
      rw [hdef]
      simp [run_getObj_map hw]
     ·exact ⟨es', rfl, by have := hE.1; simpa using this, fun i hi hi' => by
       obtain ⟨q1,q2,q3⟩ := hE.2 i hi (by simpa using hi')
       exact ⟨q1.mono' (s.ext_mono _),q2.mono' (s.ext_mono _),q3⟩⟩
  ·cases ev
 ·cases ev
theorem sdata_runs {c : Call} {x : Operand} (ho : o.op = .call c) (hcal : c.callee = .builtin .unsafeSliceData) (hargs : c.args = #[x]) (okx : okOpd N x = true) : OpRuns P N o (.sdata x) :=
 .pure fun B μ f h a w hr fr v h' ev => by
  have rx := opd_rel fr okx
  simp only [aop] at ev
  split at ev
  ·rename_i l cp hx
   rw [hx] at rx
   cases ev
   refine ⟨rfl,_,?_,.pnil⟩
   refine builtin_run ho hcal fun cs => ?_
   simp only [builtin,hargs,List.map_toArray,List.map_cons,List.map_nil,rx.snil_inv,Sem.run_bind,Lib.run_unsafeSliceData_nil w,Result.andThen_ok,Sem.run_pure]
  ·rename_i ad l cp hx
   rw [hx] at rx
   split at ev
   ·rename_i hsp
    cases ev
    obtain ⟨a', c', hv, hcase⟩ := rx.slice_inv
    rcases hcase with ⟨mi,hmi,_,rfl,hex⟩ | ⟨_,h0,_⟩
    ·have hc0 : c' ≠ 0 := by rcases hex with e | e <;> omega
     refine ⟨rfl,_,?_,by have := VRel.ptr (o := ad.off) hmi; rwa [← Addr.eta hsp] at this⟩
     refine builtin_run ho hcal fun cs => ?_
     simp only [builtin,hargs,List.map_toArray,List.map_cons,List.map_nil,hv,Sem.run_bind,Lib.run_unsafeSliceData_row w _ _ _ _ _ hc0,Result.andThen_ok,Sem.run_pure]
    ·omega
   ·cases ev
  ·cases ev
theorem uptr_runs {sT dT t : TypeId} {n : Nat} {x : Operand} (ho : o.op = .convert sT dT x) (hs : P.underlying sT = some (.pointer t)) (hd : P.underlying dT = some .unsafePointer) (hz : szOf P t = some (n + 1)) (okx : okOpd N x = true) : OpRuns P N o (.uptr x) :=
 .pure fun B μ f h a w hr fr v h' ev => by
  have rx := opd_rel fr okx
  simp only [aop] at ev
  split at ev
  ·rename_i hx
   rw [hx] at rx
   cases ev
   refine ⟨rfl,_,?_,.pnil⟩
   simp [execOp,ho,convert,run_und hs,run_und hd,rx.pnil_inv,Conv.unsafePointer]
  ·rename_i ad hx
   rw [hx] at rx
   split at ev
   ·rename_i c m e hc
    split at ev
    ·rename_i hg
     cases ev
     obtain ⟨mi,hmi,hsp,hv⟩ := rx.ptr_inv
     obtain ⟨mi2,cc,ty,fz,hm2,hb,hw,cr⟩ := hr.cells hc
     rw [hmi] at hm2; cases hm2
     have hsh : w.shape? mi.cb = some (ty,cc.size) := by simp [World.shape?,hw]
     have h1 := cr.1
     refine ⟨rfl,_,?_,by have := VRel.ptr (o := ad.off) hmi; rwa [← Addr.eta hsp] at this⟩
     have hlt : ¬ cc.size ≤ mi.dl + ad.off := by omega
     simp [execOp,ho,convert,run_und hs,run_und hd,hv,Conv.unsafePointer,Conv.seenAt,viewAt,cellsIn,hsh,run_sizeOf' hz,hlt]
    ·cases ev
   ·cases ev
  ·cases ev
theorem liesAt_self {t : TypeId} {n : Nat} (hc : P.cellsOf t = n + 1) (count k : Nat) (hk : k ≤ count) : liesAt P P.depth t count 0 t k = true := by
 have hd : P.depth = (2 * (P.types.size + Made.depth) + 1) + 1 := rfl
 rw [hd]
 simp only [liesAt,Bool.or_eq_true]
 left
 rw [hd]
 simp [rowAt,hc,hk,sameLayout]
theorem liesAt_bytes' {e : TypeId} (hc : P.cellsOf e = 1) (count off n : Nat) (hn : off + n ≤ count) : liesAt P P.depth e count off e n = true := by
 have hd : P.depth = (2 * (P.types.size + Made.depth) + 1) + 1 := rfl
 rw [hd]
 simp only [liesAt,Bool.or_eq_true]
 left
 rw [hd]
 simp [rowAt,hc,hn,sameLayout,Nat.mod_one]
theorem ptru_runs {sT dT t : TypeId} {n : Nat} {x : Operand} (ho : o.op = .convert sT dT x) (hs : P.underlying sT = some .unsafePointer) (hd : P.underlying dT = some (.pointer t)) (hz : szOf P t = some (n + 1)) (hcs : P.cellsOf t = n + 1) (okx : okOpd N x = true) : OpRuns P N o (.ptru t (n + 1) x) :=
 .pure fun B μ f h a w hr fr v h' ev => by
  have rx := opd_rel fr okx
  simp only [aop] at ev
  split at ev
  ·rename_i hx
   rw [hx] at rx
   cases ev
   refine ⟨rfl,_,?_,.pnil⟩
   simp [execOp,ho,convert,run_und hs,run_und hd,rx.pnil_inv,Conv.unsafePointer]
  ·rename_i ad hx
   rw [hx] at rx
   split at ev
   ·rename_i c m e hc
    split at ev
    ·rename_i hg
     obtain ⟨g1,g2,g3,g4⟩ := hg
     cases ev
     obtain ⟨mi,hmi,hsp,hv⟩ := rx.ptr_inv
     obtain ⟨mi2,cc,ty,fz,hm2,hb,hw,cr,htt⟩ := hr.cellsT hc
     rw [hmi] at hm2; cases hm2
     subst g3
     obtain ⟨rfl,hdl,hcz⟩ := htt
     have hasz := cr.2.2.2.1
     have hcsz := cr.2.2.2.2.1
     have hsz : cc.size = n + 1 := by omega
     have hsh : w.shape? mi.cb = some (ty,n + 1) := by simp [World.shape?,hw,hsz]
     refine ⟨rfl,_,?_,by have := VRel.ptr (o := ad.off) hmi; rwa [← Addr.eta hsp] at this⟩
     have hl := liesAt_self (P := P) hcs ((n + 1) / P.cellsOf ty) 1 (by rw [hcs,Nat.div_self (by omega)]; exact Nat.le_refl _)
     simp [execOp,ho,convert,run_und hs,run_und hd,hv,Conv.unsafePointer,Conv.seenAt,viewAt,cellsIn,hsh,run_sizeOf' hz,hdl,g2,variablesAt,hl]
    ·cases ev
   ·cases ev
  ·cases ev
theorem run_loadBytes' (P : Program) (w : World) : ∀ (ns : List Int) (a : Addr) (acc : ByteArray),(∀ j n,ns[j]? = some n → w.cell? (a.add j) = some (.int .u8 n)) →
  (loadBytes a acc ns.length).run P w = .ok ⟨acc.data ++ (ns.map fun n => UInt8.ofNat n.toNat).toArray⟩ w
 | [],a,acc,_ => by simp [loadBytes]
 | x :: l,a,acc,h => by
   have h0 : w.cell? a = some (.int .u8 x) := by
    have := h 0 x rfl
    simpa [Addr.add] using this
   have ih := run_loadBytes' P w l (a.add 1) (acc.push x.toNat.toUInt8) (fun j y hy => by
    have := h (j + 1) y (by simpa using hy)
    have e : (a.add 1).add j = a.add (j + 1) := by
     unfold Addr.add
     by_cases hj : j = 0
     ·subst hj; simp
     ·simp [hj]; omega
    rw [e]; exact this)
   simp only [List.length_cons,loadBytes,Sem.run_bind,run_load,h0,Result.andThen]
   rw [ih]
   congr 1
   apply ByteArray.ext
   simp [ByteArray.push]
theorem run_ustr (P : Program) (w : World) (pt it ty e : TypeId) (hp : P.underlying pt = some (.pointer e)) (hc : P.cellsOf e = 1) (g off cells : Nat) (hsh : w.shape? g = some (e,cells)) (ns : List Int) (h0 : 0 < ns.length) (hn : off + ns.length ≤ cells) (h63 : ns.length ≤ 9223372036854775807)
  (hcell : ∀ j x,ns[j]? = some x → w.cell? ((⟨g,off,none⟩ : Addr).add j) = some (.int .u8 x)) :
  (Builtin.unsafeString_ #[pt,it] ty #[.pointer (some ⟨g,off,none⟩),.int .i64 ns.length]).run P w = .ok (.string ⟨(ns.map fun n => UInt8.ofNat n.toNat).toArray⟩) (w.freeze ⟨g,off,none⟩ ns.length) := by
 have hl : ns.length ≠ 0 := by omega
 have hne : ns ≠ [] := by rintro rfl; simp at h0
 have hlb := run_loadBytes' P w ns ⟨g,off,none⟩ .empty hcell
 have hlies := liesAt_bytes' (P := P) hc (cells / P.cellsOf e) off ns.length (by rw [hc]; simpa using hn)
 have h63' : ¬ (9223372036854775807 : Int) < (ns.length : Int) := by omega
 have hdef : Builtin.unsafeString_ #[pt,it] ty #[.pointer (some ⟨g,off,none⟩),.int .i64 ns.length] =
   (do
    let n ← asInt (.int .i64 ns.length)
    if n < 0 then runtimePanic (.error "unsafe.String: len out of range")
    if n > IntKind.i64.max then unsupported (.unsafePointer "String: a length above the largest int")
    if n = 0 then pure (.string .empty)
    else if ← variablesAt ⟨g,off,none⟩ (← elemOf pt) n.toNat then do
     let s ← loadBytes ⟨g,off,none⟩ .empty n.toNat
     freeze ⟨g,off,none⟩ n.toNat
     pure (.string s)
    else unsupported (.unsafePointer "String: not so many bytes at ptr")) := rfl
 rw [hdef]
 have hmax : IntKind.i64.max = 9223372036854775807 := rfl
 have hneg : ¬ (ns.length : Int) < 0 := by omega
 simp [asInt, asIntOf, hmax, h63', hneg, hl, hne, variablesAt, hsh, elemOf, run_underlying hp, hlies, hlb]
theorem ustr_runs {c : Call} {pT iT u : TypeId} {p n : Operand} (ho : o.op = .call c) (hcal : c.callee = .builtin .unsafeString) (hargs : c.args = #[p,n]) (hty : c.argTypes.toList = [pT,iT]) (hu : P.underlying pT = some (.pointer u)) (hcs : P.cellsOf u = 1)
  (okp : okOpd N p = true) (okn : okOpd N n = true) : OpRuns P N o (.ustr u p n) := by
 intro n0 B μ0 w0 f h a w μ s v h' ev
 have rp := opd_rel s.fr okp
 have rn := opd_rel s.fr okn
 have hty' : c.argTypes = #[pT,iT] := by apply Array.ext'; simpa using hty
 have hemp : (ByteArray.empty : ByteArray) = ⟨#[]⟩ := rfl
 simp only [aop] at ev
 split at ev
 ·rename_i k hp hn
  rw [hp] at rp; rw [hn] at rn
  split at ev
  ·rename_i h0
   subst h0
   cases ev
   refine ⟨.string ⟨#[]⟩,w,μ,.inl ?_,.string,s⟩
   refine builtin_run ho hcal fun cs => ?_
   simp only [builtin, hargs, hty', List.map_toArray, List.map_cons, List.map_nil, rp.pnil_inv, rn.int_inv, Sem.run_bind, Lib.run_unsafeString_none w, Result.andThen_ok, Sem.run_pure, hemp]
  ·cases ev
 ·rename_i ad k hp hn
  rw [hp] at rp; rw [hn] at rn
  obtain ⟨mi,hmi,hsp,hv⟩ := rp.ptr_inv
  split at ev
  ·rename_i h0
   subst h0
   cases ev
   refine ⟨.string ⟨#[]⟩,w,μ,.inl ?_,.string,s⟩
   refine builtin_run ho hcal fun cs => ?_
   simp only [builtin, hargs, hty', List.map_toArray, List.map_cons, List.map_nil, hv, rn.int_inv, Sem.run_bind, Lib.run_unsafeString_none w, Result.andThen_ok, Sem.run_pure, hemp]
  ·split at ev
   ·rename_i hk
    obtain ⟨k0,k63,_⟩ := hk
    split at ev
    ·rename_i c0 m e hc
     split at ev
     ·rename_i hm
      split at ev
      ·rename_i l hl
       simp only [Option.map_eq_some_iff,Prod.mk.injEq] at ev
       obtain ⟨b,hb,rfl,rfl⟩ := ev
       obtain ⟨mi2,cc,ty,fz,hm2,hb0,hw,cr,htt⟩ := s.rel.cellsT hc
       rw [hmi] at hm2; cases hm2
       have hrw : (AObj.cells c0 m e).rw = true := by rcases hm with ⟨rfl,_⟩ | rfl <;> rfl
       have hty2 : ty = u := by
        rcases hm with ⟨rfl,hu0⟩ | rfl
        ·rcases htt with q | q
         ·exact absurd q hu0
         ·exact q
        ·exact htt.1
       subst hty2
       obtain ⟨r1,r2,r3,r4⟩ := cr
       have hcut := hl
       unfold acut at hcut
       split at hcut
       case isFalse => cases hcut
       rename_i hlen
       cases hcut
       obtain ⟨ns,e1,e2⟩ := abytes_spec (l' := ((cc.toList.drop (mi.dl + ad.off)).take k.toNat)) hb (by simp; omega) (fun i hi => by
        have hi' : i < k.toNat := by simp at hi; omega
        have := r2 (ad.off + i) (by omega)
        have g1 : ((c0.drop ad.off).take k.toNat).getD i unk = c0.getD (ad.off + i) unk := by
         simp [List.getD,hi']
        have g2 : ((cc.toList.drop (mi.dl + ad.off)).take k.toNat).getD i unk = cc.getD (mi.dl + (ad.off + i)) unk := by
         simp [List.getD, hi', Array.getD, show mi.dl + ad.off + i < cc.size by omega, show mi.dl + (ad.off + i) < cc.size by omega, Nat.add_assoc]
        rw [g1,g2]; exact this)
       have hnl : ns.length = k.toNat := by
        have := congrArg List.length e1
        simp at this
        omega
       have hkk : (k : Int) = ((ns.length : Nat) : Int) := by omega
       have hsh : w.shape? mi.cb = some (ty,cc.size) := by simp [World.shape?,hw]
       have hrun := run_ustr P w pT iT o.type ty hu hcs mi.cb (mi.dl + ad.off) cc.size hsh ns (by omega) (by omega) (by omega) (fun j x hx => by
        have hj : j < ns.length := (List.getElem?_eq_some_iff.1 hx).1
        have hadd : (⟨mi.cb,mi.dl + ad.off,none⟩ : Addr).add j = ⟨mi.cb,mi.dl + ad.off + j,none⟩ := Addr.add_lit ..
        rw [hadd]
        simp only [World.cell?,hw]
        have : ((cc.toList.drop (mi.dl + ad.off)).take k.toNat)[j]? = some (.int .u8 x) := by rw [e1,List.getElem?_map,hx]; rfl
        rw [List.getElem?_take,if_pos (by omega),List.getElem?_drop] at this
        simpa using this)
       refine ⟨.string ⟨b.toArray⟩,w.freeze ⟨mi.cb,mi.dl + ad.off,none⟩ ns.length,μ,.inl ?_,.string,?_⟩
       ·refine builtin_run ho hcal fun cs => ?_
        simp only [builtin, hargs, hty', List.map_toArray, List.map_cons, List.map_nil, hv, rn.int_inv, Sem.run_bind]
        rw [hkk,hrun,e2]
        simp only [Result.andThen_ok,Sem.run_pure]
       ·have hown := s.rel.own ad.block _ mi hb0 hmi hrw
        refine (s.kill ad.block).aside (cb := mi.cb) (fun q hq => ?_) ?_ ?_ hown.1 (fun b2 o2 m2 e2' hm2 hcb => ?_)
        ·unfold World.freeze
         split
         ·rfl
         ·simp only [Array.getElem?_modify]
          rw [if_neg (by omega)]
        ·unfold World.freeze
         split
         ·rfl
         ·simp
        ·unfold World.freeze
         split
         ·exact SameBut.refl _
         ·exact ⟨rfl,rfl,rfl⟩
        ·rw [kill_m'] at e2'
         split at e2'
         ·cases e2'
         ·rename_i hne
          exact hne (hown.2 b2 o2 m2 e2' hm2 hcb)
      ·cases ev
     ·cases ev
    ·cases ev
   ·cases ev
 ·cases ev
end
end Go.Ab
