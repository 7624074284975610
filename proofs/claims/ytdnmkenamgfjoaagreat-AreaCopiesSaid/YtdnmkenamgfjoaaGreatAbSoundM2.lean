/-
 Ab: maps,the operations.
-/
import Derived.Test.YtdnmkenamgfjoaaGreatAbSoundM
set_option linter.unusedSimpArgs false
set_option linter.unusedVariables false
namespace Go.Ab
set_option linter.unusedSectionVars false
variable [Inhabited TabBox]
open Go.RowKit
section
variable {P : Program} {N : Nat} {o : Oper}
theorem okKey_cases {d : KD} {k : Value} (h : okKey d k = true) : (d.ag = true ∧ ∃ xs,k = .agg xs ∧ aeqL d.ks xs.toList xs.toList = some true) ∨ (d.ag = false ∧ ∃ c,d.ks = [c] ∧ aeqC c k k = some true) := by
 have h' : sameKey d k k = some true := by unfold okKey at h; simpa using h
 unfold sameKey at h'
 by_cases hag : d.ag = true
 ·rw [if_pos hag] at h'
  cases k <;> first | (cases h'; done) | exact .inl ⟨hag,_,rfl,h'⟩
 ·rw [if_neg hag] at h'
  cases hks : d.ks with
  | nil => rw [hks] at h'; cases h'
  | cons c r =>
    cases r with
    | nil => rw [hks] at h'; exact .inr ⟨by simpa using hag,c,rfl,h'⟩
    | cons _ _ => rw [hks] at h'; cases h'
theorem sameBits_c {c : CK} {v : Value} (h : aeqC c v v = some true) (n : Nat) : Instr.sameBits (n + 1) v v = true := by
 cases c <;> cases v <;> first | (cases h; done) | (simp [Instr.sameBits]; done) | (simp [Instr.sameBits,beq_toListBytes]; done)
theorem sameBits_l : ∀ {ks : List CK} {l : List Value},aeqL ks l l = some true → ∀ n,(l.zip l).all (fun (x,y) => Instr.sameBits (n + 1) x y) = true
 | [],[],_,_ => rfl
 | k :: ks,x :: l,h,n => by
   simp only [aeqL] at h
   split at h
   ·rename_i a b h1 h2
    simp at h
    obtain ⟨rfl,rfl⟩ := h
    simp only [List.zip_cons_cons,List.all_cons,sameBits_c h1 n,Bool.true_and]
    exact sameBits_l h2 n
   ·cases h
 | [],_ :: _,h,_ => by cases h
 | _ :: _,[],h,_ => by cases h
theorem sameBits_key {d : KD} {k : Value} (h : okKey d k = true) : Instr.sameBits 10000 k k = true := by
 rcases okKey_cases h with ⟨_,xs,rfl,h1⟩ | ⟨_,c,_,h1⟩
 ·have := sameBits_l h1 9998
  simp only [Instr.sameBits]
  simpa using this
 ·exact sameBits_c h1 9999
theorem keyStays {d : KD} {k : Value} (h : okKey d k = true) (w : World) : (Instr.keyThatStays k k).run P w = .ok k w := by
 simp only [Instr.keyThatStays,sameBits_key h,if_true,Sem.run_pure]
theorem HRel.map {B : Nat} {μ : Mu} {h : Heap} {w : World} (s : HRel B μ h w) {b : Nat} {es : List MEnt} {cl : Nat} (hb : h.m b = some (.map es cl)) :
  ∃ mi es', μ b = some mi ∧ w.heap[mi.cb]? = some (.map es' cl) ∧ ERel μ es es'.toList := by
 obtain ⟨mi, hm, es', h1, h2, h3⟩ := s.obj b _ hb
 exact ⟨mi, es', hm, h1, by simpa using h2, fun i hi hi' => h3 i hi (by simpa using hi')⟩
theorem run_getObj_map {w : World} {r : Nat} {es : Array Go.MapEntry} {cl : Nat} (h : w.heap[r]? = some (.map es cl)) : (getObj r).run P w = .ok (.map es cl) w := by
 simp only [getObj,Sem.run,h]
theorem run_setObj_map {w : World} {r : Nat} {es : Array Go.MapEntry} {cl : Nat} (h : w.heap[r]? = some (.map es cl)) (ob : Obj) : (setObj r ob).run P w = .ok () { w with heap := w.heap.setIfInBounds r ob } := by
 simp only [setObj,Sem.run,h]
theorem St.setMap {B n0 : Nat} {μ0 : Mu} {w0 : World} {f : AF} {h : Heap} {a : Act} {w : World} {μ : Mu} (s : St B n0 N μ0 w0 f h a w μ) {b : Nat} {es es2 : List MEnt} {cl cl2 : Nat} {mi : MI} {es' : Array Go.MapEntry} {es2' : Array Go.MapEntry}
  (hb : h.m b = some (.map es cl)) (hm : μ b = some mi) (hw : w.heap[mi.cb]? = some (.map es' cl)) (r : ERel μ es2 es2'.toList) :
  St B n0 N μ0 w0 f (h.set b (.map es2 cl2)) a { w with heap := w.heap.setIfInBounds mi.cb (.map es2' cl2) } μ := by
 have hlt : mi.cb < w.heap.size := (s.rel.dom b mi hm).2
 refine s.setBlk (obj := .map es2' cl2) hb hm rfl (fun k => ?_) (by simp) ⟨rfl,rfl,rfl⟩ ?_
 ·simp only [Array.getElem?_setIfInBounds]
  by_cases hk : mi.cb = k
  ·subst hk; simp [hlt]
  ·rw [if_neg hk,if_neg (fun h => hk h.symm)]
 ·exact ⟨es2', rfl, by simpa using r.1, fun i hi hi' => r.2 i hi (by simpa using hi')⟩
theorem checkKey_ok {kt : TypeId} {d : KD} {k : Value} (hd : keyOf' P kt = some d) (hk : okKey d k = true) (em : Bool) (w : World) : (Instr.checkKey em 10000 kt k).run P w = .ok () w := by
 unfold keyOf' at hd
 obtain ⟨ks,hks,rfl⟩ := Option.map_eq_some_iff.1 hd
 rcases okKey_cases hk with ⟨hag,xs,rfl,h1⟩ | ⟨hag,c,hc,h1⟩
 ·have := checkKey_eqTy em 20 kt ks hks 10000 (by omega) xs.toList (aeqL_len h1).1 w
  rwa [isAggT_shape hag] at this
 ·dsimp only at hc
  subst hc
  have := checkKey_eqTy em 20 kt [c] hks 10000 (by omega) [k] rfl w
  rwa [isAggT_shape' hag] at this
theorem lookup_run {t kt e : TypeId} {x k : Value} {ok : Bool} {w : World} {es : Array Go.MapEntry} {q : Option (Nat × Value)} {z : Value} (hu : P.underlying t = some (.map kt e))
  (hx : (x = .map none ∧ es = #[]) ∨ ∃ r cl,x = .map (some r) ∧ w.heap[r]? = some (.map es cl)) (hc : (Instr.checkKey es.isEmpty 10000 kt k).run P w = .ok () w) (hf : (Instr.findKey kt k es.toList).run P w = .ok q w) (hz : (zeroValue e).run P w = .ok z w) :
  (Instr.lookup t x k ok).run P w = .ok (match q with | some (_,v) => (if ok then .tuple #[v,.bool true] else v) | none => (if ok then .tuple #[z,.bool false] else z)) w := by
 rcases hx with ⟨rfl,rfl⟩ | ⟨r,cl,rfl,hw⟩
 ·simp only [Instr.lookup,Sem.run_bind,run_und hu,Result.andThen_ok,Sem.run_pure,hc,hf]
  cases q with
  | none => simp only [Sem.run_bind,hz,Result.andThen_ok,Sem.run_pure]
  | some p => simp only [Sem.run_bind,Result.andThen_ok,Sem.run_pure]
 ·simp only [Instr.lookup,Sem.run_bind,run_und hu,Result.andThen_ok,Sem.run_pure,run_getObj_map hw,hc,hf]
  cases q with
  | none => simp only [Sem.run_bind,hz,Result.andThen_ok,Sem.run_pure]
  | some p => simp only [Sem.run_bind,Result.andThen_ok,Sem.run_pure]
theorem zVal_spec {e : TypeId} {z : Value} (hz : zVal P e = some z) : (∀ w,(zeroValue e).run P w = .ok z w) ∧ flat z = true := by
 unfold zVal at hz
 cases hi : P.info? e with
 | none => rw [hi] at hz; cases hz
 | some i =>
   rw [hi] at hz
   cases hzz : i.zero with
   | none => simp [hzz] at hz
   | some v =>
     simp only [Option.bind_some,hzz] at hz
     split at hz
     ·cases hz; exact ⟨fun w => by simp [zeroValue,typeInfo,hi,hzz],by assumption⟩
     ·cases hz
theorem tuple2 {μ : Mu} {a b a' b' : Value} (ra : VRel μ a a') (rb : VRel μ b b') : VRel μ (.tuple #[a, b]) (.tuple #[a', b']) := by
 refine .tuple rfl (fun q hq => ?_)
 have : q = 0 ∨ q = 1 := by simp at hq; omega
 rcases this with rfl | rfl
 ·simpa using ra
 ·simpa using rb
theorem look_runs {t kt e : TypeId} {d : KD} {z : Value} {x i : Operand} {ok : Bool} (ho : o.op = .lookup t x i ok) (hu : P.underlying t = some (.map kt e)) (hd : keyOf' P kt = some d) (hz : zVal P e = some z) (okx : okOpd N x = true) (oki : okOpd N i = true) : OpRuns P N o (.look d z x i ok) :=
 .pure fun B μ f h a w hr fr v h' ev => by
  have rx := opd_rel fr okx
  have ri := opd_rel fr oki
  obtain ⟨hzero,hzf⟩ := zVal_spec hz
  simp only [aop] at ev
  split at ev
  ·cases ev
  rename_i es hes
  have hconc : ∃ es' : Array Go.MapEntry,ERel μ es es'.toList ∧ ((a.eval x = .map none ∧ es' = #[]) ∨ ∃ r cl,a.eval x = .map (some r) ∧ w.heap[r]? = some (.map es' cl)) := by
   split at hes
   ·rename_i hx
    rw [hx] at rx
    cases hes
    exact ⟨#[],⟨rfl,fun i hi => absurd hi (by simp)⟩,.inl ⟨rx.mnil_inv,rfl⟩⟩
   ·rename_i b hx
    rw [hx] at rx
    split at hes
    ·rename_i es0 cl hb
     cases hes
     obtain ⟨mi, es', hm, hw, hE⟩ := hr.map hb
     obtain ⟨mi2,hm2,hv⟩ := rx.map_inv
     rw [hm] at hm2; cases hm2
     exact ⟨es', hE, .inr ⟨_, _, hv, hw⟩⟩
    ·cases hes
   ·cases hes
  obtain ⟨es', hE, hx'⟩ := hconc
  split at ev
  case isFalse => cases ev
  rename_i hk
  have hki := (okKey_run hd hk).2 μ _ ri
  have hck := checkKey_ok hd hk es'.isEmpty w
  split at ev
  ·rename_i j hj
   split at ev
   ·rename_i en hen
    cases ev
    have hf := findKey_run (w := w) hd hE hj
    have hjl : j < es.length := by
     rcases Nat.lt_or_ge j es.length with g | g
     ·exact g
     ·rw [List.getElem?_eq_none g] at hen; cases hen
    have hjl' : j < es'.toList.length := by rw [← hE.1]; exact hjl
    have hval := (hE.2 j hjl hjl').2.1
    have hene : es[j] = en := by rw [List.getElem?_eq_getElem hjl] at hen; exact Option.some.inj hen
    rw [hene] at hval
    have hfa : foundAt es'.toList 0 (some j) = some (j, es'.toList[j].val) := by simp only [foundAt, Nat.sub_zero, List.getElem?_eq_getElem hjl', Option.map_some]
    rw [hfa] at hf
    have hrun := lookup_run (ok := ok) hu hx' hck hf (hzero w)
    refine ⟨rfl,if ok then .tuple #[es'.toList[j].val,.bool true] else es'.toList[j].val,?_,?_⟩
    ·simp only [execOp,ho,Sem.run_bind,hki,hrun,Result.andThen_ok,Sem.run_pure]
    ·cases ok
     ·exact hval
     ·exact tuple2 hval .bool
   ·cases ev
  ·rename_i hj
   cases ev
   have hf := findKey_run (w := w) hd hE hj
   have hrun := lookup_run (ok := ok) hu hx' hck hf (hzero w)
   refine ⟨rfl,if ok then .tuple #[z,.bool false] else z,?_,?_⟩
   ·simp only [execOp,ho,Sem.run_bind,hki,hrun,Result.andThen_ok,Sem.run_pure,foundAt]
   ·cases ok
    ·exact .flat hzf
    ·exact tuple2 (.flat hzf) .bool
  ·cases ev
theorem ERel.set {μ : Mu} {es : List MEnt} {es' : List Go.MapEntry} (h : ERel μ es es') {j : Nat} {en : MEnt} {en' : Go.MapEntry} (hk : VRel μ en.key en'.key) (hv : VRel μ en.val en'.val) (hb : en'.born = en.born) : ERel μ (es.set j en) (es'.set j en') := by
 refine ⟨by simpa using h.1,fun i hi hi' => ?_⟩
 simp only [List.length_set] at hi hi'
 simp only [List.getElem_set]
 by_cases hij : j = i
 ·rw [if_pos hij,if_pos hij]; exact ⟨hk,hv,hb⟩
 ·rw [if_neg hij,if_neg hij]; exact h.2 i hi hi'
theorem ERel.snoc {μ : Mu} {es : List MEnt} {es' : List Go.MapEntry} (h : ERel μ es es') {en : MEnt} {en' : Go.MapEntry} (hk : VRel μ en.key en'.key) (hv : VRel μ en.val en'.val) (hb : en'.born = en.born) : ERel μ (es ++ [en]) (es' ++ [en']) := by
 refine ⟨by simpa using h.1,fun i hi hi' => ?_⟩
 by_cases hl : i < es.length
 ·rw [List.getElem_append_left hl,List.getElem_append_left (by rw [← h.1]; exact hl)]; exact h.2 i hl _
 ·have : i = es.length := by simp at hi; omega
  subst this
  rw [List.getElem_append_right (by omega),List.getElem_append_right (by have := h.1; omega)]
  simp only [h.1,Nat.sub_self,List.getElem_cons_zero]
  exact ⟨hk,hv,hb⟩
theorem modify_set {es : Array Go.MapEntry} {j : Nat} (g : Go.MapEntry → Go.MapEntry) (h : j < es.toList.length) : (es.modify j g).toList = es.toList.set j (g es.toList[j]) := by
 apply List.ext_getElem
 ·simp
 ·intro i h1 h2
  simp only [Array.getElem_toList,Array.getElem_modify,List.getElem_set]
  by_cases hij : j = i
  ·subst hij; simp
  ·simp [hij]
theorem found {t : TypeId} {d : KD} {k : Value} (hd : keyOf' P t = some d) {μ : Mu} {w : World} {es : List MEnt} {es' : Array Go.MapEntry} {j : Nat} {en : MEnt} (hE : ERel μ es es'.toList) (hj : afind d k es 0 = some (some j)) (hen : es[j]? = some en) :
  ∃ h : j < es'.toList.length,(Instr.findKey t k es'.toList).run P w = .ok (some (j,es'.toList[j].val)) w ∧ es'.toList[j].key = k ∧ VRel μ en.val es'.toList[j].val ∧ es'.toList[j].born = en.born ∧ (es'[j]?) = some es'.toList[j] := by
 have hf := findKey_run (w := w) hd hE hj
 have hjl : j < es.length := by
  rcases Nat.lt_or_ge j es.length with g | g
  ·exact g
  ·rw [List.getElem?_eq_none g] at hen; cases hen
 have hjl' : j < es'.toList.length := by rw [← hE.1]; exact hjl
 have hene : es[j] = en := by rw [List.getElem?_eq_getElem hjl] at hen; exact Option.some.inj hen
 obtain ⟨g1,g2,g3⟩ := hE.2 j hjl hjl'
 rw [hene] at g1 g2 g3
 obtain ⟨_, _, e', he', hsk⟩ := afind_ge hj
 rw [Nat.sub_zero,hen] at he'
 cases he'
 obtain ⟨_,q2,_,q4⟩ := sameKey_run hd hsk w
 refine ⟨hjl', ?_, ?_, g2, g3, ?_⟩
 ·rw [hf]; simp only [foundAt, Nat.sub_zero, List.getElem?_eq_getElem hjl', Option.map_some]
 ·rw [q4 μ _ g1,← q2 rfl]
 ·have : j < es'.size := by simpa using hjl'
  simp [this]
theorem mupd_runs {t kt e : TypeId} {d : KD} {m k x : Operand} (ho : o.op = .mapUpdate t m k x ∨ o.op = .insert t m k x) (hu : P.underlying t = some (.map kt e)) (hd : keyOf' P kt = some d) (okm : okOpd N m = true) (okk : okOpd N k = true) (okx : okOpd N x = true) : OpRuns P N o (.mupd d m k x) := by
 intro n0 B μ0 w0 f h a w μ s v h' ev
 have rm := opd_rel s.fr okm
 have rk := opd_rel s.fr okk
 have rx := opd_rel s.fr okx
 simp only [aop] at ev
 split at ev
 ·rename_i b hm
  rw [hm] at rm
  split at ev
  ·rename_i es cl hb
   obtain ⟨mi, es', hmi, hw, hE⟩ := s.rel.map hb
   obtain ⟨mi2,hm2,hv⟩ := rm.map_inv
   rw [hmi] at hm2; cases hm2
   split at ev
   case isFalse => cases ev
   rename_i hk
   have hki := (okKey_run hd hk).2 μ _ rk
   have hkk : VRel μ (aev f k) (aev f k) := by have := rk; rwa [hki] at this
   have hck := checkKey_ok hd hk false w
   split at ev
   ·rename_i j hj
    split at ev
    ·rename_i en hen
     cases ev
     obtain ⟨hjl,hf,hkey,hval,hborn,hget⟩ := found (w := w) hd hE hj hen
     refine ⟨undef,{ w with heap := w.heap.setIfInBounds mi.cb (.map (es'.modify j fun en => { en with key := aev f k,val := a.eval x }) cl) },μ,.inr ⟨?_,rfl⟩,.any,?_⟩
     ·have : (Instr.mapUpdate t (a.eval m) (a.eval k) (a.eval x)).run P w = .ok () { w with heap := w.heap.setIfInBounds mi.cb (.map (es'.modify j fun en => { en with key := aev f k,val := a.eval x }) cl) } := by
       rw [hv,hki]
       simp only [Instr.mapUpdate,Sem.run_bind,run_und hu,Result.andThen_ok,run_getObj_map hw,hck,hf,hget,Option.map_some,Option.getD_some,hkey,keyStays hk]
       rw [run_setObj_map hw]
      rcases ho with ho | ho <;> simp only [execOp,ho,Sem.run_bind,this,Result.andThen_ok,Sem.run_pure]
     ·refine s.setMap hb hmi hw ?_
      rw [modify_set _ hjl]
      exact hE.set hkk rx hborn
    ·cases ev
   ·rename_i hj
    cases ev
    have hf := findKey_run (w := w) hd hE hj
    refine ⟨undef,{ w with heap := w.heap.setIfInBounds mi.cb (.map (es'.push { key := aev f k,val := a.eval x,born := cl }) (cl + 1)) },μ,.inr ⟨?_,rfl⟩,.any,?_⟩
    ·have : (Instr.mapUpdate t (a.eval m) (a.eval k) (a.eval x)).run P w = .ok () { w with heap := w.heap.setIfInBounds mi.cb (.map (es'.push { key := aev f k,val := a.eval x,born := cl }) (cl + 1)) } := by
      rw [hv,hki]
      simp only [Instr.mapUpdate,Sem.run_bind,run_und hu,Result.andThen_ok,run_getObj_map hw,hck,hf,foundAt]
      rw [run_setObj_map hw]
     rcases ho with ho | ho <;> simp only [execOp,ho,Sem.run_bind,this,Result.andThen_ok,Sem.run_pure]
    ·refine s.setMap hb hmi hw ?_
     rw [Array.toList_push]
     exact hE.snoc hkk rx rfl
   ·cases ev
  ·cases ev
 ·cases ev
theorem mentry_runs {t kt e : TypeId} {d : KD} {z : Value} {m k : Operand} (ho : o.op = .mapEntry t m k) (hu : P.underlying t = some (.map kt e)) (hd : keyOf' P kt = some d) (hz : zVal P e = some z) (okm : okOpd N m = true) (okk : okOpd N k = true) : OpRuns P N o (.mentry d z m k) := by
 intro n0 B μ0 w0 f h a w μ s v h' ev
 have rm := opd_rel s.fr okm
 have rk := opd_rel s.fr okk
 obtain ⟨hzero,hzf⟩ := zVal_spec hz
 simp only [aop] at ev
 split at ev
 ·rename_i b hm
  rw [hm] at rm
  split at ev
  ·rename_i es cl hb
   obtain ⟨mi, es', hmi, hw, hE⟩ := s.rel.map hb
   obtain ⟨mi2,hm2,hv⟩ := rm.map_inv
   rw [hmi] at hm2; cases hm2
   split at ev
   case isFalse => cases ev
   rename_i hk
   have hki := (okKey_run hd hk).2 μ _ rk
   have hkk : VRel μ (aev f k) (aev f k) := by have := rk; rwa [hki] at this
   have hck := checkKey_ok hd hk false w
   split at ev
   ·rename_i j hj
    split at ev
    ·rename_i en hen
     cases ev
     obtain ⟨hjl,hf,hkey,hval,hborn,hget⟩ := found (w := w) hd hE hj hen
     refine ⟨.tuple #[es'.toList[j].val,.int .i64 en.born],{ w with heap := w.heap.setIfInBounds mi.cb (.map (es'.modify j fun en => { en with key := aev f k }) cl) },μ,.inl ?_,tuple2 hval .int,?_⟩
     ·have : (Instr.mapEntry t (a.eval m) (a.eval k)).run P w = .ok (.tuple #[es'.toList[j].val,.int .i64 en.born]) { w with heap := w.heap.setIfInBounds mi.cb (.map (es'.modify j fun en => { en with key := aev f k }) cl) } := by
       rw [hv,hki]
       simp only [Instr.mapEntry,Sem.run_bind,run_und hu,Result.andThen_ok,run_getObj_map hw,hck,hf,hget,Option.map_some,Option.getD_some,hkey,keyStays hk,hborn,goInt]
       rw [run_setObj_map hw]
       rfl
      simp only [execOp,ho,Sem.run_bind,this,Result.andThen_ok,Sem.run_pure]
     ·refine s.setMap hb hmi hw ?_
      rw [modify_set _ hjl]
      exact hE.set hkk hval hborn
    ·cases ev
   ·rename_i hj
    cases ev
    have hf := findKey_run (w := w) hd hE hj
    refine ⟨.tuple #[z,.int .i64 cl],{ w with heap := w.heap.setIfInBounds mi.cb (.map (es'.push { key := aev f k,val := z,born := cl }) (cl + 1)) },μ,.inl ?_,tuple2 (.flat hzf) .int,?_⟩
    ·have : (Instr.mapEntry t (a.eval m) (a.eval k)).run P w = .ok (.tuple #[z,.int .i64 cl]) { w with heap := w.heap.setIfInBounds mi.cb (.map (es'.push { key := aev f k,val := z,born := cl }) (cl + 1)) } := by
      rw [hv,hki]
      simp only [Instr.mapEntry,Sem.run_bind,run_und hu,Result.andThen_ok,run_getObj_map hw,hck,hf,foundAt,hzero,goInt]
      rw [run_setObj_map hw]
      rfl
     simp only [execOp,ho,Sem.run_bind,this,Result.andThen_ok,Sem.run_pure]
    ·refine s.setMap hb hmi hw ?_
     rw [Array.toList_push]
     exact hE.snoc hkk (.flat hzf) rfl
   ·cases ev
  ·cases ev
 ·cases ev
theorem findIdx_rel {μ : Mu} {q : Int} : ∀ {es : List MEnt} {es' : List Go.MapEntry},ERel μ es es' → es.findIdx? (fun e => decide ((e.born : Int) = q)) = es'.findIdx? (fun e => (e.born : Int) == q)
 | [],[],_ => rfl
 | e :: es, e' :: es', h => by
   have h0 := (h.2 0 (by simp) (by simp)).2.2
   simp only [List.getElem_cons_zero] at h0
   simp only [List.findIdx?_cons,findIdx_rel h.tail,h0]
   rw [int_beq]
 | [],_ :: _,h => by cases h.1
 | _ :: _,[],h => by cases h.1
theorem arr_findIdx {α : Type} (es : Array α) (p : α → Bool) : es.findIdx? p = es.toList.findIdx? p := by cases es; simp
theorem estore_runs {t : TypeId} {m st x : Operand} (ho : o.op = .entryStore t m st x) (okm : okOpd N m = true) (oks : okOpd N st = true) (okx : okOpd N x = true) : OpRuns P N o (.estore m st x) := by
 intro n0 B μ0 w0 f h a w μ s v h' ev
 have rm := opd_rel s.fr okm
 have rs := opd_rel s.fr oks
 have rx := opd_rel s.fr okx
 simp only [aop] at ev
 split at ev
 ·rename_i b k q hm hs
  rw [hm] at rm
  rw [hs] at rs
  split at ev
  ·rename_i es cl hb
   obtain ⟨mi, es', hmi, hw, hE⟩ := s.rel.map hb
   obtain ⟨mi2,hm2,hv⟩ := rm.map_inv
   rw [hmi] at hm2; cases hm2
   split at ev
   ·rename_i j hj
    split at ev
    ·rename_i en hen
     cases ev
     have hjl : j < es.length := by
      rcases Nat.lt_or_ge j es.length with g | g
      ·exact g
      ·rw [List.getElem?_eq_none g] at hen; cases hen
     have hjl' : j < es'.toList.length := by rw [← hE.1]; exact hjl
     have hene : es[j] = en := by rw [List.getElem?_eq_getElem hjl] at hen; exact Option.some.inj hen
     obtain ⟨g1,g2,g3⟩ := hE.2 j hjl hjl'
     rw [hene] at g1 g2 g3
     rw [findIdx_rel hE] at hj
     have hj' : es'.findIdx? (fun e => (e.born : Int) == q) = some j := by
      rw [arr_findIdx]; exact hj
     refine ⟨undef,{ w with heap := w.heap.setIfInBounds mi.cb (.map (es'.modify j fun en => { en with val := a.eval x }) cl) },μ,.inr ⟨?_,rfl⟩,.any,?_⟩
     ·have : (Instr.entryStore t (a.eval m) (a.eval st) (a.eval x)).run P w = .ok () { w with heap := w.heap.setIfInBounds mi.cb (.map (es'.modify j fun en => { en with val := a.eval x }) cl) } := by
       rw [hv,rs.int_inv]
       simp only [Instr.entryStore,Sem.run_bind,Result.andThen_ok,run_getObj_map hw,asInt,asIntOf,pure_bind,Sem.run_pure,hj']
       rw [run_setObj_map hw]
      simp only [execOp,ho,Sem.run_bind,this,Result.andThen_ok,Sem.run_pure]
     ·refine s.setMap hb hmi hw ?_
      rw [modify_set _ hjl']
      exact hE.set g1 rx g3
    ·cases ev
   ·cases ev
  ·cases ev
 ·cases ev
theorem lenM_runs {t k e : TypeId} {x : Operand} {c : Call} (ho : o.op = .call c) (hcal : c.callee = .builtin .len) (hargs : c.args = #[x]) (hty : c.argTypes.toList = [t])
  (hu : P.underlying t = some (.map k e)) (okx : okOpd N x = true) : OpRuns P N o (.lenM x) :=
 .pure fun B μ f h a w hr fr v h' ev => by
  have rx := opd_rel fr okx
  have hty' : c.argTypes = #[t] := by apply Array.ext'; simpa using hty
  simp only [aop] at ev
  split at ev
  ·rename_i hx
   rw [hx] at rx
   cases ev
   refine ⟨rfl,_,?_,.int⟩
   refine builtin_run ho hcal fun cs => ?_
   simp [builtin, Builtin.len_, hargs, hty', run_und hu, rx.mnil_inv, goInt]
  ·rename_i b hx
   rw [hx] at rx
   split at ev
   ·rename_i es cl hb
    cases ev
    obtain ⟨mi, es', hm, hw, hE⟩ := hr.map hb
    obtain ⟨mi2,hm2,hv⟩ := rx.map_inv
    rw [hm] at hm2; cases hm2
    refine ⟨rfl,_,?_,.int⟩
    refine builtin_run ho hcal fun cs => ?_
    have hl : es'.size = es.length := by simpa using hE.1.symm
    simp [builtin, Builtin.len_, hargs, hty', run_und hu, hv, run_getObj_map hw, goInt, hl]
   ·cases ev
  ·cases ev
end
end Go.Ab
