/-
 Ab: operations that leave the world alone,the rest.
-/
import Derived.Test.YtdnmkenamgfjoaaGreatAbSound3
set_option linter.unusedSimpArgs false
set_option linter.unusedVariables false
namespace Go.Ab
set_option linter.unusedSectionVars false
variable [Inhabited TabBox]
open Go.RowKit
theorem run_isAgg' {P : Program} {t : TypeId} {s : Option Nat} (h : aggOf P t = some s) (w : World) :
  (isAgg t).run P w = .ok s.isSome w ∧ (∀ n,s = some n → szOf P t = some n) := by
 unfold aggOf at h
 cases hu : P.underlying t with
 | none => rw [hu] at h; cases h
 | some d =>
   rw [hu] at h
   refine ⟨?_,?_⟩
   ·simp only [isAgg,Sem.run_bind,run_und hu,Result.andThen_ok]
    cases d <;> dsimp only at h ⊢ <;> first
     | (cases h; rfl)
     | (obtain ⟨n,hn,rfl⟩ := Option.map_eq_some_iff.1 h; rfl)
   ·intro n hn
    subst hn
    cases d <;> dsimp only at h <;> first
     | (cases h; done)
     | (obtain ⟨m,hm,e⟩ := Option.map_eq_some_iff.1 h; cases e; exact hm)
def cpart (cs : Array Value) (s : Option Nat) (off : Nat) (v' : Value) : Prop := match s with
 | none => cs[off]? = some v'
 | some n => v' = .agg (cs.extract off (off + n))
theorem acut_rel {μ : Mu} {c : List Value} {cc : Array Value} {d o n : Nat} {l : List Value} (h : acut c o n = some l) (hs : d + c.length ≤ cc.size)
  (hr : ∀ i,i < c.length → VRel μ (c.getD i unk) (cc.getD (d + i) unk)) (h1 : ∀ i,i < c.length → (cc.getD (d + i) unk).oneCell' = true) :
  l.length = n ∧ VRel μ (.agg l.toArray) (.agg (cc.extract (d + o) (d + o + n))) := by
 unfold acut at h
 split at h
 ·rename_i hle
  cases h
  have hlen : (List.take n (List.drop o c)).length = n := by simp; omega
  have get : ∀ i,i < n → (cc.extract (d + o) (d + o + n)).getD i unk = cc.getD (d + (o + i)) unk := by
   intro i hi
   simp only [Array.getD]
   rw [dif_pos (by simp; omega),dif_pos (by omega)]
   simp [Nat.add_assoc]
  refine ⟨hlen,.agg (by simp; omega) (fun i hi => ?_) (fun i hi => ?_)⟩
  ·have hi' : i < n := by simpa [hlen] using hi
   rw [get i hi']
   have := hr (o + i) (by omega)
   have e : (List.take n (List.drop o c)).toArray.getD i unk = c.getD (o + i) unk := by
    simp [Array.getD, List.getD, List.getElem?_take, List.getElem?_drop, hi', show o + i < c.length by omega, show i < min n (c.length - o) by omega]
   rw [e]; exact this
  ·have hi' : i < n := by simp at hi; omega
   rw [get i hi']
   exact h1 _ (by omega)
 ·cases h
theorem run_loadCells' {P : Program} {w : World} {b o n : Nat} {cc : Array Value} {t : TypeId} {fz : Nat × Nat} (hw : w.heap[b]? = some (.cells cc t fz)) (hl : o + n ≤ cc.size) :
  (loadCells ⟨b,o,none⟩ n).run P w = .ok (cc.extract o (o + n)) w := by
 rw [run_loadCells w ⟨b,o,none⟩ n (fun j => cc.getD (o + j) unk) (fun j hj => by
  have : (⟨b,o,none⟩ : Addr).add j = ⟨b,o + j,none⟩ := Addr.add_lit b o j
  rw [this]
  simp [World.cell?,hw,Array.getD,show o + j < cc.size by omega])]
 congr 1
 apply Array.ext
 ·simp; omega
 ·intro i h1 h2
  simp at h1
  simp [Array.getD,show o + i < cc.size by omega]
section
variable {P : Program} {N : Nat} {o : Oper}
theorem apart_rel {μ : Mu} {c : List Value} {cc : Array Value} {d : Nat} (hs : d + c.length ≤ cc.size)
  (hr : ∀ i,i < c.length → VRel μ (c.getD i unk) (cc.getD (d + i) unk)) (h1 : ∀ i,i < c.length → (cc.getD (d + i) unk).oneCell' = true)
  {s : Option Nat} {off : Nat} {v : Value} (h : apart c s off = some v) : ∃ v', cpart cc s (d + off) v' ∧ VRel μ v v' ∧ (∀ n, s = some n → off + n ≤ c.length) := by
 cases s with
 | none =>
   simp only [apart] at h
   have hlt : off < c.length := by
    rcases Nat.lt_or_ge off c.length with g | g
    ·exact g
    ·rw [List.getElem?_eq_none g] at h; cases h
   refine ⟨cc.getD (d + off) unk,getD_eq_of_lt (by omega) _,?_,fun n hn => by cases hn⟩
   have := hr off hlt
   rwa [List.getD,h,Option.getD_some] at this
 | some n =>
   simp only [apart] at h
   obtain ⟨l,hl,rfl⟩ := Option.map_eq_some_iff.1 h
   refine ⟨_,rfl,(acut_rel hl hs hr h1).2,fun m hm => ?_⟩
   cases hm
   unfold acut at hl
   split at hl
   ·assumption
   ·cases hl
theorem load_runs {t : TypeId} {s : Option Nat} {x : Operand} (ho : o.op = .load t x) (hs : aggOf P t = some s) (okx : okOpd N x = true) : OpRuns P N o (.load s x) :=
 .pure fun B μ f h a w hr fr v h' e => by
  have rx := opd_rel fr okx
  simp only [aop] at e
  split at e
  ·rename_i ad hx
   rw [hx] at rx
   split at e
   ·rename_i c m es hc
    obtain ⟨mi,hmi,hsp,hv⟩ := rx.ptr_inv
    rw [if_pos hsp] at e
    obtain ⟨mi', cc, ty, fz, hm', hb, hw, r⟩ := hr.cells hc
    rw [hmi] at hm'; cases hm'
    obtain ⟨hag,hsz⟩ := run_isAgg' hs w
    have r1 := r.1
    simp only [Option.map_eq_some_iff,Prod.mk.injEq] at e
    obtain ⟨u,hu,rfl,rfl⟩ := e
    obtain ⟨v', hp, rv, hle⟩ := apart_rel r1 r.2.1 r.2.2.1 hu
    refine ⟨rfl, v', ?_, rv⟩
    simp only [execOp,ho,Instr.loadAt,hv,Instr.sureAddr,pure_bind,loadVar,Sem.run_bind,hag,Result.andThen_ok]
    cases s with
    | none =>
      simp only [cpart] at hp
      have hcell : w.cell? ⟨mi.cb,mi.dl + ad.off,none⟩ = some v' := by simpa [World.cell?,hw] using hp
      simp only [Option.isSome_none,Bool.false_eq_true,if_false,run_load,hcell]
      rfl
    | some n =>
      simp only [cpart] at hp
      subst hp
      have := hle n rfl
      simp only [Option.isSome_some,if_true,Sem.run_bind,run_sizeOf' (hsz n rfl),Result.andThen_ok]
      rw [run_loadCells' hw (by omega)]
      rfl
   ·cases e
  ·rename_i k g o hx
   rw [hx] at rx
   split at e
   ·rename_i c hc
    obtain ⟨_,cc,ty,fz,hw,hle0,hcl⟩ := hr.glob g c hc
    have hv : a.eval x = .pointer (some ⟨g,o,none⟩) := by
     generalize a.eval x = X at rx
     cases rx; rfl
    obtain ⟨hag,hsz⟩ := run_isAgg' hs w
    simp only [Option.map_eq_some_iff,Prod.mk.injEq] at e
    obtain ⟨u,hu,rfl,rfl⟩ := e
    obtain ⟨v', hp, rv, hle⟩ := apart_rel (μ := μ) (c := c) (cc := cc) (d := 0) (by omega) (fun i hi => by rw [Nat.zero_add]; exact (hcl i hi).1 μ) (fun i hi => by rw [Nat.zero_add]; exact (hcl i hi).2) hu
    refine ⟨rfl, v', ?_, rv⟩
    simp only [execOp,ho,Instr.loadAt,hv,Instr.sureAddr,pure_bind,loadVar,Sem.run_bind,hag,Result.andThen_ok]
    rw [Nat.zero_add] at hp
    cases s with
    | none =>
      simp only [cpart] at hp
      have hcell : w.cell? ⟨g,o,none⟩ = some v' := by simpa [World.cell?,hw] using hp
      simp only [Option.isSome_none,Bool.false_eq_true,if_false,run_load,hcell]
      rfl
    | some n =>
      simp only [cpart] at hp
      subst hp
      have := hle n rfl
      simp only [Option.isSome_some,if_true,Sem.run_bind,run_sizeOf' (hsz n rfl),Result.andThen_ok]
      rw [run_loadCells' hw (by omega)]
      rfl
   ·cases e
  ·cases e
theorem un_runs {op : UnOp} {t : TypeId} {x : Operand} (ho : o.op = .unOp op t x) (okx : okOpd N x = true) : OpRuns P N o (.un op x) :=
 .pure fun B μ f h a w hr fr v h' e => by
  have rx := opd_rel fr okx
  simp only [aop,Option.map_eq_some_iff,Prod.mk.injEq] at e
  obtain ⟨u,hu,rfl,rfl⟩ := e
  unfold aun at hu
  split at hu
  all_goals first
   | (cases hu; done)
   | (rename_i hx; rw [hx] at rx; cases hu
      first
       | (refine ⟨rfl,_,?_,.int⟩; simp [execOp,ho,rx.int_inv,Op.unary,Op.intArith,intBits_run]; done)
       | (refine ⟨rfl,_,?_,.bool⟩; simp [execOp,ho,rx.bool_inv,Op.unary]; done))
theorem toInt_runs {s d : TypeId} {k k' : IntKind} {x : Operand} (ho : o.op = .convert s d x) (hs : P.underlying s = some (.int k')) (hd : P.underlying d = some (.int k)) (okx : okOpd N x = true) : OpRuns P N o (.toInt k x) :=
 .pure fun B μ f h a w hr fr v h' e => by
  have rx := opd_rel fr okx
  simp only [aop] at e
  split at e
  ·rename_i q n hx
   rw [hx] at rx
   cases e
   refine ⟨rfl,_,?_,.int⟩
   simp [execOp,ho,rx.int_inv,convert,run_und hs,run_und hd,Conv.intToInt]
  ·cases e
theorem mkI_runs {t : TypeId} {d : TypeDesc} {x : Operand} (ho : o.op = .makeInterface t x) (hd : P.underlying t = some d) (hi : ∀ ms,d ≠ .interface ms) (okx : okOpd N x = true) : OpRuns P N o (.mkI t x) :=
 .pure fun B μ f h a w hr fr v h' e => by
  have rx := opd_rel fr okx
  simp only [aop] at e
  cases e
  refine ⟨rfl,_,?_,.iface rx⟩
  simp only [execOp,ho,Instr.makeInterface,Sem.run_bind,run_und hd,Result.andThen_ok]
  cases d <;> first | exact absurd rfl (hi _) | rfl
theorem mapRel {μ : Mu} {f : AF} {a : Act} (fr : FRel N μ f a.tmps) {xs : List Operand} (ok : xs.all (okOpd N) = true) : LRel μ (xs.map (aev f)) (xs.map a.eval).toArray := by
 refine ⟨by simp,fun i hi => ?_⟩
 simp at hi
 have := List.all_eq_true.1 ok xs[i] (by simp)
 simpa [List.getD,Array.getD,hi] using opd_rel fr this
theorem mkF_runs {fn : Fn} {x y : Array Operand} (ho : o.op = .makeFunc fn x y) (okx : x.toList.all (okOpd N) = true) (oky : y.toList.all (okOpd N) = true) : OpRuns P N o (.mkF fn x.toList y.toList) :=
 .pure fun B μ f h a w hr fr v h' e => by
  simp only [aop] at e
  cases e
  have h1 := mapRel fr okx
  have h2 := mapRel fr oky
  refine ⟨rfl,.func fn (x.map a.eval) (y.map a.eval),?_,?_⟩
  ·simp [execOp,ho,Instr.makeFunc]
  ·refine .func (by simp) (fun i hi => ?_) (by simp) (fun i hi => ?_)
   ·have := h1.2 i (by simpa using hi)
    simp at hi
    simpa [List.getD,Array.getD,hi] using this
   ·have := h2.2 i (by simpa using hi)
    simp at hi
    simpa [List.getD,Array.getD,hi] using this
theorem nilck_runs {x : Operand} (ho : o.op = .nilCheck x) (okx : okOpd N x = true) : OpRuns P N o (.nilck x) :=
 .pure fun B μ f h a w hr fr v h' e => by
  have rx := opd_rel fr okx
  simp only [aop] at e
  split at e
  ·rename_i ad hx
   rw [hx] at rx
   cases e
   obtain ⟨mi,hmi,hsp,hv⟩ := rx.ptr_inv
   refine ⟨rfl,a.eval x,?_,rx⟩
   simp [execOp,ho,hv]
  ·rename_i g p q hx
   rw [hx] at rx
   cases e
   obtain ⟨x', y', hv, _, _⟩ := rx.func_inv
   refine ⟨rfl,a.eval x,?_,rx⟩
   simp [execOp,ho,hv]
  ·rename_i k g q hx
   rw [hx] at rx
   cases e
   have hv : a.eval x = .pointer (some ⟨g,q,none⟩) := by
    generalize a.eval x = X at rx
    cases rx; rfl
   refine ⟨rfl,a.eval x,?_,rx⟩
   simp [execOp,ho,hv]
  ·cases e
theorem Addr.eta {a : Addr} (h : a.spot = none) : a = ⟨a.block,a.off,none⟩ := by cases a; simp_all
theorem fAddr_runs {t : TypeId} {fs : Array Field} {fl : Field} {i s : Nat} {x : Operand} (ho : o.op = .fieldAddr t x i) (hu : P.underlying t = some (.struct fs)) (hf : fs[i]? = some fl)
  (hs : szOf P fl.type = some s) (h0 : 0 < s) (okx : okOpd N x = true) : OpRuns P N o (.fAddr fl.offset x) :=
 .pure fun B μ f h a w hr fr v h' e => by
  have rx := opd_rel fr okx
  simp only [aop] at e
  split at e
  ·rename_i ad hx
   rw [hx] at rx
   obtain ⟨mi,hmi,hsp,hv⟩ := rx.ptr_inv
   rw [if_pos hsp] at e
   cases e
   refine ⟨rfl,.pointer (some ⟨mi.cb,mi.dl + (ad.off + fl.offset),none⟩),?_,.ptr hmi⟩
   simp only [execOp,ho,Instr.fieldAt,Sem.run_bind,run_und hu,Result.andThen_ok,hf,hv,Instr.sureAddr,Sem.run_pure,fieldPlace,run_sizeOf' hs,Sem.run_ite]
   rw [if_neg (by omega)]
   simp [Addr.add_lit,Nat.add_assoc]
  ·cases e
theorem aidx_spec {v v' : Value} {n j : Nat} {μ : Mu} (h : aidx v n = some j) (r : VRel μ v v') : ∃ k i,v' = .int k i ∧ 0 ≤ i ∧ i < n ∧ i.toNat = j := by
 unfold aidx at h
 split at h
 ·rename_i k i
  split at h
  ·rename_i hc; cases h; exact ⟨k,i,r.int_inv,hc.1,hc.2,rfl⟩
  ·cases h
 ·cases h
theorem iAddrA_runs {t e : TypeId} {n s : Nat} {x i : Operand} (ho : o.op = .indexAddr t x i) (hu : P.underlying t = some (.array n e)) (hs : szOf P e = some s) (okx : okOpd N x = true) (oki : okOpd N i = true) : OpRuns P N o (.iAddrA n s x i) :=
 .pure fun B μ f h a w hr fr v h' e => by
  have rx := opd_rel fr okx
  have ri := opd_rel fr oki
  simp only [aop] at e
  split at e
  ·rename_i ad hx
   rw [hx] at rx
   obtain ⟨mi,hmi,hsp,hv⟩ := rx.ptr_inv
   split at e
   ·rename_i j hj
    obtain ⟨k,q,hq,h0,h1,rfl⟩ := aidx_spec hj ri
    rw [if_pos hsp] at e
    cases e
    refine ⟨rfl,.pointer (some ⟨mi.cb,mi.dl + (ad.off + q.toNat * s),none⟩),?_,.ptr hmi⟩
    simp only [execOp,ho,Instr.indexAt,hq,asIntOf,pure_bind,Sem.run_bind,run_und hu,Result.andThen_ok,hv,Instr.sureAddr,Sem.run_pure,Sem.run_ite,if_pos (And.intro h0 h1),run_sizeOf' hs]
    simp [Addr.add_lit,Nat.add_assoc]
   ·cases e
  ·rename_i k g q hx
   rw [hx] at rx
   have hv : a.eval x = .pointer (some ⟨g,q,none⟩) := by
    generalize a.eval x = X at rx
    cases rx; rfl
   split at e
   ·rename_i j hj
    obtain ⟨k,r,hq,h0,h1,rfl⟩ := aidx_spec hj ri
    cases e
    refine ⟨rfl,.pointer (some ⟨g,q + r.toNat * s,none⟩),?_,.glob⟩
    simp only [execOp,ho,Instr.indexAt,hq,asIntOf,pure_bind,Sem.run_bind,run_und hu,Result.andThen_ok,hv,Instr.sureAddr,Sem.run_pure,Sem.run_ite,if_pos (And.intro h0 h1),run_sizeOf' hs]
    simp [Addr.add_lit,Nat.add_assoc]
   ·cases e
  ·cases e
theorem iAddrS_runs {t e : TypeId} {s : Nat} {x i : Operand} (ho : o.op = .indexAddr t x i) (hu : P.underlying t = some (.slice e)) (hs : szOf P e = some s) (okx : okOpd N x = true) (oki : okOpd N i = true) : OpRuns P N o (.iAddrS s x i) :=
 .pure fun B μ f h a w hr fr v h' e => by
  have rx := opd_rel fr okx
  have ri := opd_rel fr oki
  simp only [aop] at e
  split at e
  ·rename_i ad len cap hx
   rw [hx] at rx
   split at e
   ·rename_i j hj
    obtain ⟨k,q,hq,h0,h1,rfl⟩ := aidx_spec hj ri
    obtain ⟨a', c', hv, ⟨mi, hmi, hsp, ha', _⟩ | ⟨hl, _⟩⟩ := rx.slice_inv
    ·subst ha'
     rw [if_pos hsp] at e
     cases e
     refine ⟨rfl,.pointer (some ⟨mi.cb,mi.dl + (ad.off + q.toNat * s),none⟩),?_,.ptr hmi⟩
     simp only [execOp,ho,Instr.indexAt,hq,asIntOf,pure_bind,Sem.run_bind,run_und hu,Result.andThen_ok,hv,Sem.run_pure,Sem.run_ite,if_pos (And.intro h0 h1),run_sizeOf' hs]
     simp [Addr.add_lit,Nat.add_assoc]
    ·subst hl; omega
   ·cases e
  ·cases e
theorem run_part' {t : TypeId} {s : Option Nat} (hs : aggOf P t = some s) {cs : Array Value} {off : Nat} {w : World} {v' : Value}
  (h : cpart cs s off v') : (part t cs off).run P w = .ok v' w := by
 obtain ⟨hag,hsz⟩ := run_isAgg' hs w
 unfold part
 simp only [Sem.run_bind,hag,Result.andThen_ok]
 unfold cpart at h
 cases s with
 | none => simp only [Option.isSome_none,Bool.false_eq_true,if_false]; dsimp only at h; rw [h]; rfl
 | some n => dsimp only at h; simp only [Option.isSome_some,if_true,Sem.run_bind,run_sizeOf' (hsz n rfl),Result.andThen_ok,Sem.run_pure]; rw [h]
theorem agg_part {μ : Mu} {cs cs' : Array Value} (hl : cs.size = cs'.size) (hr : ∀ i,i < cs.size → VRel μ (cs.getD i unk) (cs'.getD i unk)) (h1 : ∀ i,i < cs'.size → (cs'.getD i unk).oneCell' = true)
  {s : Option Nat} {off : Nat} {v : Value} (h : apart cs.toList s off = some v) : ∃ v', cpart cs' s off v' ∧ VRel μ v v' := by
 obtain ⟨v', hp, rv, _⟩ := apart_rel (μ := μ) (cc := cs') (d := 0) (by simpa using Nat.le_of_eq hl) (fun i hi => by
   have := hr i (by simpa using hi)
   simp at hi
   simpa [List.getD,Array.getD,hi] using this) (fun i hi => by rw [Nat.zero_add]; exact h1 i (by rw [← hl]; simpa using hi)) h
 rw [Nat.zero_add] at hp
 exact ⟨v', hp, rv⟩
theorem fVal_runs {t : TypeId} {fs : Array Field} {fl : Field} {i : Nat} {s : Option Nat} {x : Operand} (ho : o.op = .field t x i) (hu : P.underlying t = some (.struct fs)) (hf : fs[i]? = some fl)
  (hs : aggOf P fl.type = some s) (okx : okOpd N x = true) : OpRuns P N o (.fVal s fl.offset x) :=
 .pure fun B μ f h a w hr fr v h' e => by
  have rx := opd_rel fr okx
  simp only [aop] at e
  split at e
  ·rename_i cs hx
   rw [hx] at rx
   obtain ⟨cs', hv, hl, hr', h1⟩ := rx.agg_inv
   simp only [Option.map_eq_some_iff,Prod.mk.injEq] at e
   obtain ⟨u, hu', rfl, rfl⟩ := e
   obtain ⟨v', hp, rv⟩ := agg_part hl hr' h1 hu'
   refine ⟨rfl, v', ?_, rv⟩
   simp only [execOp,ho,Instr.field,Sem.run_bind,run_und hu,Result.andThen_ok,hf,hv,asAgg,Sem.run_pure,run_part' hs hp]
  ·cases e
theorem iValA_runs {t e : TypeId} {n k : Nat} {s : Option Nat} {x i : Operand} (ho : o.op = .index t x i) (hu : P.underlying t = some (.array n e)) (hk : szOf P e = some k) (hs : aggOf P e = some s) (okx : okOpd N x = true) (oki : okOpd N i = true) : OpRuns P N o (.iValA n k s x i) :=
 .pure fun B μ f h a w hr fr v h' e => by
  have rx := opd_rel fr okx
  have ri := opd_rel fr oki
  simp only [aop] at e
  split at e
  ·rename_i cs hx
   rw [hx] at rx
   obtain ⟨cs', hv, hl, hr', h1⟩ := rx.agg_inv
   split at e
   ·rename_i j hj
    obtain ⟨q,z,hq,h0,hlt,rfl⟩ := aidx_spec hj ri
    simp only [Option.map_eq_some_iff,Prod.mk.injEq] at e
    obtain ⟨u, hu', rfl, rfl⟩ := e
    obtain ⟨v', hp, rv⟩ := agg_part hl hr' h1 hu'
    refine ⟨rfl, v', ?_, rv⟩
    simp only [execOp,ho,Instr.index,hq,asIntOf,pure_bind,Sem.run_bind,run_und hu,Result.andThen_ok,hv,Sem.run_pure,Sem.run_ite,if_pos (And.intro h0 hlt),run_sizeOf' hk,run_part' hs hp]
   ·cases e
  ·cases e
theorem iStr_runs {t : TypeId} {x i : Operand} (ho : o.op = .index t x i) (hu : P.underlying t = some .string) (okx : okOpd N x = true) (oki : okOpd N i = true) : OpRuns P N o (.iStr x i) :=
 .pure fun B μ f h a w hr fr v h' e => by
  have rx := opd_rel fr okx
  have ri := opd_rel fr oki
  simp only [aop] at e
  split at e
  ·rename_i st hx
   rw [hx] at rx
   split at e
   ·rename_i j hj
    obtain ⟨q,z,hq,h0,hlt,rfl⟩ := aidx_spec hj ri
    simp only [Option.map_eq_some_iff,Prod.mk.injEq] at e
    obtain ⟨b,hb,rfl,rfl⟩ := e
    refine ⟨rfl,_,?_,.int⟩
    have hb' : st[z.toNat]? = some b := by
     have hlt' : z.toNat < st.size := by omega
     have hd : z.toNat < st.data.size := hlt'
     rw [show st[z.toNat]? = some st[z.toNat] from getElem?_pos st z.toNat hlt']
     simp [hd] at hb
     rw [← hb,getElem?_pos st.data _ hd]; rfl
    simp only [execOp, ho, Instr.index, hq, asIntOf, pure_bind, Sem.run_bind, run_und hu, Result.andThen_ok, rx.string_inv, if_pos h0, hb', Sem.run_pure]
   ·cases e
  ·cases e
theorem extr_runs {x : Operand} {i : Nat} (ho : o.op = .extract x i) (okx : okOpd N x = true) : OpRuns P N o (.extr x i) :=
 .pure fun B μ f h a w hr fr v h' e => by
  have rx := opd_rel fr okx
  simp only [aop] at e
  split at e
  ·rename_i cs hx
   rw [hx] at rx
   obtain ⟨cs', hv, hl, hr'⟩ := rx.tuple_inv
   simp only [Option.map_eq_some_iff,Prod.mk.injEq] at e
   obtain ⟨u,hu,rfl,rfl⟩ := e
   have hlt : i < cs.size := by
    rcases Nat.lt_or_ge i cs.size with g | g
    ·exact g
    ·rw [List.getElem?_eq_none (by simpa using g)] at hu; cases hu
   refine ⟨rfl,cs'.getD i unk,?_,?_⟩
   ·simp only [execOp,ho,hv,Instr.extract,getD_eq_of_lt (show i < cs'.size by omega) unk,Sem.run_bind,Sem.run_pure,Result.andThen_ok]
   ·have := hr' i hlt
    have e : cs.getD i unk = u := by
     simp [hlt] at hu
     simp [Array.getD,hlt,hu]
    rwa [e] at this
  ·cases e
end
end Go.Ab
