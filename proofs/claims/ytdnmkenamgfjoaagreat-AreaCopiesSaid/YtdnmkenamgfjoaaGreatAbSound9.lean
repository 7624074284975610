/-
 Ab: append,and the other makers of slices.
-/
import Derived.Test.YtdnmkenamgfjoaaGreatAbSound8
set_option linter.unusedSimpArgs false
set_option linter.unusedVariables false
namespace Go.Ab
set_option linter.unusedSectionVars false
variable [Inhabited TabBox]
open Go.RowKit
theorem CsRel.append {μ : Mu} {c d : List Value} {cc dd : Array Value} (r : CsRel μ c cc) (q : CsRel μ d dd) : CsRel μ (c ++ d) (cc ++ dd) := by
 refine ⟨by simp [r.1,q.1],fun i hi => ?_,fun i hi => ?_⟩
 ·have e1 : (cc ++ dd).getD i unk = (cc.toList ++ dd.toList ++ []).getD i unk := by rw [← toList_getD]; simp
  have e2 : (c ++ d).getD i unk = (c ++ d ++ []).getD i unk := by simp
  simp only [List.length_append] at hi
  have hlc : cc.toList.length = c.length := by simpa using r.1.symm
  have hld : dd.toList.length = d.length := by simpa using q.1.symm
  rw [e1,e2,getD_append3,getD_append3,hlc,hld]
  split
  ·rw [toList_getD cc]; exact r.2.1 i (by omega)
  ·(try rw [if_pos hi,if_pos hi]); rw [toList_getD dd]; exact q.2.1 _ (by omega)
 ·have e1 : (cc ++ dd).getD i unk = (cc.toList ++ dd.toList).getD i unk := by rw [← toList_getD]; simp
  rw [e1]
  refine one_of_mem (fun v hv => ?_) i (by simpa using hi)
  rcases List.mem_append.1 hv with hv | hv
  ·exact mem_of_one r.2.2 v hv
  ·exact mem_of_one q.2.2 v hv
theorem zeroCells_one {z : Array Value} (h : ∀ v ∈ z.toList,v.oneCell' = true) (n : Nat) : ∀ v ∈ (Builtin.zeroCells z n).toList,v.oneCell' = true := by
 intro v hv
 simp only [Builtin.zeroCells,Array.toList_map,List.mem_map] at hv
 obtain ⟨i,hi,rfl⟩ := hv
 have hi' : i < n * z.size := by simpa using hi
 have hz : 0 < z.size := Nat.pos_of_ne_zero fun h0 => by rw [h0] at hi'; omega
 have hlt : i % z.size < z.size := Nat.mod_lt _ hz
 rw [getElem!_pos z _ hlt]
 exact h _ (by simp)
theorem St.newLoose {B n0 N : Nat} {μ0 : Mu} {w0 : World} {f : AF} {h : Heap} {a : Act} {w w1 : World} {μ : Mu} (s : St B n0 N μ0 w0 f h a w μ) {c : List Value} {cc ex : Array Value} (r : CsRel μ c cc) (hex : ∀ v ∈ ex.toList,v.oneCell' = true)
  (e : TypeId) (fz : Nat × Nat) (hfz : ∀ i,i < cc.size + ex.size → ¬ (fz.1 ≤ i ∧ fz.2 ≠ fz.1)) (hw1 : w1.heap = w.heap.push (.cells (cc ++ ex) e fz)) (hs : SameBut w w1) {len cap' esz : Nat} (hl : c.length = len * esz) (hcap : len ≤ cap') (hcs : cc.size + ex.size = cap' * esz) {t' : Nat} (ht : t' = 0 ∨ e = t') :
  ∃ μ', (∀ b mi, μ b = some mi → μ' b = some mi) ∧ VRel μ' (.slice (some ⟨h.n, 0, none⟩) len len) (.slice (some ⟨w.heap.size, 0, none⟩) len cap') ∧ St B n0 N μ0 w0 f (h.push (.cells c (.loose t') esz)) a w1 μ' := by
 refine ⟨μ.ext h.n ⟨w.heap.size,0,c.length,cc.size + ex.size,esz,true⟩,s.ext_mono _,?_,?_⟩
 ·have := VRel.slice (μ := μ.ext h.n ⟨w.heap.size,0,c.length,cc.size + ex.size,esz,true⟩) (o := 0) (l := len) (c := len) (c' := cap') (Mu.ext_same μ h.n ⟨w.heap.size,0,c.length,cc.size + ex.size,esz,true⟩)
   (.inr ⟨rfl,by simp [hl],hcap,by simp [hcs]⟩)
  simpa using this
 ·refine s.push hw1 hs rfl ?_
  refine ⟨cc ++ ex,e,fz,rfl,?_⟩
  have r' := r.mono' (s.ext_mono ⟨w.heap.size,0,c.length,cc.size + ex.size,esz,true⟩)
  refine ⟨⟨by simp [r.1],fun i hi => ?_,fun i hi => ?_,rfl,by simp,fun _ => by simpa using hfz,by simp [BMode.isLoose],rfl⟩,ht⟩
  ·have e1 : (cc ++ ex).getD (0 + i) unk = cc.getD i unk := by
    have := r.1
    simp [Array.getD,show i < cc.size by omega,show i < cc.size + ex.size by omega,Array.getElem_append]
   rw [e1]; exact r'.2.1 i hi
  ·rw [Nat.zero_add]
   have e1 : (cc ++ ex).getD i unk = (cc.toList ++ ex.toList).getD i unk := by rw [← toList_getD]; simp
   rw [e1]
   refine one_of_mem (fun v hv => ?_) i (by have := r.1; simp; omega)
   rcases List.mem_append.1 hv with hv | hv
   ·exact mem_of_one r.2.2 v hv
   ·exact hex v hv
theorem acut_csrel {μ : Mu} {c : List Value} {cc : Array Value} {d o n : Nat} {l : List Value} (h : acut c o n = some l) (hs : d + c.length ≤ cc.size)
  (hr : ∀ i,i < c.length → VRel μ (c.getD i unk) (cc.getD (d + i) unk)) (h1 : ∀ i,i < c.length → (cc.getD (d + i) unk).oneCell' = true) : CsRel μ l (cc.extract (d + o) (d + o + n)) ∧ l.length = n := by
 obtain ⟨hlen,rl⟩ := acut_rel h hs hr h1
 obtain ⟨cs', hcs', g1, g2, g3⟩ := rl.agg_inv
 cases hcs'
 refine ⟨⟨by simpa using g1,fun i hi => ?_,g3⟩,hlen⟩
 have := g2 i (by simpa using hi)
 rwa [toArray_getD] at this
theorem grownCap_ge (w : World) (need old : Nat) (e : TypeId) : need ≤ grownCap w need old e := by
 show need ≤ need + _; omega
section
variable {P : Program} {N : Nat} {o : Oper}
theorem app_new {B n0 : Nat} {μ0 : Mu} {w0 : World} {f : AF} {h : Heap} {a : Act} {w : World} {μ : Mu} (s : St B n0 N μ0 w0 f h a w μ)
  {ty : Array TypeId} {t sT e : TypeId} {args : Array Value} {sLen n esz bytes : Nat} {x zv : Value} {i : TypeInfo} {z new : List Value} {nw : Array Value}
  (hty : ty[0]? = some sT) (hu : P.underlying sT = some (.slice e)) (ha1 : args[1]? = some x) (I : AppInfo P e esz bytes z i zv) (M : AppMode P ty x esz n nw w) (rn : CsRel μ new nw)
  {base' : Option Addr} {sCap' : Nat} {old : List Value} {ow : Array Value} (hb : args[0]? = some (.slice base' sLen sCap')) (hgt : sCap' < sLen + n) (hsm : (sLen + n) * (bytes + 1) ≤ 1099511627776) (hnl : new.length = n * esz)
  (ro : CsRel μ old ow) (hol : old.length = sLen * esz) (hfc : ∀ w1 : World,w1.heap = w.heap → (Builtin.firstCells esz sLen (.slice base' sLen sCap')).run P w1 = .ok ow w1) {t' : Nat} (ht : t' = 0 ∨ e = t' := by exact .inr rfl) :
   ∃ v' w' μ', (Builtin.append_ ty t args).run P w = .ok v' w' ∧ VRel μ' (.slice (some ⟨h.n, 0, none⟩) (sLen + n) (sLen + n)) v' ∧ St B n0 N μ0 w0 f (h.push (.cells (old ++ new) (.loose t') esz)) a w' μ' := by
 have hzone : ∀ v ∈ zv.cells.toList,v.oneCell' = true := by
  rw [I.cells]; intro v hv; exact flat1_one (List.all_eq_true.1 I.flat v (by simpa using hv))
 have hzsz : zv.cells.size = esz := by rw [I.cells]; simpa using I.zlen
 have hg := grownCap_ge w (sLen + n) sCap' e
 have := app_grow (t := t) hty hu hb ha1 I M hgt hsm hfc
 have hlen : (old ++ new).length = (sLen + n) * esz := by simp [hol,hnl,Nat.add_mul]
 have hcs : (ow ++ nw).size + (Builtin.zeroCells zv.cells (grownCap w (sLen + n) sCap' e - (sLen + n))).size = grownCap w (sLen + n) sCap' e * esz := by
  rw [← (ro.append rn).1,hlen,size_zeroCells,hzsz,← Nat.add_mul]
  congr 1; omega
 obtain ⟨μ', g1, g2, g3⟩ := s.newLoose (w1 := w.drew.alloc (.cells (ow ++ nw ++ Builtin.zeroCells zv.cells (grownCap w (sLen + n) sCap' e - (sLen + n))) e)) (ro.append rn) (zeroCells_one hzone _) e (0, 0) (fun i _ => by omega) rfl ⟨rfl, rfl, rfl⟩ hlen hg hcs ht
 exact ⟨_, _, μ', this, g2, g3⟩
theorem app_in {B n0 : Nat} {μ0 : Mu} {w0 : World} {f : AF} {h : Heap} {a : Act} {w : World} {μ : Mu} (s : St B n0 N μ0 w0 f h a w μ)
  {ty : Array TypeId} {t sT e : TypeId} {args : Array Value} {sLen sCap n esz bytes : Nat} {x zv sv : Value} {i : TypeInfo} {z new : List Value} {nw : Array Value} {ad : Addr} {c : List Value} {m : BMode} {es : Nat}
  (hty : ty[0]? = some sT) (hu : P.underlying sT = some (.slice e)) (ha0 : args[0]? = some sv) (ha1 : args[1]? = some x) (I : AppInfo P e esz bytes z i zv) (M : AppMode P ty x esz n nw w) (rn : CsRel μ new nw)
  (rs : VRel μ (.slice (some ad) sLen sCap) sv) (hc : h.cellsOf ad.block = some (c,m,es)) (hle : sLen + n ≤ sCap) (hro : m ≠ .ro) (hnl : new.length = n * esz) (hl : ad.off + (sLen + n) * esz ≤ c.length) :
  ∃ v' w' μ', (Builtin.append_ ty t args).run P w = .ok v' w' ∧ VRel μ' (.slice (some ad) (sLen + n) sCap) v' ∧ St B n0 N μ0 w0 f (h.set ad.block (.cells (aput c (ad.off + sLen * esz) new) m es)) a w' μ' := by
 obtain ⟨a', c', hv, hcase⟩ := rs.slice_inv
 have hb0 : args[0]? = some (.slice (some a') sLen c') := by rw [ha0,hv]
 rcases hcase with ⟨mi,hmi,hsp,rfl,hex⟩ | ⟨rfl,rfl,rfl,mi,hmi⟩
 ·have hcc : sCap ≤ c' := by rcases hex with h | h <;> omega
  obtain ⟨w', hw', s'⟩ := s.write (P := P) hc hmi hro rn (o := ad.off + sLen * esz) (by rw [hnl, Nat.add_assoc, ← Nat.add_mul]; exact hl)
  refine ⟨_, w', μ, app_inplace (w' := w') hty hu hb0 ha1 I M (by omega) ?_, ?_, s'⟩
  ·show (storeCells ((⟨mi.cb,mi.dl + ad.off,none⟩ : Addr).add (sLen * esz)) nw.toList).run P w = _
   rw [Addr.add_lit,Nat.add_assoc]; exact hw'
  ·have := VRel.slice (o := ad.off) (l := sLen + n) (c := sCap) hmi hex
   rwa [← Addr.eta hsp] at this
 ·have hn0 : n = 0 := by omega
  subst hn0
  have hnew : new = [] := by
   have : new.length = 0 := by simpa using hnl
   exact List.eq_nil_of_length_eq_zero this
  subst hnew
  have hnw : nw.toList = [] := by
   have := rn.1
   simpa using this.symm
  refine ⟨_,w,μ,app_inplace (w' := w) hty hu hb0 ha1 I M (by omega) ?_,.sempty hmi,?_⟩
  ·show (storeCells _ nw.toList).run P w = _
   rw [hnw]; rfl
  ·have heq : h.set ad.block (.cells (aput c (ad.off + 0 * esz) []) m es) = h := by
    obtain ⟨mi2,cc,t,fz,hm2,hb2,_,_⟩ := s.rel.cells hc
    unfold Heap.set
    have : (fun b' => if b' = ad.block then some (AObj.cells (aput c (ad.off + 0 * esz) []) m es) else h.m b') = h.m := by
     funext b'
     split
     ·rename_i hb; subst hb; rw [hb2]; simp [aput]
     ·rfl
    rw [this]
   rw [heq]; exact s
theorem app_move {B n0 : Nat} {μ0 : Mu} {w0 : World} {f : AF} {h : Heap} {a : Act} {w : World} {μ : Mu} (s : St B n0 N μ0 w0 f h a w μ)
  {ty : Array TypeId} {t sT e : TypeId} {args : Array Value} {sLen sCap n esz bytes c' : Nat} {x zv : Value} {i : TypeInfo} {z new old : List Value} {nw : Array Value} {b off : Nat} {c : List Value} {mi : MI} {m : BMode}
  (hty : ty[0]? = some sT) (hu : P.underlying sT = some (.slice e)) (ha0 : args[0]? = some (.slice (some ⟨mi.cb,mi.dl + off,none⟩) sLen c')) (ha1 : args[1]? = some x) (I : AppInfo P e esz bytes z i zv) (M : AppMode P ty x esz n nw w) (rn : CsRel μ new nw)
  (hmi : μ b = some mi) (hc : h.cellsOf b = some (c,m,esz)) (hm : m.isLoose = true) (hold : acut c off (sLen * esz) = some old) (hle : sLen + n ≤ c') (hnl : new.length = n * esz) (hroom : mi.dl + off + c' * esz ≤ mi.csz) :
  ∃ v' w' μ', (Builtin.append_ ty t args).run P w = .ok v' w' ∧ VRel μ' (.slice (some ⟨h.n, 0, none⟩) (sLen + n) (sLen + n)) v' ∧ St B n0 N μ0 w0 f ((h.kill b).push (.cells (old ++ new) (m.grown e) esz)) a w' μ' := by
 obtain ⟨mi2,cc,ct,fz,hmi2,hb,hw,cr,htt⟩ := s.rel.cellsT hc
 rw [hmi] at hmi2; cases hmi2
 have hmro : m ≠ .ro := by rintro rfl; cases hm
 have hgl : (m.grown e).isLoose = true := by unfold BMode.grown; split <;> (try split) <;> rfl
 have hty' : ∀ mi' : MI,TyOk mi' (m.grown e) ct := fun mi' => by
  cases m with
  | loose t' =>
    show TyOk mi' (if t' = e then .loose e else .loose 0) ct
    by_cases q : t' = e
    ·rw [if_pos q]; rcases htt with h0 | h0
     ·exact .inl (q ▸ h0)
     ·exact .inr (h0.trans q)
    ·rw [if_neg q]; exact .inl rfl
  | _ => cases hm
 obtain ⟨r1,r2,r3,r4,r5,r6,r7,r8⟩ := cr
 obtain ⟨⟨ro1,ro2,ro3⟩,holl⟩ := acut_csrel hold r1 r2 r3
 have hvl : nw.toList.length = new.length := by simpa using rn.1.symm
 have hmul : (sLen + n) * esz ≤ c' * esz := Nat.mul_le_mul_right _ hle
 have hadd : (sLen + n) * esz = sLen * esz + n * esz := Nat.add_mul _ _ _
 have hwle : mi.dl + off + sLen * esz + nw.toList.length ≤ cc.size := by rw [hvl,hnl]; omega
 obtain ⟨cc', h1, h2, h3⟩ := setCells_heap mi.cb nw.toList (mi.dl + off + sLen * esz) w cc ct fz hw hwle
 have hrun := write_world (P := P) hw (r6 hmro) hwle (mem_of_one rn.2.2)
 let mi' : MI := ⟨mi.cb,mi.dl + off,(old ++ new).length,mi.csz,esz,true⟩
 have hext := s.ext_mono mi'
 have hlen : (old ++ new).length = (sLen + n) * esz := by simp [holl,hnl,hadd]
 refine ⟨.slice (some ⟨mi.cb, mi.dl + off, none⟩) (sLen + n) c', w.setCells mi.cb (mi.dl + off + sLen * esz) nw.toList, μ.ext h.n mi', app_inplace (w' := w.setCells mi.cb (mi.dl + off + sLen * esz) nw.toList) hty hu ha0 ha1 I M hle ?_, ?_, ?_⟩
 ·show (storeCells ((⟨mi.cb,mi.dl + off,none⟩ : Addr).add (sLen * esz)) nw.toList).run P w = _
  rw [Addr.add_lit]; exact hrun
 ·have := VRel.slice (μ := μ.ext h.n mi') (o := 0) (l := sLen + n) (c := sLen + n) (c' := c') (Mu.ext_same μ h.n mi') (.inr ⟨rfl,by rw [Nat.zero_add]; exact hlen.symm,hle,by simpa [mi'] using hroom⟩)
  simpa [mi'] using this
 ·refine s.move hb hmi (by show (m != .ro) = true; simpa using hmro) h1 (setCells_size _ _ _ _) (setCells_same _ _ _ _) rfl ?_
  refine ⟨cc', ct, fz, rfl, ?_⟩
  refine ⟨⟨?_, fun j hj => ?_, fun j hj => ?_, rfl, by rw [h2]; exact r5, by rw [h2]; exact fun _ => r6 hmro, by simp [mi', hgl], rfl⟩, hty' _⟩
  ·rw [h2,hlen]; show mi.dl + off + _ ≤ _; omega
  ·show VRel _ _ (cc'.getD (mi.dl + off + j) unk)
   rw [h3]
   have e2 : (old ++ new).getD j unk = (old ++ new ++ []).getD j unk := by simp
   rw [hlen] at hj
   rw [e2,getD_append3,holl,hnl]
   by_cases hj1 : j < sLen * esz
   ·rw [if_pos hj1,if_neg (by omega)]
    have := ro2 j (by omega)
    have e3 : (cc.extract (mi.dl + off) (mi.dl + off + sLen * esz)).getD j unk = cc.getD (mi.dl + off + j) unk := by
     simp [Array.getD,show mi.dl + off + j < cc.size by omega,show j < min (mi.dl + off + sLen * esz) cc.size - (mi.dl + off) by omega]
    rw [e3] at this
    exact this.mono' hext
   ·rw [if_neg hj1,if_pos (by omega),if_pos (by omega),show mi.dl + off + j - (mi.dl + off + sLen * esz) = j - sLen * esz by omega,toList_getD nw]
    exact (rn.2.1 _ (by omega)).mono' hext
  ·show ((cc'.getD (mi.dl + off + j) unk).oneCell') = true
   rw [hlen] at hj
   have h9 : nw.toList.length = nw.size := by simp
   have h10 := rn.1
   rw [h3]
   by_cases hj1 : j < sLen * esz
   ·rw [if_neg (by omega)]
    have := ro3 j (by omega)
    have e3 : (cc.extract (mi.dl + off) (mi.dl + off + sLen * esz)).getD j unk = cc.getD (mi.dl + off + j) unk := by
     simp [Array.getD,show mi.dl + off + j < cc.size by omega,show j < min (mi.dl + off + sLen * esz) cc.size - (mi.dl + off) by omega]
    rwa [e3] at this
   ·rw [if_pos (by omega),toList_getD nw]; exact rn.2.2 _ (by omega)
theorem aapp_ok {B n0 : Nat} {μ0 : Mu} {w0 : World} {f : AF} {h : Heap} {a : Act} {w : World} {μ : Mu} (s : St B n0 N μ0 w0 f h a w μ)
  {ty : Array TypeId} {t sT e : TypeId} {args : Array Value} {base : Option Addr} {sLen sCap n esz bytes : Nat} {x zv sv : Value} {i : TypeInfo} {z new : List Value} {nw : Array Value} {v : Value} {h' : Heap}
  (hty : ty[0]? = some sT) (hu : P.underlying sT = some (.slice e)) (ha0 : args[0]? = some sv) (ha1 : args[1]? = some x) (I : AppInfo P e esz bytes z i zv) (M : AppMode P ty x esz n nw w)
  (rs : VRel μ (.slice base sLen sCap) sv) (rn : CsRel μ new nw) (hap : aapp h e esz bytes base sLen sCap new n = some (v,h')) :
  ∃ v' w' μ', (Builtin.append_ ty t args).run P w = .ok v' w' ∧ VRel μ' v v' ∧ St B n0 N μ0 w0 f h' a w' μ' := by
 unfold aapp at hap
 dsimp only at hap
 split at hap
 case isFalse => cases hap
 rename_i hsm
 obtain ⟨hsm,hnl⟩ := hsm
 split at hap
 ·
  have hsv := rs.snil_inv
  subst hsv
  split at hap
  case isFalse => cases hap
  rename_i hc0
  obtain ⟨rfl,rfl⟩ := hc0
  split at hap
  ·rename_i hn0
   subst hn0
   cases hap
   exact ⟨_,w,μ,app_inplace (w' := w) hty hu ha0 ha1 I M (by omega) rfl,.snil,s⟩
  ·rename_i hn0
   cases hap
   obtain ⟨v', w', μ', g1, g2, g3⟩ := app_new (t := t) (old := []) (ow := #[]) s hty hu ha1 I M rn ha0 (by omega) hsm hnl ⟨rfl, fun i hi => absurd hi (by simp), fun i hi => absurd hi (by simp)⟩ (by simp) (fun w1 _ => by simp [Builtin.firstCells])
   exact ⟨v', w', μ', g1, g2, by simpa using g3⟩
 ·rename_i ad
  split at hap
  ·cases hap
  rename_i c m es hc
  split at hap
  case isFalse => cases hap
  rename_i hsp
  split at hap
  ·cases hap
  rename_i old hold
  obtain ⟨ow,hof,hro⟩ := first_rel (P := P) s.rel (sz := esz) (n := sLen) (m := sLen) (v := .slice (some ad) sLen sCap) (l := old) (by simp only [afirst,hc,if_pos hsp]; exact hold) rfl (Nat.le_refl _) rs
  have hol : old.length = sLen * esz := by
   unfold acut at hold
   split at hold
   ·cases hold; simp; omega
   ·cases hold
  obtain ⟨a', c', hv, hcase⟩ := rs.slice_inv
  have hb0 : args[0]? = some (.slice (some a') sLen c') := by rw [ha0,hv]
  rw [hv] at hof
  split at hap
  ·rename_i hm
   split at hap
   case isFalse => cases hap
   rename_i hes
   subst hes
   split at hap
   ·rename_i hle
    split at hap
    ·rename_i hg
     cases hap
     exact app_in s hty hu ha0 ha1 I M rn rs hc hle hg.1 hnl hg.2
    ·cases hap
   ·rename_i hgt
    split at hap
    ·rename_i hend
     cases hap
     by_cases hroom : sLen + n ≤ c'
     ·rcases hcase with ⟨mi,hmi,_,rfl,hex⟩ | ⟨rfl,rfl,rfl,_⟩
      ·rcases hex with rfl | ⟨g1,g2,g3,g4⟩
       ·omega
       ·obtain ⟨mi2,cc,ct,fz,hmi2,hb,hw,cr⟩ := s.rel.cells hc
        rw [hmi] at hmi2; cases hmi2
        have hesz := cr.2.2.2.2.2.2.2
        rw [hesz] at g4
        exact app_move (sCap := 0) s hty hu hb0 ha1 I M rn hmi hc hm hold hroom hnl g4
      ·omega
     ·obtain ⟨t', ht', hgr⟩ : ∃ t', (t' = 0 ∨ e = t') ∧ m.grown e = .loose t' := by
       cases m with
       | loose t' =>
         by_cases q : t' = e
         ·exact ⟨e,.inr rfl,if_pos q⟩
         ·exact ⟨0,.inl rfl,if_neg q⟩
       | _ => cases hm
      rw [hgr]
      exact app_new (s.kill ad.block) hty hu ha1 I M rn hb0 (by omega) hsm hnl hro hol hof ht'
    ·rename_i hend
     cases hap
     have hc' : c' = sCap := by
      rcases hcase with ⟨mi,hmi,_,rfl,hex⟩ | ⟨_,rfl,rfl,_⟩
      ·rcases hex with h | ⟨g1,g2,g3,g4⟩
       ·exact h
       ·obtain ⟨mi2,cc,ct,fz,hmi2,hb,hw,cr⟩ := s.rel.cells hc
        rw [hmi] at hmi2; cases hmi2
        have hesz := cr.2.2.2.2.2.2.2
        have hasz := cr.2.2.2.1
        rw [hesz,hasz] at g2
        exact absurd g2 hend
      ·rfl
     exact app_new s hty hu ha1 I M rn hb0 (by omega) hsm hnl hro hol hof
  ·rename_i hm
   have hc' : c' = sCap := by
    rcases hcase with ⟨mi,hmi,_,rfl,hex⟩ | ⟨_,rfl,rfl,_⟩
    ·rcases hex with h | ⟨g1,g2,g3,g4⟩
     ·exact h
     ·obtain ⟨mi2,cc,ct,fz,hmi2,hb,hw,cr⟩ := s.rel.cells hc
      rw [hmi] at hmi2; cases hmi2
      exact absurd (cr.2.2.2.2.2.2.1.1 g1) hm
    ·rfl
   split at hap
   ·rename_i hle
    split at hap
    ·rename_i hg
     cases hap
     exact app_in s hty hu ha0 ha1 I M rn rs hc hle hg.1 hnl hg.2
    ·cases hap
   ·rename_i hgt
    cases hap
    exact app_new s hty hu ha1 I M rn hb0 (by omega) hsm hnl hro hol hof
end
end Go.Ab
