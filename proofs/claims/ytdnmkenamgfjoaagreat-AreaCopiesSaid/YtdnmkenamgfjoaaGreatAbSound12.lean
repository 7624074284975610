/-
 Ab: what an operation is turned to says what it does; code; functions.
-/
import Derived.Test.YtdnmkenamgfjoaaGreatAbSoundT
set_option linter.unusedSimpArgs false
set_option linter.unusedVariables false
namespace Go.Ab
set_option linter.unusedSectionVars false
variable [Inhabited TabBox]
open Go.RowKit
section
variable {P : Program} {N : Nat} {o : Oper}
theorem isCall_runs {k : AK} (h : match k with | .call _ _ | .callv _ _ | .nextM _ => False | _ => True) (r : OpRuns P N o k) : OpOk P N o k := by
 refine .ofRuns (fun f hp K hK => ?_) r
 cases k <;> first
  | exact h.elim
  | (simp only [aopK] at hK
     split at hK
     ·rename_i v h' e; exact ⟨v, h', e, hK⟩
     ·exact hK.elim)
theorem clr_runs {c : Call} {dT e : TypeId} {z : List Value} {x : Operand} (ho : o.op = .call c) (hcal : c.callee = .builtin .clear) (hargs : c.args = #[x]) (hty : c.argTypes.toList = [dT])
  (hu : P.underlying dT = some (.slice e)) (hz : zOf P e = some z) (okx : okOpd N x = true) : OpRuns P N o (.clr z x) := by
 intro n0 B μ0 w0 f h a w μ s v h' ev
 have rx := opd_rel s.fr okx
 have hty0 : c.argTypes[0]? = some dT := by
  have : c.argTypes.toList[0]? = some dT := by rw [hty]; rfl
  simpa using this
 have ha0 : (c.args.map a.eval)[0]? = some (a.eval x) := by simp [hargs]
 have hn : ∀ {w : World},(Builtin.clear_ c.argTypes o.type (c.args.map a.eval)).run P w = (Builtin.clear_ c.argTypes o.type (c.args.map a.eval)).run P w := rfl
 simp only [aop] at ev
 split at ev
 ·rename_i ad n cap hx
  rw [hx] at rx
  split at ev
  ·rename_i c0 m es hc
   split at ev
   ·rename_i hcond
    cases ev
    obtain ⟨i,zv,hi,hzv,hcz,hall,hsz⟩ := zOf_spec hz
    have hzero : (zeroValue e).run P w = .ok zv w := by simp [zeroValue,typeInfo,hi,hzv]
    obtain ⟨a', c', hv, hcase⟩ := rx.slice_inv
    rcases hcase with ⟨mi,hmi,_,rfl,_⟩ | ⟨h0,_⟩
    ·have r : CsRel μ (List.replicate (n + 1) z).flatten (Builtin.zeroCells zv.cells (n + 1)) := by
      have := csrel_flat (μ := μ) (rep_flat hall (n + 1))
      by_cases hz0 : z.length = 0
      ·have hz1 : z = [] := List.eq_nil_of_length_eq_zero hz0
       subst hz1
       have e1 : Builtin.zeroCells zv.cells (n + 1) = (List.replicate (n + 1) ([] : List Value)).flatten.toArray := by
        have he : (List.replicate (n + 1) ([] : List Value)).flatten = [] := by simp
        rw [hcz,he]; simp [Builtin.zeroCells]
       rw [e1]; exact this
      ·have e1 : Builtin.zeroCells zv.cells (n + 1) = (List.replicate (n + 1) z).flatten.toArray := by
        rw [hcz,← zeroCells_eq z (n + 1) (by omega)]; simp [Builtin.zeroCells]
       rw [e1]; exact this
     obtain ⟨w', hw', s'⟩ := s.write (P := P) hc hmi hcond.2.1 r hcond.2.2
     refine ⟨.tuple #[], w', μ, .inl ?_, .any, s'⟩
     refine builtin_run ho hcal fun cs' => ?_
     simp only [builtin, Builtin.clear_, ha0, hty0, hv, Sem.run_bind, run_und hu, Result.andThen_ok, hzero, hw', Sem.run_pure]
    ·omega
   ·cases ev
  ·cases ev
 ·rename_i a1 cap hx
  rw [hx] at rx
  cases ev
  have hv : ∃ q c', a.eval x = .slice q 0 c' := by
   cases a1 with
   | none => exact ⟨_,_,rx.snil_inv⟩
   | some ad => obtain ⟨a', c', hv, _⟩ := rx.slice_inv; exact ⟨_, _, hv⟩
  obtain ⟨q, c', hv⟩ := hv
  refine ⟨.tuple #[],w,μ,.inl ?_,.any,s⟩
  refine builtin_run ho hcal fun cs' => ?_
  cases q <;> simp only [builtin,Builtin.clear_,ha0,hty0,hv,Sem.run_bind,run_und hu,Result.andThen_ok,Sem.run_pure]
 ·rename_i n cap hne hx
  rw [hx] at rx
  cases ev
  refine ⟨.tuple #[],w,μ,.inl ?_,.any,s⟩
  refine builtin_run ho hcal fun cs' => ?_
  simp only [builtin,Builtin.clear_,ha0,hty0,rx.snil_inv,Sem.run_bind,run_und hu,Result.andThen_ok,Sem.run_pure]
 ·cases ev
theorem isInt_spec {t : TypeId} (h : isInt P t = true) : ∃ k,P.underlying t = some (.int k) := by
 unfold isInt at h; split at h
 ·exact ⟨_,by assumption⟩
 ·cases h
theorem isStr_spec {t : TypeId} (h : isStr P t = true) : P.underlying t = some .string := by
 unfold isStr at h; split at h
 ·assumption
 ·cases h
theorem isSl_spec {t : TypeId} (h : isSl P t = true) : ∃ e,P.underlying t = some (.slice e) := by
 unfold isSl at h; split at h
 ·exact ⟨_,by assumption⟩
 ·cases h
theorem all2 {x y : Operand} (h : [x,y].all (okOpd N) = true) : okOpd N x = true ∧ okOpd N y = true := by simpa using h
theorem all1 {x : Operand} (h : [x].all (okOpd N) = true) : okOpd N x = true := by simpa using h
theorem all3 {x y z : Operand} (h : [x,y,z].all (okOpd N) = true) : okOpd N x = true ∧ okOpd N y = true ∧ okOpd N z = true := by simpa using h
theorem optOk_of {x : Option Operand} (h : x.toList.all (okOpd N) = true) : optOk N x = true := by cases x <;> simp_all [optOk]
theorem compBuiltin_ok {c : Call} {b : Builtin} {k : AK} (ho : o.op = .call c) (hcal : c.callee = .builtin b) (h : compBuiltin P b c.argTypes c.args.toList = some k) (ok : k.opds.all (okOpd N) = true) : OpOk P N o k := by
 have args1 : ∀ {x},c.args.toList = [x] → c.args = #[x] := by intro x h; apply Array.ext'; simpa using h
 have args2 : ∀ {x y},c.args.toList = [x,y] → c.args = #[x,y] := by intro x y h; apply Array.ext'; simpa using h
 unfold compBuiltin at h
 split at h
 ·
  rename_i t x hty hargs
  split at h
  ·rename_i hu; cases h
   exact isCall_runs trivial (lenS_runs (str := true) ho hcal (args1 hargs) hty (by simpa using hu) (all1 ok))
  ·rename_i e hu; cases h
   exact isCall_runs trivial (lenS_runs (str := false) ho hcal (args1 hargs) hty (by simp only [Bool.false_eq_true,if_false]; exact ⟨_,hu⟩) (all1 ok))
  ·rename_i n e hu; cases h
   exact isCall_runs trivial (lenN_runs ho hcal (args1 hargs) hty (.inl ⟨_,hu⟩))
  ·rename_i hu; cases h
   exact isCall_runs trivial (lenM_runs ho hcal (args1 hargs) hty hu (all1 ok))
  ·rename_i a hu
   split at h
   ·rename_i n e hp; cases h
    exact isCall_runs trivial (lenN_runs ho hcal (args1 hargs) hty (.inr ⟨_,_,hu,hp⟩))
   ·cases h
  ·cases h
 ·
  rename_i t x hty hargs
  split at h
  ·rename_i e hu; cases h
   exact isCall_runs trivial (capS_runs ho hcal (args1 hargs) hty hu (all1 ok))
  ·cases h
 ·
  rename_i sT xT x y hty hargs
  split at h
  ·rename_i e hu
   split at h
   ·rename_i z by_ zs hs hb hz
    split at h
    ·rename_i hii
     cases h
     obtain ⟨okx,oky⟩ := all2 ok
     obtain ⟨kk,hkk⟩ := isInt_spec hii
     exact isCall_runs trivial (appMk_runs ho hcal (args2 hargs) hty hu hz hs hb hkk okx oky)
    ·rename_i hni
     split at h
     ·rename_i hk
      cases h
      obtain ⟨okx,oky⟩ := all2 ok
      obtain ⟨d,hd⟩ : ∃ d,P.underlying xT = some d := by
       rw [Bool.or_eq_true] at hk
       rcases hk with hk | hk
       ·exact ⟨_,isStr_spec hk⟩
       ·obtain ⟨e,he⟩ := isSl_spec hk; exact ⟨_,he⟩
      refine isCall_runs trivial (app_runs ho hcal (args2 hargs) hty hu hz hs hb hd (fun k hk => ?_) okx oky)
      subst hk
      simp [isInt,hd] at hni
     ·cases h
   ·cases h
  ·cases h
 ·
  rename_i dT rest x y hty hargs
  split at h
  ·rename_i e hu
   obtain ⟨sz,hs,rfl⟩ := Option.map_eq_some_iff.1 h
   obtain ⟨okx,oky⟩ := all2 ok
   exact isCall_runs trivial (copy_runs ho hcal (args2 hargs) hty hu hs okx oky)
  ·cases h
 ·
  rename_i dT x hty hargs
  split at h
  ·rename_i e hu
   obtain ⟨z,hz,rfl⟩ := Option.map_eq_some_iff.1 h
   exact isCall_runs trivial (clr_runs ho hcal (args1 hargs) hty hu hz (all1 ok))
  ·cases h
 ·
  rename_i ty x hargs
  cases h
  exact isCall_runs trivial (sdata_runs ho hcal (args1 hargs) (all1 ok))
 ·
  rename_i t it p n hty hargs
  split at h
  ·rename_i u hu
   split at h
   ·rename_i hc
    cases h
    obtain ⟨okp,okn⟩ := all2 ok
    exact isCall_runs trivial (ustr_runs ho hcal (args2 hargs) hty hu hc okp okn)
   ·cases h
  ·cases h
 ·cases h; exact isCall_runs trivial (mx_runs ho hcal ok)
 ·cases h; exact isCall_runs trivial (mn_runs ho hcal ok)
 ·cases h
theorem strId_runs {s d : TypeId} {x : Operand} (ho : o.op = .convert s d x) (hs : P.underlying s = some .string) (hd : P.underlying d = some .string) (okx : okOpd N x = true) : OpRuns P N o (.strId x) :=
 .pure fun B μ f h a w hr fr v h' e => by
  have rx := opd_rel fr okx
  simp only [aop] at e
  split at e
  ·rename_i st hx
   rw [hx] at rx
   cases e
   refine ⟨rfl,_,?_,.string⟩
   simp [execOp,ho,rx.string_inv,convert,run_und hs,run_und hd]
  ·cases e
theorem map_all {ps : List (Nat × Nat × Operand)} (h : (ps.map (·.2.2)).all (okOpd N) = true) : ∀ x ∈ ps,okOpd N x.2.2 = true := fun x hx => List.all_eq_true.1 h _ (List.mem_map.2 ⟨x,hx,rfl⟩)
theorem compExt_ok {c : Call} {g : FuncId} {k : AK} (ho : o.op = .call c) (hcal : c.callee = .value (.func g)) (h : compExt P g c.args.toList = some k) (ok : k.opds.all (okOpd N) = true) : OpOk P N o k := by
 have args1 : ∀ {x},c.args.toList = [x] → c.args = #[x] := by intro x h; apply Array.ext'; simpa using h
 have args2 : ∀ {x y},c.args.toList = [x,y] → c.args = #[x,y] := by intro x y h; apply Array.ext'; simpa using h
 unfold compExt at h
 split at h
 ·rename_i fn hf
  split at h
  ·rename_i hc
   rw [Bool.and_eq_true] at hc
   obtain ⟨hb,hn⟩ := hc
   have hn' : Extern.findNext fn = none := by simpa using hn
   split at h
   ·rename_i hnm
    split at h
    ·rename_i x hargs; cases h; exact isCall_runs trivial (noesc_runs ho hcal (args1 hargs) hf hb hn' hnm (all1 ok))
    ·cases h
   ·split at h
    ·rename_i hnm
     split at h
     ·rename_i x hargs; cases h; exact isCall_runs trivial (mclone_runs ho hcal (args1 hargs) hf hb hn' hnm (all1 ok))
     ·cases h
    ·split at h
     ·rename_i hnm
      split at h
      ·rename_i x y hargs; cases h; obtain ⟨h1,h2⟩ := all2 ok; exact isCall_runs trivial (idxB_runs ho hcal (args2 hargs) hf hb hn' hnm h1 h2)
      ·cases h
     ·split at h
      ·rename_i hnm
       split at h
       ·rename_i x y hargs; cases h; obtain ⟨h1,h2⟩ := all2 ok; exact isCall_runs trivial (cntB_runs ho hcal (args2 hargs) hf hb hn' hnm h1 h2)
       ·cases h
      ·split at h
       ·rename_i hnm
        split at h
        ·rename_i t x hrt hargs
         split at h
         ·rename_i e hu; cases h; exact isCall_runs trivial (mkNZ_runs ho hcal (args1 hargs) hf hb hn' hnm hrt hu (all1 ok))
         ·cases h
        ·cases h
       ·cases h
  ·cases h
 ·cases h
theorem compOp_ok {k : AK} (h : compOp P o = some k) (ok : k.opds.all (okOpd N) = true) : OpOk P N o k := by
 unfold compOp at h
 split at h
 case h_1 x ho => cases h; exact isCall_runs trivial (mv_runs (.inl ho) (all1 ok))
 case h_2 x ho => cases h; exact isCall_runs trivial (mv_runs (.inr ho) (all1 ok))
 case h_3 c a b ho => cases h; obtain ⟨h1,h2,h3⟩ := all3 ok; exact isCall_runs trivial (pick_runs ho h1 h2 h3)
 case h_4 e ho =>
  split at h
  ·obtain ⟨z,hz,rfl⟩ := Option.map_eq_some_iff.1 h; exact isCall_runs trivial (allocT_runs ho hz)
  ·obtain ⟨z,hz,rfl⟩ := Option.map_eq_some_iff.1 h; exact isCall_runs trivial (alloc_runs ho hz)
 case h_5 e x ho => cases h; exact isCall_runs trivial (box_runs ho (all1 ok))
 case h_6 t ps ho =>
  split at h
  ·rename_i z fs hz hu
   split at h
   ·cases h
   ·rename_i hall
    obtain ⟨l,hl,rfl⟩ := Option.map_eq_some_iff.1 h
    refine isCall_runs trivial (build_runs ho hz (.inl ⟨fs,hu,fun fl hfl => ?_,hl⟩) (map_all ok))
    have : (fs.toList.all fun fl => (szOf P fl.type).isSome) = true := by simpa only [Bool.not_eq_false] using hall
    exact List.all_eq_true.1 this fl hfl
  ·rename_i z n e hz hu
   split at h
   ·rename_i s hs
    obtain ⟨l,hl,rfl⟩ := Option.map_eq_some_iff.1 h
    exact isCall_runs trivial (build_runs ho hz (.inr ⟨n,e,s,hu,hs,hl⟩) (map_all ok))
   ·cases h
  ·cases h
 case h_7 t len ps ho =>
  split at h
  ·rename_i e hu
   split at h
   ·rename_i s z hs hz
    split at h
    ·rename_i hc
     obtain ⟨l,hl,rfl⟩ := Option.map_eq_some_iff.1 h
     exact isCall_runs trivial (buildS_runs ho hu hs hz hc.1 hc.2 hl (map_all ok))
    ·cases h
   ·cases h
  ·cases h
 case h_8 t x ho => obtain ⟨s,hs,rfl⟩ := Option.map_eq_some_iff.1 h; exact isCall_runs trivial (load_runs ho hs (all1 ok))
 case h_9 t a x ho => obtain ⟨s,hs,rfl⟩ := Option.map_eq_some_iff.1 h; obtain ⟨h1,h2⟩ := all2 ok; exact isCall_runs trivial (store_runs ho hs h1 h2)
 case h_10 x ho => cases h; exact isCall_runs trivial (nilck_runs ho (all1 ok))
 case h_11 op t x y t' ho =>
  split at h
  ·cases h; obtain ⟨h1,h2⟩ := all2 ok; exact isCall_runs trivial (bin_runs ho h1 h2)
  ·split at h
   ·rename_i d hd
    split at h
    ·cases h; obtain ⟨h1,h2⟩ := all2 ok; exact isCall_runs trivial (eqv_runs (neg := false) (by simpa using ho) hd h1 h2)
    ·cases h; obtain ⟨h1,h2⟩ := all2 ok; exact isCall_runs trivial (eqv_runs (neg := true) (by simpa using ho) hd h1 h2)
    ·cases h
   ·split at h
    ·rename_i ks hks
     split at h
     ·cases h; obtain ⟨h1,h2⟩ := all2 ok; exact isCall_runs trivial (eqa_runs (neg := false) (by simpa using ho) hks h1 h2)
     ·cases h; obtain ⟨h1,h2⟩ := all2 ok; exact isCall_runs trivial (eqa_runs (neg := true) (by simpa using ho) hks h1 h2)
     ·cases h
    ·split at h
     ·rename_i hifc
      split at h
      ·cases h; obtain ⟨h1,h2⟩ := all2 ok; exact isCall_runs trivial (eqi_runs (neg := false) (by simpa using ho) hifc h1 h2)
      ·cases h; obtain ⟨h1,h2⟩ := all2 ok; exact isCall_runs trivial (eqi_runs (neg := true) (by simpa using ho) hifc h1 h2)
      ·cases h
     ·cases h
 case h_12 op t x ho => cases h; exact isCall_runs trivial (un_runs ho (all1 ok))
 case h_13 s d x ho =>
  split at h
  ·rename_i k1 k2 hs hd; cases h; exact isCall_runs trivial (toInt_runs ho hs hd (all1 ok))
  ·rename_i hs hd; cases h; exact isCall_runs trivial (strId_runs ho hs hd (all1 ok))
  ·rename_i t hs hd
   split at h
   ·rename_i n hz; cases h; exact isCall_runs trivial (uptr_runs ho hs hd hz (all1 ok))
   ·cases h
  ·rename_i u hs hd
   split at h
   ·rename_i n hz
    split at h
    ·rename_i hc; cases h; exact isCall_runs trivial (ptru_runs ho hs hd hz hc (all1 ok))
    ·cases h
   ·cases h
  ·rename_i e0 e hs hd
   split at h
   ·rename_i hsd
    split at h
    ·rename_i he; cases h; exact isCall_runs trivial (slId_runs ho hsd hs hd he (all1 ok))
    ·cases h
   ·cases h
  ·rename_i e hs hd
   split at h
   ·rename_i he; cases h; exact isCall_runs trivial (toStr_runs ho hs hd he (all1 ok))
   ·cases h
  ·rename_i e hs hd
   split at h
   ·rename_i he
    split at h
    ·cases h; exact isCall_runs trivial (toBytes_runs ho hs hd he (all1 ok))
    ·cases h
   ·cases h
  ·cases h
 case h_14 t x ho =>
  split at h
  ·cases h
  ·rename_i d hni hd; cases h; exact isCall_runs trivial (mkI_runs ho hd (fun ms hms => hni ms hms) (all1 ok))
  ·cases h
 case h_15 fn a b ho =>
  cases h
  have ok' : (a.toList ++ b.toList).all (okOpd N) = true := ok
  rw [List.all_append] at ok'
  have := Bool.and_eq_true_iff.1 ok'
  exact isCall_runs trivial (mkF_runs ho this.1 this.2)
 case h_16 t ho => cases h; exact isCall_runs trivial (mkMap_runs ho)
 case h_17 t l c ho =>
  split at h
  ·rename_i e hu
   split at h
   ·rename_i z b s hz hb hs
    split at h
    ·cases h; obtain ⟨h1,h2⟩ := all2 ok; exact isCall_runs trivial (mkSlT_runs ho hu hz hb hs h1 h2)
    ·cases h; obtain ⟨h1,h2⟩ := all2 ok; exact isCall_runs trivial (mkSl_runs ho hu hz hb hs h1 h2)
   ·cases h
  ·cases h
 case h_18 t x lo hi mx ho =>
  split at h
  ·rename_i hu
   split at h
   ·cases h
    have ok' : ([x] ++ lo.toList ++ hi.toList).all (okOpd N) = true := ok
    simp only [List.all_append,Bool.and_eq_true] at ok'
    exact isCall_runs trivial (slS_runs ho hu (all1 ok'.1.1) (optOk_of ok'.1.2) (optOk_of ok'.2))
   ·cases h
  ·rename_i e hu
   obtain ⟨s,hs,rfl⟩ := Option.map_eq_some_iff.1 h
   have ok' : ([x] ++ lo.toList ++ hi.toList ++ mx.toList).all (okOpd N) = true := ok
   simp only [List.all_append,Bool.and_eq_true] at ok'
   exact isCall_runs trivial (slV_runs ho hu hs (all1 ok'.1.1.1) (optOk_of ok'.1.1.2) (optOk_of ok'.1.2) (optOk_of ok'.2))
  ·rename_i n e hu
   obtain ⟨s,hs,rfl⟩ := Option.map_eq_some_iff.1 h
   have ok' : ([x] ++ lo.toList ++ hi.toList ++ mx.toList).all (okOpd N) = true := ok
   simp only [List.all_append,Bool.and_eq_true] at ok'
   exact isCall_runs trivial (slA_runs ho hu hs (all1 ok'.1.1.1) (optOk_of ok'.1.1.2) (optOk_of ok'.1.2) (optOk_of ok'.2))
  ·cases h
 case h_19 t x i ho =>
  split at h
  ·rename_i fs hu
   split at h
   ·rename_i fl hf
    split at h
    ·rename_i s hs
     split at h
     ·rename_i h0; cases h; exact isCall_runs trivial (fAddr_runs ho hu hf hs h0 (all1 ok))
     ·cases h
    ·cases h
   ·cases h
  ·cases h
 case h_20 t x i ho =>
  split at h
  ·rename_i fs hu
   split at h
   ·rename_i fl hf
    obtain ⟨s,hs,rfl⟩ := Option.map_eq_some_iff.1 h
    exact isCall_runs trivial (fVal_runs ho hu hf hs (all1 ok))
   ·cases h
  ·cases h
 case h_21 t x i ho =>
  split at h
  ·rename_i e hu
   obtain ⟨s,hs,rfl⟩ := Option.map_eq_some_iff.1 h
   obtain ⟨h1,h2⟩ := all2 ok
   exact isCall_runs trivial (iAddrS_runs ho hu hs h1 h2)
  ·rename_i n e hu
   obtain ⟨s,hs,rfl⟩ := Option.map_eq_some_iff.1 h
   obtain ⟨h1,h2⟩ := all2 ok
   exact isCall_runs trivial (iAddrA_runs ho hu hs h1 h2)
  ·cases h
 case h_22 t x i ho =>
  split at h
  ·rename_i hu; cases h; obtain ⟨h1,h2⟩ := all2 ok; exact isCall_runs trivial (iStr_runs ho hu h1 h2)
  ·rename_i n e hu
   split at h
   ·rename_i s a hs ha; cases h; obtain ⟨h1,h2⟩ := all2 ok; exact isCall_runs trivial (iValA_runs ho hu hs ha h1 h2)
   ·cases h
  ·cases h
 case h_23 t x i okb ho =>
  split at h
  ·rename_i kt e hu
   split at h
   ·rename_i d z hd hz; cases h; obtain ⟨h1,h2⟩ := all2 ok; exact isCall_runs trivial (look_runs ho hu hd hz h1 h2)
   ·cases h
  ·cases h
 case h_24 t m k x ho =>
  split at h
  ·rename_i kt e hu
   obtain ⟨d,hd,rfl⟩ := Option.map_eq_some_iff.1 h
   obtain ⟨h1,h2,h3⟩ := all3 ok
   exact isCall_runs trivial (mupd_runs (.inl ho) hu hd h1 h2 h3)
  ·cases h
 case h_25 t m k x ho =>
  split at h
  ·rename_i kt e hu
   obtain ⟨d,hd,rfl⟩ := Option.map_eq_some_iff.1 h
   obtain ⟨h1,h2,h3⟩ := all3 ok
   exact isCall_runs trivial (mupd_runs (.inr ho) hu hd h1 h2 h3)
  ·cases h
 case h_26 t m k ho =>
  split at h
  ·rename_i kt e hu
   split at h
   ·rename_i d z hd hz; cases h; obtain ⟨h1,h2⟩ := all2 ok; exact isCall_runs trivial (mentry_runs ho hu hd hz h1 h2)
   ·cases h
  ·cases h
 case h_27 t m s x ho => cases h; obtain ⟨h1,h2,h3⟩ := all3 ok; exact isCall_runs trivial (estore_runs ho h1 h2 h3)
 case h_28 x i ho => cases h; exact isCall_runs trivial (extr_runs ho (all1 ok))
 case h_29 t x ho =>
  split at h
  ·rename_i k e hu; cases h; exact isCall_runs trivial (rangeM_runs ho hu (all1 ok))
  ·rename_i hu; cases h; exact isCall_runs trivial (rangeS_runs ho hu (all1 ok))
  ·cases h
 case h_30 it ho => cases h; exact nextM_ok ho (all1 ok)
 case h_31 it ho => cases h; exact isCall_runs trivial (nextS_runs ho (all1 ok))
 case h_32 it ho => cases h; exact isCall_runs trivial (entryM_runs ho (all1 ok))
 case h_33 x xT t ho =>
  split at h
  ·cases h
  ·rename_i d hu hni
   cases h
   exact isCall_runs trivial (tassert_runs ho hni (fun ms hms => hu ms hms) (all1 ok))
  ·cases h
 case h_34 c ho =>
  split at h
  ·rename_i g hcal
   split at h
   ·rename_i hg; cases h; exact call_ok ho hcal hg ok
   ·exact compExt_ok ho hcal h ok
  ·rename_i x hx hcal
   cases h
   have ok' : (x :: c.args.toList).all (okOpd N) = true := ok
   rw [List.all_cons] at ok'
   have := Bool.and_eq_true_iff.1 ok'
   exact callv_ok ho hcal this.1 this.2
  ·rename_i b hcal; exact compBuiltin_ok ho hcal h ok
  ·cases h
 case h_35 => cases h
theorem compOper_ok {ops : Array Oper} {ao : AOper} (h : compOper P N ops o = some ao) : OperOk P N ops o ao := by
 unfold compOper at h
 dsimp only at h
 split at h
 ·rename_i hc
  rw [Bool.and_eq_true] at hc
  have hdst : ∀ i,o.dst = some i → i < N := by
   intro i hi
   have := hc.2
   rw [hi] at this
   simpa [dstOk] using this
  have hop : OpOk P N o ((compOp P o).getD .bad) := by
   cases hk : compOp P o with
   | none =>
     intro n0 B μ0 w0 f h a w μ s K hK
     exact hK.elim
   | some k => exact compOp_ok hk (by rw [hk] at hc; exact hc.1)
  split at h
  ·rename_i hg
   cases h
   exact ⟨hop,rfl,hdst,by rw [hg]; trivial⟩
  ·rename_i j want hg
   split at h
   ·rename_i t ht
    split at h
    ·rename_i htN
     cases h
     exact ⟨hop,rfl,hdst,by rw [hg]; exact ⟨ht,rfl,htN⟩⟩
    ·cases h
   ·cases h
 ·cases h
theorem compList_ok {ops : Array Oper} : ∀ {os : List Oper} {al : List AOper},compList P N ops os = some al → OpersOk P N ops os al
 | [],al,h => by cases h; exact .nil
 | o :: os,al,h => by
   simp only [compList] at h
   split at h
   ·rename_i a l ha hl
    cases h
    exact .cons (compOper_ok ha) (compList_ok hl)
   ·cases h
theorem compC_ok {n0 : Nat} (hm : P.follows .mixedOrders = true) : ∀ {c : Code} {ac : AC},compC P N c = some ac → ∀ {Q : AQ} {f : AF} {h : Heap},awp P n0 ac Q f h → AWp P n0 N c Q f h := by
 intro c
 induction c with
 | skip => intro ac h Q f hp hw; cases h; exact awp_skip hw
 | region id ops d =>
   intro ac h Q f hp hw
   simp only [compC] at h
   split at h
   ·rename_i l hl
    cases d with
    | false =>
      cases h
      intro B μ0 w0 a w μ s
      exact wp_region_list (region_ok (compList_ok hl) s hw fun f h a w μ s q => ⟨f,h,μ,s,q⟩)
    | true =>
      cases hd : compDraw ops l with
      | none =>
        simp only [if_true,hd,Option.getD_none,Option.some.injEq] at h
        subst h
        exact (show False from hw).elim
      | some ac2 =>
        simp only [if_true,hd,Option.getD_some,Option.some.injEq] at h
        subst h
        intro B μ0 w0 a w μ s
        exact draw_ok hm (compList_ok hl) hd s hw fun f h a w μ s q => ⟨f,h,μ,s,q⟩
   ·cases h
 | seq a b iha ihb =>
   intro ac h Q f hp hw
   simp only [compC] at h
   split at h
   ·rename_i x y hx hy
    cases h
    refine awp_seq ((iha hx hw).mono fun e f h q => ?_)
    cases e with
    | normal => exact ihb hy q
    | _ => exact q
   ·cases h
 | cond c a b iha ihb =>
   intro ac h Q f hp hw
   simp only [compC] at h
   split at h
   ·rename_i hc
    split at h
    ·rename_i x y hx hy
     cases h
     intro B μ0 w0 act w μ s
     simp only [awp] at hw
     have rc := opd_rel s.fr hc
     split at hw
     ·rename_i t ht
      rw [ht] at rc
      cases t
      ·exact wp_cond rc.bool_inv (ihb hy (hw.2 rfl) B μ0 w0 act w μ s)
      ·exact wp_cond rc.bool_inv (iha hx (hw.1 rfl) B μ0 w0 act w μ s)
     ·exact hw.elim
    ·cases h
   ·cases h
 | block id c ih =>
   intro ac h Q f hp hw
   simp only [compC] at h
   obtain ⟨x,hx,rfl⟩ := Option.map_eq_some_iff.1 h
   exact awp_block (ih hx hw)
 | loop c ih =>
   intro ac h Q f hp hw
   simp only [compC] at h
   obtain ⟨x,hx,rfl⟩ := Option.map_eq_some_iff.1 h
   obtain ⟨I,⟨n,f2,h2,hn,hs,hm⟩,hr⟩ := hw
   exact AWp.drop hs hm (awp_loop I hn fun n f h hi => ih hx (hr n f h hi))
 | exit id => intro ac h Q f hp hw; cases h; exact awp_exit hw
 | ret => intro ac h Q f hp hw; cases h; exact awp_ret hw
 | refuse why => intro ac h Q f hp hw; cases h; exact hw.elim
 | _ =>
   intro ac h Q f hp hw
   cases h
   exact (show False from hw).elim
def aresults (rs : List Nat) (f : AF) : Value := match rs with
 | [t] => f t
 | rs => .tuple (rs.map f).toArray
def cresults (rs : List Nat) (t : Array Value) : Value := match rs with
 | [i] => t.getD i undef
 | rs => .tuple (rs.map fun i => t.getD i undef).toArray
def resTmps : List ResultVar → Option (List Nat)
 | [] => some []
 | .tmp t :: r => (resTmps r).map (t :: ·)
 | .cell _ _ :: _ => none
def ainit (args : List Value) : AF := fun i => args.getD i (.tuple #[])
def compF (P : Program) (fn : Func) : Option (AC × List Nat) :=
 match fn.body,resTmps fn.results.toList with
 | some c,some rs => if rs.all (· < fn.ntmps) then (compC P fn.ntmps c).map fun ac => (ac,rs) else none
 | _,_ => none
theorem results_run {fn : Func} {rs : List Nat} (h : resTmps fn.results.toList = some rs) (tmps : Array Value) (w : World) :
  (results fn tmps).run P w = .ok (cresults rs tmps) w := by
 have hm : ∀ (g : ResultVar → Sem Value),(∀ t,g (.tmp t) = pure (tmps.getD t undef)) → ∀ (l : List ResultVar) (rs : List Nat),resTmps l = some rs → (l.mapM g).run P w = .ok (rs.map fun t => tmps.getD t undef) w := by
  intro g hg l
  induction l with
  | nil => intro rs h; cases h; rfl
  | cons x r ih =>
    intro rs h
    cases x with
    | tmp t =>
      simp only [resTmps] at h
      obtain ⟨rs', hr, rfl⟩ := Option.map_eq_some_iff.1 h
      rw [List.mapM_cons,hg]
      simp only [Sem.run_bind,Sem.run_pure,Result.andThen_ok,ih rs' hr,List.map_cons]
    | cell a t => cases h
 unfold results
 rw [Array.mapM_eq_mapM_toList]
 simp only [Sem.run_bind,Sem.run_map]
 rw [hm _ (fun t => rfl) _ _ h]
 simp only [Result.andThen_ok,Sem.run_pure]
 congr 1
 match rs with
 | [] => simp [cresults]
 | [t] => simp [cresults]
 | t :: u :: r => simp [cresults]
theorem ainit_rel {μ : Mu} {args : List Value} {args' : Array Value} {n : Nat} (r : LRel μ args args') (hn : args.length ≤ n) : FRel n μ (ainit args) (args' ++ Array.replicate (n - args'.size) undef) := by
 refine ⟨by have := r.1; simp; omega,fun i hi => ?_⟩
 unfold ainit
 by_cases hlt : i < args.length
 ·have h1 := r.2 i hlt
  have e1 : args.getD i (.tuple #[]) = args.getD i unk := by simp [List.getD,hlt]
  have hlt' : i < args'.size := by rw [← r.1]; exact hlt
  have e2 : (args' ++ Array.replicate (n - args'.size) undef).getD i undef = args'.getD i unk := by
   simp [Array.getD, hlt', show i < args'.size + (n - args'.size) by omega, Array.getElem_append]
  rw [e1,e2]; exact h1
 ·have e1 : args.getD i (.tuple #[]) = .tuple #[] := by simp [List.getD,List.getElem?_eq_none (Nat.le_of_not_lt hlt)]
  have hge : args'.size ≤ i := by rw [← r.1]; exact Nat.le_of_not_lt hlt
  have e2 : (args' ++ Array.replicate (n - args'.size) undef).getD i undef = undef := by
   simp [Array.getD,show i < args'.size + (n - args'.size) by have := r.1; omega,Array.getElem_append,Nat.not_lt.2 hge]
  rw [e1,e2]; exact .tuple rfl (fun i hi => absurd hi (by simp))
def apost (rs : List Nat) (R : Value → Heap → Prop) : AQ
 | .normal,f,h => R (aresults rs f) h
 | .ret,f,h => R (aresults rs f) h
 | _,_,_ => False
theorem aresults_rel {μ : Mu} {rs : List Nat} {n : Nat} {f : AF} {t : Array Value} (fr : FRel n μ f t) (hrs : rs.all (· < n) = true) :
  VRel μ (aresults rs f) (cresults rs t) := by
 have hall : ∀ i ∈ rs,VRel μ (f i) (t.getD i undef) := fun i hi => fr.2 i (by simpa using List.all_eq_true.1 hrs i hi)
 have htup : VRel μ (.tuple (rs.map f).toArray) (.tuple (rs.map fun i => t.getD i undef).toArray) := by
  refine .tuple (by simp) (fun i hi => ?_)
  have hi' : i < rs.length := by simpa using hi
  rw [toArray_getD,toArray_getD]
  simpa [List.getD,hi'] using hall rs[i] (by simp)
 match rs with
 | [] => exact htup
 | [i] => exact hall i (by simp)
 | _ :: _ :: _ => exact htup
theorem acalls_of (hm : P.follows .mixedOrders = true) {g : FuncId} {fn : Func} {ac : AC} {rs : List Nat} (hf : P.funcs[g]? = some fn) (hc : compF P fn = some (ac,rs)) {args : List Value} {h : Heap} {R : Value → Heap → Prop} {N : Nat} (hN : fn.ntmps = N) (hn : args.length ≤ N)
  (hw : h.Closed → (∀ v ∈ args,VBelow h.n v) → awp P h.n ac (apost rs R) (ainit args) h) : ACalls P g args h R := by
 subst hN
 refine ACalls.closed fun hcl => ACalls.below fun hbl => ?_
 have hw := hw hcl hbl
 unfold compF at hc
 split at hc
 ·rename_i c rs' hbody hres
  split at hc
  ·rename_i hall
   obtain ⟨ac', hac, e⟩ := Option.map_eq_some_iff.1 hc
   cases e
   intro B μ w args' rel la
   refine calls_of_wp hf hbody ?_
   have st : St B h.n fn.ntmps μ w (ainit args) h { tmps := args' ++ Array.replicate (fn.ntmps - args'.size) undef,defers := [] } w μ :=
    ⟨rel,ainit_rel la hn,rfl,Below.refl _ _,fun _ _ => rfl,Nat.le_refl _⟩
   refine wp_mono (compC_ok hm hac hw B μ w _ w μ st) fun e a' w' ⟨f', h', μ', s, q⟩ => ?_
   have fin : R (aresults rs f') h' → a'.defers = [] ∧ ∃ v, (results fn a'.tmps).run P w' = .ok v w' ∧ ∃ v0 v' h' μ', Ending.returned v = .returned v' ∧ VRel μ' v0 v' ∧ HRel B μ' h' w' ∧ Below B w w' ∧ (∀ b, b < h.n → μ' b = μ b) ∧ h.n ≤ h'.n ∧ R v0 h' := fun r =>
    ⟨s.nod, _, results_run hres _ _, _, _, h', μ', rfl, aresults_rel s.fr hall, s.rel, s.bel, s.ext, s.le, r⟩
   cases e with
   | normal => exact fin q
   | ret => exact fin q
   | _ => exact q.elim
  ·cases hc
 ·cases hc
end
end Go.Ab
