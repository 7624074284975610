/-
 Ab: slicing,lengths,max and min,'==' of structs and arrays,structs and arrays built.
-/
import Derived.Test.YtdnmkenamgfjoaaGreatAbSound4
set_option linter.unusedSimpArgs false
set_option linter.unusedVariables false
namespace Go.Ab
set_option linter.unusedSectionVars false
variable [Inhabited TabBox]
open Go.RowKit
theorem run_sliceBound {P : Program} {w : World} {μ : Mu} {v v' : Value} {n n' j : Nat} {code : BoundsCode} (h : abound v n = some j) (hn : n ≤ n') (r : VRel μ v v') : (Instr.sliceBound v' n' code).run P w = .ok j w ∧ j ≤ n := by
 unfold abound at h
 split at h
 ·rename_i k i
  split at h
  ·rename_i hc
   cases h
   rw [r.int_inv]
   refine ⟨?_,by omega⟩
   simp only [Instr.sliceBound,asIntOf,pure_bind]
   rw [if_pos ⟨hc.1,by omega⟩]
   rfl
  ·cases h
 ·cases h
def ORelV (μ : Mu) : Option Value → Option Value → Prop
 | none,none => True
 | some v,some v' => VRel μ v v'
 | _,_ => False
theorem run_sliceBounds {P : Program} {w : World} {μ : Mu} {isS : Bool} {len cap cap' : Nat} {lo hi mx lo' hi' mx' : Option Value} {l hh m : Nat} (h : abounds len cap lo hi mx = some (l,hh,m)) (hc : cap ≤ cap')
  (rl : ORelV μ lo lo') (rh : ORelV μ hi hi') (rm : ORelV μ mx mx') :
  (Instr.sliceBounds isS len cap' lo' hi' mx').run P w = .ok (l,hh,if mx.isSome then m else cap') w ∧ l ≤ hh ∧ hh ≤ m ∧ m ≤ cap ∧ (mx = none → m = cap) := by
 unfold abounds at h
 obtain ⟨m1,hm1,h⟩ : ∃ m1,(match mx with | some v => abound v cap | none => some cap) = some m1 ∧ _ := by
  split at h
  ·cases h
  ·rename_i m1 e; exact ⟨m1,e,h⟩
 split at h
 ·cases h
 rename_i h1 hh1
 split at h
 ·cases h
 rename_i l1 hl1
 cases h
 have hm : ((match mx' with | some v => Instr.sliceBound v cap' (if isS then .slice3Acap else .slice3Alen) | none => pure cap').run P w = .ok (if mx.isSome then m else cap') w) ∧ m ≤ cap ∧ (mx = none → m = cap) ∧ mx.isSome = mx'.isSome := by
  cases mx with
  | none => cases mx' with
    | none => dsimp only at hm1; cases hm1; exact ⟨rfl,Nat.le_refl _,fun _ => rfl,rfl⟩
    | some _ => cases rm
  | some v => cases mx' with
    | none => cases rm
    | some v' =>
      obtain ⟨e,hle⟩ := run_sliceBound (P := P) (w := w) (code := (if isS then .slice3Acap else .slice3Alen)) hm1 hc rm
      exact ⟨e,hle,fun h => (by cases h),rfl⟩
 obtain ⟨hm,hmc,hmn,hms⟩ := hm
 have hmle : m ≤ (if mx.isSome then m else cap') := by split <;> omega
 have hh2 : ((match hi', mx' with
   | some v,some _ => Instr.sliceBound v (if mx.isSome then m else cap') .slice3B
   | some v,none => Instr.sliceBound v (if mx.isSome then m else cap') (if isS then .sliceAcap else .sliceAlen)
   | none,none => pure len
   | none, some _ => stuck "Slice: max without high").run P w = .ok hh w) ∧ hh ≤ m := by
  cases hi with
  | none => cases hi' with
    | some _ => cases rh
    | none =>
      dsimp only at hh1
      split at hh1
      ·rename_i hmx
       cases hh1
       cases mx with
       | some _ => exact absurd hmx.1 (by simp)
       | none => cases mx' with
         | some _ => cases rm
         | none => exact ⟨rfl,hmx.2⟩
      ·cases hh1
  | some v => cases hi' with
    | none => cases rh
    | some v' =>
      dsimp only at hh1
      cases mx' with
      | none => exact run_sliceBound hh1 hmle rh
      | some _ => exact run_sliceBound hh1 hmle rh
 obtain ⟨hh2,hhm⟩ := hh2
 have hl2 : ((match lo' with | some v => Instr.sliceBound v hh (if mx'.isSome then .slice3C else .sliceB) | none => pure 0).run P w = .ok l w) ∧ l ≤ hh := by
  cases lo with
  | none => cases lo' with
    | some _ => cases rl
    | none => cases hl1; exact ⟨rfl,Nat.zero_le _⟩
  | some v => cases lo' with
    | none => cases rl
    | some v' => exact run_sliceBound hl1 (Nat.le_refl _) rl
 refine ⟨?_,hl2.2,hhm,hmc,hmn⟩
 obtain ⟨hl3,_⟩ := hl2
 unfold Instr.sliceBounds
 generalize (if mx.isSome then m else cap') = m' at hm hh2 ⊢
 cases mx' <;> cases hi' <;> cases lo' <;> dsimp only at hm hh2 hl3 ⊢
 all_goals (try simp only [Sem.run_pure,Result.ok.injEq,and_true] at hm)
 all_goals (try simp only [Sem.run_pure,Result.ok.injEq,and_true] at hh2)
 all_goals (try simp only [Sem.run_pure,Result.ok.injEq,and_true] at hl3)
 all_goals simp only [Sem.run_bind,hm,Result.andThen_ok,hh2,hl3,Sem.run_pure,pure_bind]
theorem optRel {N : Nat} {μ : Mu} {f : AF} {a : Act} (fr : FRel N μ f a.tmps) {x : Option Operand} (ok : optOk N x = true) : ORelV μ (x.map (aev f)) (x.map a.eval) := by
 cases x with
 | none => trivial
 | some x => exact opd_rel fr ok
section
variable {P : Program} {N : Nat} {o : Oper}
theorem slS_runs {t : TypeId} {x : Operand} {lo hi : Option Operand} (ho : o.op = .slice t x lo hi none) (hu : P.underlying t = some .string) (okx : okOpd N x = true) (okl : optOk N lo = true) (okh : optOk N hi = true) : OpRuns P N o (.slS x lo hi) :=
 .pure fun B μ f h a w hr fr v h' e => by
  have rx := opd_rel fr okx
  simp only [aop] at e
  split at e
  ·rename_i st hx
   rw [hx] at rx
   simp only [Option.map_eq_some_iff,Prod.mk.injEq] at e
   obtain ⟨⟨l,hh,m⟩,hb,rfl,rfl⟩ := e
   obtain ⟨e1,h1,h2,_,_⟩ := run_sliceBounds (P := P) (w := w) (isS := false) (mx' := none) hb (Nat.le_refl _) (optRel fr okl) (optRel fr okh) trivial
   refine ⟨rfl,_,?_,.string⟩
   simp only [execOp,ho,Instr.sliceAt,Sem.run_bind,run_und hu,Result.andThen_ok,Instr.slice,rx.string_inv,Option.map_none,Option.isSome_none,Bool.false_eq_true,if_false,e1,Sem.run_pure]
  ·cases e
theorem slV_runs {t e0 : TypeId} {s : Nat} {x : Operand} {lo hi mx : Option Operand} (ho : o.op = .slice t x lo hi mx) (hu : P.underlying t = some (.slice e0)) (hs : szOf P e0 = some s) (okx : okOpd N x = true) (okl : optOk N lo = true) (okh : optOk N hi = true) (okm : optOk N mx = true) : OpRuns P N o (.slV s x lo hi mx) :=
 .pure fun B μ f h a w hr fr v h' e => by
  have rx := opd_rel fr okx
  simp only [aop] at e
  split at e
  ·rename_i ad len cap hx
   rw [hx] at rx
   split at e
   ·cases e
   rename_i l hh m hb
   split at e
   ·
    cases e
    obtain ⟨e1,h1,h2,h3,h4⟩ := run_sliceBounds (P := P) (w := w) (isS := true) hb (Nat.le_refl _) (optRel fr okl) (optRel fr okh) (optRel fr okm)
    have hm : (if (mx.map (aev f)).isSome then m else cap) = m := by
     split
     ·rfl
     ·rename_i hn; exact (h4 (by simpa using hn)).symm
    rw [hm] at e1
    refine ⟨rfl,_,?_,.snil⟩
    simp only [execOp,ho,Instr.sliceAt,Sem.run_bind,run_und hu,Result.andThen_ok,Instr.slice,rx.snil_inv,e1,run_sizeOf' hs,Sem.run_pure,Option.map_none,ite_self]
   ·rename_i ad'
    split at e
    ·rename_i md es hc
     split at e
     ·rename_i hg
      cases e
      obtain ⟨mi', cc, ty, fz, hmi', hb', hw, r⟩ := hr.cells hc
      obtain ⟨a', c', hv, hcase⟩ := rx.slice_inv
      have hcc : cap ≤ c' := by rcases hcase with ⟨mi,_,_,_,h | h⟩ | h <;> omega
      obtain ⟨e1,h1,h2,h3,h4⟩ := run_sliceBounds (P := P) (w := w) (isS := true) hb hcc (optRel fr okl) (optRel fr okh) (optRel fr okm)
      generalize hm' : (if (mx.map (aev f)).isSome then m else c') = m' at e1
      have run : (execOp a.eval o).run P w = .ok (.value (.slice (if m' = l then some a' else some (a'.add (l * s))) (hh - l) (m' - l))) w := by
       simp only [execOp,ho,Instr.sliceAt,Sem.run_bind,run_und hu,Result.andThen_ok,Instr.slice,hv,e1,run_sizeOf' hs,Sem.run_pure,Option.map_some]
      refine ⟨rfl,_,run,?_⟩
      rcases hcase with ⟨mi,hmi,hsp,rfl,hex⟩ | ⟨rfl,rfl,rfl,mi,hmi⟩
      ·rw [hmi] at hmi'; cases hmi'
       by_cases hml : m' = l
       ·
        rw [if_pos hml,show hh - l = 0 by
         have : m ≤ m' := by rw [← hm']; split <;> omega
         omega,show m' - l = 0 by omega,show m - l = 0 by
         have : m ≤ m' := by rw [← hm']; split <;> omega
         omega]
        exact .sempty hmi
       ·rw [if_neg hml,Addr.add_lit,Nat.add_assoc]
        refine .slice hmi ?_
        by_cases hmx : (mx.map (aev f)).isSome = true
        ·rw [if_pos hmx] at hm'; subst hm'; exact .inl rfl
        ·rw [if_neg hmx] at hm'; subst hm'
         have hmc := h4 (by simpa using hmx)
         subst hmc
         rcases hex with rfl | ⟨g1,g2,g3,g4⟩
         ·exact .inl rfl
         ·right
          have hes : es = s := hg.2 ((r.2.2.2.2.2.2.1).1 g1)
          have hesz := r.2.2.2.2.2.2.2
          rw [hesz,hes] at g2 g4 ⊢
          have hlm : l ≤ m := Nat.le_trans h1 h2
          refine ⟨g1,?_,by omega,?_⟩
          ·rw [← g2,Nat.sub_mul]
           have := Nat.mul_le_mul_right s hlm
           omega
          ·rw [Nat.sub_mul]
           have := Nat.mul_le_mul_right s (Nat.le_trans hlm g3)
           omega
      ·have hm0 : m = 0 := by omega
       have hl0 : l = 0 := by omega
       have hh0 : hh = 0 := by omega
       have hm'0 : m' = 0 := by rw [← hm']; split <;> omega
       subst hl0; subst hm0; subst hh0; subst hm'0
       simp only [if_true,Nat.sub_zero]
       exact .sempty hmi
     ·cases e
    ·cases e
  ·cases e
theorem slA_runs {t e0 : TypeId} {n s : Nat} {x : Operand} {lo hi mx : Option Operand} (ho : o.op = .slice t x lo hi mx) (hu : P.underlying t = some (.array n e0)) (hs : szOf P e0 = some s) (okx : okOpd N x = true) (okl : optOk N lo = true) (okh : optOk N hi = true) (okm : optOk N mx = true) : OpRuns P N o (.slA n s x lo hi mx) :=
 .pure fun B μ f h a w hr fr v h' e => by
  have rx := opd_rel fr okx
  simp only [aop] at e
  split at e
  ·rename_i ad hx
   rw [hx] at rx
   obtain ⟨mi,hmi,hsp,hv⟩ := rx.ptr_inv
   split at e
   ·cases e
   rename_i l hh m hb
   rw [if_pos hsp] at e
   cases e
   obtain ⟨e1,h1,h2,h3,h4⟩ := run_sliceBounds (P := P) (w := w) (isS := false) hb (Nat.le_refl _) (optRel fr okl) (optRel fr okh) (optRel fr okm)
   have hm : (if (mx.map (aev f)).isSome then m else n) = m := by
    split
    ·rfl
    ·rename_i hn; exact (h4 (by simpa using hn)).symm
   rw [hm] at e1
   refine ⟨rfl,.slice (some (if m = l then ⟨mi.cb,mi.dl + ad.off,none⟩ else ⟨mi.cb,mi.dl + (ad.off + l * s),none⟩)) (hh - l) (m - l),?_,?_⟩
   ·simp only [execOp,ho,Instr.sliceAt,Sem.run_bind,run_und hu,Result.andThen_ok,hv,Instr.sureAddr,Sem.run_pure,e1,run_sizeOf' hs,Addr.add_lit,Nat.add_assoc]
   ·by_cases hml : m = l
    ·rw [if_pos hml,show hh - l = 0 by omega,show m - l = 0 by omega]
     exact .sempty hmi
    ·rw [if_neg hml]
     exact .slice hmi (.inl rfl)
  ·cases e
theorem builtin_run {c : Call} {b : Builtin} {a : Act} {w w' : World} {n : Next} (ho : o.op = .call c) (hcal : c.callee = .builtin b)
  (h : ∀ cs,(builtin b c.argTypes o.type cs (c.args.map a.eval)).run P w = .ok n w') : (execOp a.eval o).run P w = .ok n w' := by
 simp only [execOp,ho,resolve,hcal,pure_bind,invoke]
 exact h _
theorem lenS_runs {t : TypeId} {x : Operand} {c : Call} {str : Bool} (ho : o.op = .call c) (hcal : c.callee = .builtin .len) (hargs : c.args = #[x]) (hty : c.argTypes.toList = [t])
  (hu : if str then P.underlying t = some .string else ∃ e,P.underlying t = some (.slice e)) (okx : okOpd N x = true) : OpRuns P N o (.lenS str x) :=
 .pure fun B μ f h a w hr fr v h' e => by
  have rx := opd_rel fr okx
  have hty' : c.argTypes = #[t] := by apply Array.ext'; simpa using hty
  cases str with
  | true =>
    simp only [aop] at e
    split at e
    ·rename_i s hx
     rw [hx] at rx
     cases e
     refine ⟨rfl,_,?_,.int⟩
     refine builtin_run ho hcal fun cs => ?_
     have hu' : P.underlying t = some .string := by simpa using hu
     simp [builtin, Builtin.len_, hargs, hty', run_und hu', rx.string_inv, goInt]
    ·cases e
  | false =>
    simp only [aop] at e
    split at e
    ·rename_i a' n c' hx
     rw [hx] at rx
     cases e
     refine ⟨rfl,_,?_,.int⟩
     refine builtin_run ho hcal fun cs => ?_
     obtain ⟨e0,hu'⟩ : ∃ e,P.underlying t = some (.slice e) := by simpa using hu
     have : ∃ a'' c'', a.eval x = .slice a'' n c'' := by
      generalize a.eval x = X at rx
      cases rx <;> exact ⟨_,_,rfl⟩
     obtain ⟨a'', c'', hv⟩ := this
     simp [builtin, Builtin.len_, hargs, hty', run_und hu', hv, goInt]
    ·cases e
theorem lenN_runs {t : TypeId} {x : Operand} {c : Call} {n : Nat} (ho : o.op = .call c) (hcal : c.callee = .builtin .len) (hargs : c.args = #[x]) (hty : c.argTypes.toList = [t])
  (hu : (∃ e,P.underlying t = some (.array n e)) ∨ ∃ p e,P.underlying t = some (.pointer p) ∧ P.underlying p = some (.array n e)) : OpRuns P N o (.lenN n) :=
 .pure fun B μ f h a w hr fr v h' e => by
  have hty' : c.argTypes = #[t] := by apply Array.ext'; simpa using hty
  simp only [aop] at e
  cases e
  refine ⟨rfl,_,?_,.int⟩
  refine builtin_run ho hcal fun cs => ?_
  rcases hu with ⟨e,hu⟩ | ⟨p,e,hu,hp⟩
  ·simp only [builtin, Builtin.len_, hargs, hty', Sem.run_bind, run_und hu, Result.andThen_ok]
   simp [run_und hu,goInt]
  ·simp only [builtin, Builtin.len_, hargs, hty', Sem.run_bind, run_und hu, Result.andThen_ok]
   simp [run_und hu,run_und hp,goInt]
theorem afold_run {g : Value → Value → Option Value} {k : Value → Value → Sem Value} {μ : Mu} {w : World} (hg : ∀ x y z x' y', g x y = some z → VRel μ x x' → VRel μ y y' → (k x' y').run P w = .ok z w ∧ VRel μ z z) :
  ∀ (l l' : List Value) (x x' z : Value), afold g x l = some z → VRel μ x x' → l.length = l'.length → (∀ i, i < l.length → VRel μ (l.getD i unk) (l'.getD i unk)) → ∃ z', (l'.foldlM k x').run P w = .ok z' w ∧ VRel μ z z'
 | [], [], x, x', z, h, rx, _, _ => by cases h; exact ⟨x', rfl, rx⟩
 | y :: l, y' :: l', x, x', z, h, rx, hl, hr => by
   simp only [afold] at h
   split at h
   ·rename_i u hu
    obtain ⟨e,ru⟩ := hg x y u x' y' hu rx (by simpa using hr 0 (by simp))
    obtain ⟨z', e', rz⟩ := afold_run hg l l' u u z h ru (by simpa using hl) (fun i hi => by simpa using hr (i + 1) (by simpa using hi))
    exact ⟨z', by simp only [List.foldlM_cons, Sem.run_bind, e, Result.andThen_ok, e'], rz⟩
   ·cases h
 | [],_ :: _,_,_,_,_,_,hl,_ => by cases hl
 | _ :: _,[],_,_,_,_,_,hl,_ => by cases hl
theorem mapRelL {μ : Mu} {f : AF} {a : Act} (fr : FRel N μ f a.tmps) {xs : List Operand} (ok : xs.all (okOpd N) = true) : ∀ i,i < (xs.map (aev f)).length → VRel μ ((xs.map (aev f)).getD i unk) ((xs.map a.eval).getD i unk) := by
 intro i hi
 have := (mapRel fr ok).2 i hi
 simp at hi
 simpa [List.getD,Array.getD,hi] using this
theorem mx_runs {c : Call} (ho : o.op = .call c) (hcal : c.callee = .builtin .max) (ok : c.args.toList.all (okOpd N) = true) : OpRuns P N o (.mx c.args.toList) :=
 .pure fun B μ f h a w hr fr v h' e => by
  simp only [aop] at e
  have hrel := mapRelL fr ok
  split at e
  ·rename_i x r hx
   simp only [Option.map_eq_some_iff,Prod.mk.injEq] at e
   obtain ⟨u,hu,rfl,rfl⟩ := e
   rw [hx] at hrel
   have hlen : (x :: r).length = (c.args.toList.map a.eval).length := by rw [← hx]; simp
   cases hx' : c.args.toList.map a.eval with
   | nil => rw [hx'] at hlen; cases hlen
   | cons x' r' =>
     rw [hx'] at hrel hlen
     obtain ⟨z', ez, rz⟩ := afold_run (P := P) (w := w) (μ := μ) (k := Builtin.max2) (g := amax2) (fun x y z x' y' hz rx ry => by
      unfold amax2 at hz
      split at hz
      ·split at hz
       ·rename_i hk; subst hk; cases hz
        rw [rx.int_inv,ry.int_inv]
        refine ⟨?_,.int⟩
        simp only [Builtin.max2,Sem.run_pure]
        congr 2
        simp only [Int.max_def]; split <;> split <;> omega
       ·cases hz
      ·cases hz) r r' x x' u hu (by simpa using hrel 0 (by simp)) (by simpa using hlen) (fun i hi => by simpa using hrel (i + 1) (by simpa using hi))
     refine ⟨rfl, z', ?_, rz⟩
     refine builtin_run ho hcal fun cs => ?_
     simp only [builtin, Builtin.max_, Array.toList_map, hx', Sem.run_bind, ez, Result.andThen_ok, Sem.run_pure]
  ·cases e
theorem mn_runs {c : Call} (ho : o.op = .call c) (hcal : c.callee = .builtin .min) (ok : c.args.toList.all (okOpd N) = true) : OpRuns P N o (.mn c.args.toList) :=
 .pure fun B μ f h a w hr fr v h' e => by
  simp only [aop] at e
  have hrel := mapRelL fr ok
  split at e
  ·rename_i x r hx
   simp only [Option.map_eq_some_iff,Prod.mk.injEq] at e
   obtain ⟨u,hu,rfl,rfl⟩ := e
   rw [hx] at hrel
   have hlen : (x :: r).length = (c.args.toList.map a.eval).length := by rw [← hx]; simp
   cases hx' : c.args.toList.map a.eval with
   | nil => rw [hx'] at hlen; cases hlen
   | cons x' r' =>
     rw [hx'] at hrel hlen
     obtain ⟨z', ez, rz⟩ := afold_run (P := P) (w := w) (μ := μ) (k := Builtin.min2) (g := amin2) (fun x y z x' y' hz rx ry => by
      unfold amin2 at hz
      split at hz
      ·split at hz
       ·rename_i hk; subst hk; cases hz
        rw [rx.int_inv,ry.int_inv]
        refine ⟨?_,.int⟩
        simp only [Builtin.min2,Sem.run_pure]
        congr 2
        simp only [Int.min_def]; split <;> split <;> omega
       ·cases hz
      ·cases hz) r r' x x' u hu (by simpa using hrel 0 (by simp)) (by simpa using hlen) (fun i hi => by simpa using hrel (i + 1) (by simpa using hi))
     refine ⟨rfl, z', ?_, rz⟩
     refine builtin_run ho hcal fun cs => ?_
     simp only [builtin, Builtin.min_, Array.toList_map, hx', Sem.run_bind, ez, Result.andThen_ok, Sem.run_pure]
  ·cases e
theorem eqa_runs {neg : Bool} {t t' : TypeId} {ks : List CK} {x y : Operand} (ho : o.op = .binOp (if neg then .neq else .eql) t x y t') (hok : eqAgg P t = some ks) (okx : okOpd N x = true) (oky : okOpd N y = true) : OpRuns P N o (.eqa neg ks x y) :=
 .pure fun B μ f h a w hr fr v h' e => by
  have rx := opd_rel fr okx
  have ry := opd_rel fr oky
  simp only [aop] at e
  split at e
  ·rename_i xs ys hx hy
   rw [hx] at rx
   rw [hy] at ry
   simp only [Option.map_eq_some_iff,Prod.mk.injEq] at e
   obtain ⟨b,hb,rfl,rfl⟩ := e
   obtain ⟨fx,fy⟩ := aeqL_same (μ := μ) hb
   have vx := rx.agg_flat fx
   have vy := ry.agg_flat fy
   have hgt : P.eqGuardType P.depth t = false ∧ eqTy P 20 t = some ks ∧ shape P t xs.toList = .agg xs ∧ shape P t ys.toList = .agg ys := by
    unfold eqAgg at hok
    cases hu : P.underlying t with
    | none => rw [hu] at hok; cases hok
    | some d =>
      rw [hu] at hok
      cases d <;> dsimp only at hok <;> first
       | (cases hok; done)
       | (split at hok
          ·cases hok
          ·rename_i hg; exact ⟨by simpa using hg,hok,by simp [shape,hu],by simp [shape,hu]⟩)
   obtain ⟨g1,g2,g3,g4⟩ := hgt
   have he : (Op.equal t (.agg xs) (.agg ys)).run P w = .ok b w := by
    have := equalIn_eqTy 20 t ks g2 10000 (by omega) xs.toList ys.toList b hb w
    rwa [g3,g4] at this
   have hguard : (eqGuard (if neg then .neq else .eql) t x y (.agg xs) (.agg ys)).run P w = .ok () w := by
    cases neg <;> simp [eqGuard,g1]
   obtain ⟨e1,e2⟩ := binOp_eqv (P := P) (t := t) (x := .agg xs) (y := .agg ys) (by simp) (by simp) (by simp) (by simp) he
   refine ⟨rfl,_,?_,.bool⟩
   simp only [execOp,ho,Sem.run_bind,vx,vy,hguard,Result.andThen_ok]
   cases neg
   ·simp only [Bool.false_eq_true,if_false,e1,Result.andThen_ok,Sem.run_pure]
   ·simp only [if_true,e2,Result.andThen_ok,Sem.run_pure]
  ·cases e
end
end Go.Ab
