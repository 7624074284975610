/-
 Ab: maps.
-/
import Derived.Test.YtdnmkenamgfjoaaGreatAbSound10
set_option linter.unusedSimpArgs false
set_option linter.unusedVariables false
namespace Go.Ab
set_option linter.unusedSectionVars false
variable [Inhabited TabBox]
open Go.RowKit
section
variable {P : Program} {N : Nat} {o : Oper}
theorem isAggT_shape {t : TypeId} {cs : List Value} (h : isAggT P t = true) : shape P t cs = .agg cs.toArray := by
 unfold isAggT at h
 unfold shape
 split at h
 ·rename_i hu; rw [hu]
 ·rename_i hu; rw [hu]
 ·cases h
theorem isAggT_shape' {t : TypeId} {x : Value} (h : isAggT P t = false) : shape P t [x] = x := by
 unfold isAggT at h
 unfold shape
 split at h
 ·cases h
 ·cases h
 ·rename_i h1 h2
  split
  ·rename_i hu; exact absurd hu (h1 _)
  ·rename_i hu; exact absurd hu (h2 _ _)
  ·rfl
theorem aeqC_true {k : CK} {x y : Value} (h : aeqC k x y = some true) : x = y := by
 unfold aeqC at h
 split at h
 ·split at h
  ·rename_i hk; subst hk; simp at h; rw [h]
  ·cases h
 ·simp at h; rw [h]
 ·simp at h; rw [h]
 ·cases h
theorem aeqL_true : ∀ {ks : List CK} {xs ys : List Value},aeqL ks xs ys = some true → xs = ys
 | [],[],[],_ => rfl
 | k :: ks,x :: xs,y :: ys,h => by
   simp only [aeqL] at h
   split at h
   ·rename_i a b h1 h2
    simp at h
    obtain ⟨rfl,rfl⟩ := h
    rw [aeqC_true h1,aeqL_true h2]
   ·cases h
 | [],[],_ :: _,h => by cases h
 | [],_ :: _,_,h => by cases h
 | _ :: _,[],_,h => by cases h
 | _ :: _,_ :: _,[],h => by cases h
theorem sameKey_run {t : TypeId} {d : KD} {a b : Value} {r : Bool} (hd : keyOf' P t = some d) (h : sameKey d a b = some r) (w : World) :
  (Op.equal t a b).run P w = .ok r w ∧ (r = true → a = b) ∧ (∀ μ a', VRel μ a a' → a' = a) ∧ (∀ μ b', VRel μ b b' → b' = b) := by
 unfold keyOf' at hd
 obtain ⟨ks,hks,rfl⟩ := Option.map_eq_some_iff.1 hd
 unfold sameKey at h
 dsimp only at h
 by_cases hag : isAggT P t = true
 ·rw [if_pos hag] at h
  split at h
  ·rename_i xs ys
   have hs := aeqL_same (μ := fun _ => none) h
   refine ⟨?_,fun hr => ?_,fun μ a' ra => ra.agg_flat hs.1,fun μ b' rb => rb.agg_flat hs.2⟩
   ·have := equalIn_eqTy 20 t ks hks 10000 (by omega) xs.toList ys.toList r h w
    rw [isAggT_shape hag,isAggT_shape hag] at this
    exact this
   ·subst hr
    have := aeqL_true h
    rw [Array.toList_inj.1 this]
  ·cases h
 ·rw [if_neg hag] at h
  split at h
  ·rename_i k
   have hf : flat1 a = true ∧ flat1 b = true := by
    unfold aeqC at h
    split at h <;> first | exact ⟨rfl,rfl⟩ | cases h
   refine ⟨?_,fun hr => by subst hr; exact aeqC_true h,fun μ a' ra => ra.flat1_eq hf.1,fun μ b' rb => rb.flat1_eq hf.2⟩
   have hL : aeqL [k] [a] [b] = some r := by simp [aeqL,h]
   have := equalIn_eqTy 20 t [k] hks 10000 (by omega) [a] [b] r hL w
   rw [isAggT_shape' (by simpa using hag),isAggT_shape' (by simpa using hag)] at this
   exact this
  ·cases h
def ERel (μ : Mu) (es : List MEnt) (es' : List Go.MapEntry) : Prop := es.length = es'.length ∧ ∀ i (hi : i < es.length) (hi' : i < es'.length),VRel μ es[i].key es'[i].key ∧ VRel μ es[i].val es'[i].val ∧ es'[i].born = es[i].born
theorem ERel.tail {μ : Mu} {e : MEnt} {es : List MEnt} {e' : Go.MapEntry} {es' : List Go.MapEntry} (h : ERel μ (e :: es) (e' :: es')) : ERel μ es es' :=
 ⟨by simpa using h.1,fun i hi hi' => h.2 (i + 1) (by simpa using hi) (by simpa using hi')⟩
def foundAt (es' : List Go.MapEntry) (i0 : Nat) : Option Nat → Option (Nat × Value)
 | none => none
 | some j => (es'[j - i0]?).map fun e => (j,e.val)
theorem afind_ge {d : KD} {k : Value} : ∀ {es : List MEnt} {i j : Nat},afind d k es i = some (some j) → i ≤ j ∧ j < i + es.length ∧ ∃ e,es[j - i]? = some e ∧ sameKey d k e.key = some true
 | [],_,_,h => by cases h
 | e :: r,i,j,h => by
   simp only [afind] at h
   split at h
   ·rename_i hk; cases h; exact ⟨Nat.le_refl _,by simp,e,by simp,hk⟩
   ·obtain ⟨h1, h2, e', h3, h4⟩ := afind_ge h
    refine ⟨by omega, by simp; omega, e', ?_, h4⟩
    rw [show j - i = (j - (i + 1)) + 1 by omega]
    simpa using h3
   ·cases h
theorem findAsking_run {t : TypeId} {d : KD} {k : Value} (hd : keyOf' P t = some d) {μ : Mu} {w : World} : ∀ {es : List MEnt} {es' : List Go.MapEntry} {i : Nat} {r : Option Nat},ERel μ es es' → afind d k es i = some r →
  (Instr.findAsking t k es' i).run P w = .ok (foundAt es' i r) w
 | [],[],i,r,_,h => by cases h; rfl
 | e :: es, e' :: es', i, r, hr, h => by
   have h0 := hr.2 0 (by simp) (by simp)
   simp only [List.getElem_cons_zero] at h0
   simp only [afind] at h
   split at h
   ·rename_i hk
    cases h
    obtain ⟨q1,_,_,q2⟩ := sameKey_run hd hk w
    have := q2 _ _ h0.1
    simp only [Instr.findAsking,Sem.run_bind,this,q1,Result.andThen_ok,if_true,Sem.run_pure,foundAt]
    simp
   ·rename_i hk
    obtain ⟨q1,_,_,q2⟩ := sameKey_run hd hk w
    have hq := q2 _ _ h0.1
    simp only [Instr.findAsking,Sem.run_bind,hq,q1,Result.andThen_ok,Bool.false_eq_true,if_false]
    rw [findAsking_run hd hr.tail h]
    congr 1
    cases r with
    | none => rfl
    | some j =>
      have := (afind_ge h).1
      simp only [foundAt]
      rw [show j - i = (j - (i + 1)) + 1 by omega]
      simp
   ·cases h
 | [],_ :: _,_,_,hr,_ => by cases hr.1
 | _ :: _,[],_,_,hr,_ => by cases hr.1
theorem findNow_same {t : TypeId} {kd : TypeDesc} {d : KD} {k : Value} (hu : P.underlying t = some kd) (hd : keyOf' P t = some d) {μ : Mu} : ∀ {es : List MEnt} {es' : List Go.MapEntry} {i : Nat} {r : Option Nat} {q : Option (Nat × Value)},ERel μ es es' → afind d k es i = some r →
  Instr.findNow kd k es' i = some q → q = foundAt es' i r
 | [],[],i,r,q,_,h,h2 => by cases h; cases h2; rfl
 | e :: es, e' :: es', i, r, q, hr, h, h2 => by
   have h0 := hr.2 0 (by simp) (by simp)
   simp only [List.getElem_cons_zero] at h0
   have key : ∀ b,sameKey d k e.key = some b → ∀ c,Instr.sameNow kd k e'.key = some c → c = b := by
    intro b hb c hc
    obtain ⟨q1,_,_,q2⟩ := sameKey_run hd hb default
    have hq := q2 _ _ h0.1
    rw [hq] at hc
    have this : ∀ ek,Instr.sameNow kd k ek = some c → (Op.equal t k ek).run P default = .ok c default := by
     intro ek hc
     unfold Op.equal Op.maxDepth
     obtain ⟨D,hD⟩ : ∃ D,10000 = D + 1 := ⟨9999,rfl⟩
     rw [hD]
     unfold Instr.sameNow at hc
     split at hc
     ·split at hc
      ·rename_i hk; subst hk; cases hc; exact run_equalIn_int default D t _ _ _ _ hu
      ·cases hc
     ·cases hc; rw [run_equalIn_string default D t _ _ hu,beq_toListBytes]
     ·cases hc; exact run_equalIn_bool' default D t _ _ hu
     ·cases hc
    have this := this _ hc
    rw [q1] at this
    cases this; rfl
   simp only [afind] at h
   simp only [Instr.findNow] at h2
   split at h
   ·rename_i hk
    cases h
    split at h2
    ·rename_i hc; cases h2; simp [foundAt]
    ·rename_i hc; have := key _ hk _ hc; cases this
    ·cases h2
   ·rename_i hk
    split at h2
    ·rename_i hc; have := key _ hk _ hc; cases this
    ·rename_i hc
     have := findNow_same hu hd hr.tail h h2
     rw [this]
     cases r with
     | none => rfl
     | some j =>
       have := (afind_ge h).1
       simp only [foundAt]
       rw [show j - i = (j - (i + 1)) + 1 by omega]
       simp
    ·cases h2
   ·cases h
 | [],_ :: _,_,_,_,hr,_,_ => by cases hr.1
 | _ :: _,[],_,_,_,hr,_,_ => by cases hr.1
theorem findKey_run {t : TypeId} {d : KD} {k : Value} (hd : keyOf' P t = some d) {μ : Mu} {w : World} {es : List MEnt} {es' : List Go.MapEntry} {r : Option Nat} (hr : ERel μ es es') (h : afind d k es 0 = some r) :
  (Instr.findKey t k es').run P w = .ok (foundAt es' 0 r) w := by
 have hu : ∃ kd,P.underlying t = some kd := by
  unfold keyOf' at hd
  obtain ⟨ks,hks,_⟩ := Option.map_eq_some_iff.1 hd
  exact Option.isSome_iff_exists.1 (eqTy_und hks).1
 obtain ⟨kd,hu⟩ := hu
 simp only [Instr.findKey,Sem.run_bind,run_und hu,Result.andThen_ok]
 cases hn : Instr.findNow kd k es' 0 with
 | none => simpa using findAsking_run hd hr h
 | some q => dsimp only; rw [findNow_same hu hd hr h hn]; rfl
theorem okKey_run {t : TypeId} {d : KD} {k : Value} (hd : keyOf' P t = some d) (h : okKey d k = true) : (∀ w, (Op.equal t k k).run P w = .ok true w) ∧ ∀ μ k', VRel μ k k' → k' = k := by
 unfold okKey at h
 have h' : sameKey d k k = some true := by simpa using h
 exact ⟨fun w => (sameKey_run hd h' w).1,(sameKey_run hd h' default).2.2.1⟩
theorem checkFields (em : Bool) (D : Nat) (xs : Array Value) {w : World} : ∀ (fs : List Field),(∀ f ∈ fs,∃ v,(part f.type xs f.offset).run P w = .ok v w ∧ (Instr.checkKey em D f.type v).run P w = .ok () w) →
  (forIn (m := Sem) fs PUnit.unit fun f _ => do
   if f.name ≠ "_" then
    Instr.checkKey em D f.type (← part f.type xs f.offset)
    pure (ForInStep.yield PUnit.unit)
   else pure (ForInStep.yield PUnit.unit)).run P w = .ok PUnit.unit w
 | [],_ => by simp
 | f :: fs,h => by
   rw [List.forIn_cons]
   obtain ⟨v,h1,h2⟩ := h f (by simp)
   split
   ·simp only [Sem.run_bind,h1,h2,Result.andThen_ok,Sem.run_pure]
    exact checkFields em D xs fs fun g hg => h g (by simp [hg])
   ·simp only [Sem.run_bind,Result.andThen_ok,Sem.run_pure]
    exact checkFields em D xs fs fun g hg => h g (by simp [hg])
theorem checkItems (em : Bool) (D : Nat) (xs : Array Value) {e : TypeId} {n : Nat} {w : World} (hs : szOf P e = some n) : ∀ (is : List Nat),(∀ i ∈ is,∃ v,(part e xs (i * n)).run P w = .ok v w ∧ (Instr.checkKey em D e v).run P w = .ok () w) →
  (forIn (m := Sem) is PUnit.unit fun i _ => do
   Instr.checkKey em D e (← part e xs (i * (← sizeOf e)))
   pure (ForInStep.yield PUnit.unit)).run P w = .ok PUnit.unit w
 | [],_ => by simp
 | i :: is,h => by
   rw [List.forIn_cons]
   obtain ⟨v,h1,h2⟩ := h i (by simp)
   simp only [Sem.run_bind,run_sizeOf' hs,h1,h2,Result.andThen_ok,Sem.run_pure]
   exact checkItems em D xs hs is fun g hg => h g (by simp [hg])
theorem eqFs_len {rec : TypeId → Option (List CK)} : ∀ {fs : List Field} {o : Nat} {ks : List CK},eqFs P rec fs o = some ks → ∀ f ∈ fs,∃ k,rec f.type = some k ∧ szOf P f.type = some k.length ∧ o ≤ f.offset ∧ f.offset + k.length ≤ o + ks.length
 | [],_,_,_,_,hf => by cases hf
 | fl :: r,o,ks,h,f,hf => by
   simp only [eqFs] at h
   split at h
   ·rename_i hc
    split at h
    ·rename_i k hk
     split at h
     ·rename_i hsz
      split at h
      ·rename_i l hr
       cases h
       simp only [List.length_append]
       rcases List.mem_cons.1 hf with rfl | hf
       ·exact ⟨k,hk,hsz,by omega,by omega⟩
       ·obtain ⟨k', h1, h2, h3, h4⟩ := eqFs_len hr f hf
        exact ⟨k', h1, h2, by omega, by omega⟩
      ·cases h
     ·cases h
    ·cases h
   ·cases h
theorem checkKey_eqTy (em : Bool) : ∀ (d : Nat) (t : TypeId) (ks : List CK),eqTy P d t = some ks → ∀ D,d ≤ D → ∀ (cs : List Value),cs.length = ks.length → ∀ w,(Instr.checkKey em D t (shape P t cs)).run P w = .ok () w
 | 0,_,_,h => by cases h
 | d + 1,t,ks,h => by
   intro D hD cs hl w
   obtain ⟨D, rfl⟩ : ∃ D', D = D' + 1 := ⟨D - 1, by omega⟩
   unfold eqTy at h
   cases hu : P.underlying t with
   | none => rw [hu] at h; cases h
   | some kd =>
     rw [hu] at h
     cases kd with
     | struct fs =>
       dsimp only at h
       split at h
       ·cases h
       ·simp only [shape,hu,Instr.checkKey,Sem.run_bind,run_und hu,Result.andThen_ok]
        rw [← Array.forIn_toList]
        have hgen := checkFields (P := P) em D cs.toArray (w := w) fs.toList fun f hf => by
         obtain ⟨k,h1,h2,h3,h4⟩ := eqFs_len h f hf
         obtain ⟨hue,hone⟩ := eqTy_und h1
         exact ⟨_,run_part_shape h2 hue hone (by simp; omega) w,checkKey_eqTy em d f.type k h1 D (by omega) _ (by simp; omega) w⟩
        simp only [bind_pure_comp,map_pure] at hgen ⊢
        first | (rw [hgen]; rfl) | (simp only [hgen]; done) | exact hgen
     | array m e =>
       dsimp only at h
       split at h
       ·rename_i k hk
        split at h
        ·rename_i hsz
         cases h
         obtain ⟨hue,hone⟩ := eqTy_und hk
         simp only [shape,hu,Instr.checkKey,Sem.run_bind,run_und hu,Result.andThen_ok]
         have hlen : ((List.replicate m k).flatten).length = m * k.length := by simp
         have hgen := checkItems (P := P) em D cs.toArray (w := w) hsz (List.range' 0 m) fun i hi => by
          have hi' : i < m := by simpa using hi
          have hle : (i + 1) * k.length ≤ m * k.length := Nat.mul_le_mul_right _ hi'
          rw [Nat.add_mul,Nat.one_mul] at hle
          exact ⟨_,run_part_shape hsz hue hone (by simp; omega) w,checkKey_eqTy em d e k hk D (by omega) _ (by simp; omega) w⟩
         simp only [Std.Legacy.Range.forIn_eq_forIn_range', Std.Legacy.Range.size, Nat.sub_zero, Nat.add_one_sub_one, Nat.div_one]
         simp only [bind_pure_comp,map_pure] at hgen ⊢
         first | (rw [hgen]; rfl) | (simp only [hgen]; done) | exact hgen
        ·cases h
       ·cases h
     | bool => simp only [Instr.checkKey,Sem.run_bind,run_und hu,Result.andThen_ok]; simp [shape,hu]
     | int q => simp only [Instr.checkKey,Sem.run_bind,run_und hu,Result.andThen_ok]; simp [shape,hu]
     | string => simp only [Instr.checkKey,Sem.run_bind,run_und hu,Result.andThen_ok]; simp [shape,hu]
     | _ => cases h
end
end Go.Ab
