/-
 Ab: operations that leave the world alone,more of them.
-/
import Derived.Test.YtdnmkenamgfjoaaGreatAbSound2
set_option linter.unusedSimpArgs false
set_option linter.unusedVariables false
namespace Go.Ab
set_option linter.unusedSectionVars false
variable [Inhabited TabBox]
open Go.RowKit
section
variable {P : Program} {N : Nat} {o : Oper}
theorem binOp_eqv {t : TypeId} {x y : Value} {b : Bool} {w : World} (hi : ∀ k n,x ≠ .int k n) (hs : ∀ s,x ≠ .string s) (hf : ∀ k n,x ≠ .float k n) (hc : ∀ k n m,x ≠ .complex k n m) (h : (Op.equal t x y).run P w = .ok b w) :
  (binOp .eql t x y).run P w = .ok (.bool b) w ∧ (binOp .neq t x y).run P w = .ok (.bool !b) w := by
 unfold binOp
 cases x <;> first
  | exact absurd rfl (hi _ _) | exact absurd rfl (hs _) | exact absurd rfl (hf _ _) | exact absurd rfl (hc _ _ _)
  | (constructor <;> simp [h])
theorem isNilOp_eq {x : Operand} (h : isNilOp x = true) : x = .const .nilIface := by
 unfold isNilOp at h; split at h
 ·rfl
 ·cases h
theorem eqOk_spec {t : TypeId} {x y : Operand} {d : EK} (h : eqOk P t x y = some d) : match d with
  | .bool => P.underlying t = some .bool
  | .ptr => ∃ e,P.underlying t = some (.pointer e)
  | .slc => ∃ e,P.underlying t = some (.slice e)
  | .map => ∃ k e,P.underlying t = some (.map k e)
  | .fn => ∃ a b c,P.underlying t = some (.func a b c)
  | .pp => ∃ e s,P.underlying t = some (.pointer e) ∧ szOf P e = some (s + 1)
  | .ifc => (∃ ms,P.underlying t = some (.interface ms)) ∧ (x = .const .nilIface ∨ y = .const .nilIface) := by
 unfold eqOk at h
 cases hu : P.underlying t with
 | none => rw [hu] at h; cases h
 | some kd =>
   rw [hu] at h
   cases kd <;> dsimp only at h
   case interface ms =>
    split at h
    ·rename_i hc
     cases h
     refine ⟨⟨_,rfl⟩,?_⟩
     rw [Bool.or_eq_true] at hc
     rcases hc with hc | hc
     ·exact .inl (isNilOp_eq hc)
     ·exact .inr (isNilOp_eq hc)
    ·cases h
   case pointer e =>
    split at h
    ·cases h; exact ⟨_,rfl⟩
    ·split at h
     ·rename_i s hs; cases h; exact ⟨_,_,rfl,hs⟩
     ·cases h
   all_goals first
    | (cases h; done)
    | (cases h; dsimp only; first | done | exact ⟨_,rfl⟩ | exact ⟨_,_,rfl⟩ | exact ⟨_,_,_,rfl⟩)
theorem addr_beq (b d o o' : Nat) : ((⟨b, d + o, none⟩ : Addr) == ⟨b, d + o', none⟩) = decide (o = o') := by
 rw [Bool.eq_iff_iff,decide_eq_true_eq]
 constructor
 ·intro h
  have := eq_of_beq h
  simp at this
  exact this
 ·rintro rfl; exact beq_self_eq_true _
def aeqP : Value → Value → Option Bool
 | .pointer none,.pointer b => some b.isNone
 | .pointer (some _),.pointer none => some false
 | .pointer (some a),.pointer (some b) => if a.block = b.block ∧ a.spot = none ∧ b.spot = none then some (decide (a.off = b.off)) else none
 | _,_ => none
theorem aeq_pp (x y : Value) : aeq .pp x y = aeqP x y := by
 unfold aeq aeqP
 cases x with
 | pointer p => cases p <;> (cases y with
   | pointer q => cases q <;> rfl
   | _ => rfl)
 | _ => rfl
set_option maxHeartbeats 1000000 in
theorem eqv_runs {neg : Bool} {d : EK} {t t' : TypeId} {x y : Operand} (ho : o.op = .binOp (if neg then .neq else .eql) t x y t') (hok : eqOk P t x y = some d) (okx : okOpd N x = true) (oky : okOpd N y = true) : OpRuns P N o (.eqv neg d x y) :=
 .pure fun B μ f h a w hr fr v h' e => by
  simp only [aop,Option.map_eq_some_iff,Prod.mk.injEq] at e
  obtain ⟨b,hb,rfl,rfl⟩ := e
  refine ⟨rfl,_,?_,.bool⟩
  have rx := opd_rel fr okx
  have ry := opd_rel fr oky
  suffices hg : (eqGuard (if neg then .neq else .eql) t x y (a.eval x) (a.eval y)).run P w = .ok () w ∧ (Op.equal t (a.eval x) (a.eval y)).run P w = .ok b w ∧
    (∀ k n,a.eval x ≠ .int k n) ∧ (∀ s,a.eval x ≠ .string s) ∧ (∀ k n,a.eval x ≠ .float k n) ∧ (∀ k n m,a.eval x ≠ .complex k n m) by
   obtain ⟨g1,g2,g3,g4,g5,g6⟩ := hg
   obtain ⟨e1,e2⟩ := binOp_eqv (P := P) g3 g4 g5 g6 g2
   simp only [execOp,ho,Sem.run_bind,g1,Result.andThen_ok]
   cases neg
   ·simp only [Bool.false_eq_true,if_false,e1,Result.andThen_ok,Sem.run_pure]
   ·simp only [if_true,e2,Result.andThen_ok,Sem.run_pure]
  have hsp := eqOk_spec hok
  by_cases hpp : d = .pp
  ·subst hpp
   obtain ⟨e,sz,he,hs⟩ := hsp
   have hz := fun w => run_sizeOf' hs w
   rw [aeq_pp] at hb
   unfold aeqP at hb
   unfold Op.equal Op.maxDepth
   obtain ⟨D,hD⟩ : ∃ D,10000 = D + 1 := ⟨9999,rfl⟩
   rw [hD]; clear hD
   generalize hX : a.eval x = X at rx ⊢
   generalize hY : a.eval y = Y at ry ⊢
   split at hb
   ·rename_i h1 h2
    rw [h1] at rx; rw [h2] at ry
    cases hb
    cases rx; cases ry <;> exact ⟨by cases neg <;> first | rfl | simp [eqGuard_at_pointer],by simp [Op.equalIn,run_und he],by simp,by simp,by simp,by simp⟩
   ·rename_i h1 h2
    rw [h1] at rx; rw [h2] at ry
    cases hb
    cases rx; cases ry; exact ⟨by cases neg <;> first | rfl | simp [eqGuard_at_pointer],by simp [Op.equalIn,run_und he],by simp,by simp,by simp,by simp⟩
   ·rename_i a1 a2 h1 h2
    rw [h1] at rx; rw [h2] at ry
    split at hb
    ·rename_i hc
     simp only [Option.some.injEq] at hb
     subst hb
     obtain ⟨hbk,hs1,hs2⟩ := hc
     cases rx with | ptr e1 =>
     cases ry with | ptr e2 =>
     dsimp only at hbk
     subst hbk
     rw [e1] at e2; cases e2
     refine ⟨by cases neg <;> first | rfl | simp [eqGuard_at_pointer],?_,by simp,by simp,by simp,by simp⟩
     simp only [Op.equalIn,run_und he,hz,sameAddr,Sem.run_bind,Result.andThen_ok,ne_eq,Nat.add_one_ne_zero,not_false_eq_true,if_true,beq_self_eq_true,Sem.run_pure,addr_beq,decide_true,Nat.succ_ne_zero]
    ·cases hb
   ·cases hb
  unfold aeq at hb
  unfold Op.equal Op.maxDepth
  obtain ⟨D,hD⟩ : ∃ D,10000 = D + 1 := ⟨9999,rfl⟩
  rw [hD]; clear hD
  split at hb
  case h_17 => cases hb
  case h_14 => exact absurd rfl hpp
  case h_15 => exact absurd rfl hpp
  case h_16 => exact absurd rfl hpp
  all_goals (rename_i h1 h2; rw [h1] at rx; rw [h2] at ry; cases hb; dsimp only at hsp)
  all_goals (generalize hX : a.eval x = X at rx ⊢; generalize hY : a.eval y = Y at ry ⊢)
  case h_11 =>
   cases rx; cases ry
   refine ⟨?_,?_,by simp,by simp,by simp,by simp⟩
   ·rcases hsp.2 with e | e <;> subst e
    ·rw [eqGuard_nil_constL]; rfl
    ·rw [eqGuard_nil_constR]; rfl
   ·obtain ⟨ms,he⟩ := hsp.1
    simp [Op.equalIn,run_und he]
  all_goals (cases rx <;> cases ry <;> refine ⟨?_,?_,by simp,by simp,by simp,by simp⟩)
  all_goals first
   | (cases neg <;> first | rfl | (simp [eqGuard_at_bool,eqGuard_at_pointer,eqGuard_at_slice,eqGuard_at_map,eqGuard_at_func,eqGuard_at_nilFunc,eqGuard_at_iface,eqGuard_nil_iface]; done))
   | (simp [Op.equalIn,run_und hsp]; done)
   | (obtain ⟨e,he⟩ := hsp; simp [Op.equalIn,run_und he]; done)
   | (obtain ⟨k,e,he⟩ := hsp; simp [Op.equalIn,run_und he]; done)
   | (obtain ⟨k,e,u,he⟩ := hsp; simp [Op.equalIn,run_und he]; done)
   | (obtain ⟨⟨ms,he⟩,_⟩ := hsp; simp [Op.equalIn,run_und he]; done)
end
end Go.Ab
