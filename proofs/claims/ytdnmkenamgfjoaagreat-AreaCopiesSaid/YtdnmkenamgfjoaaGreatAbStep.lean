/-
 Ab: how a turned body is gone through by simp: rules for each form of code but loops; nothing is rewritten inside what comes later.
-/
import Derived.Test.YtdnmkenamgfjoaaGreatAbUse
set_option linter.unusedSimpArgs false
set_option linter.unusedVariables false
namespace Go.Ab
set_option linter.unusedSectionVars false
variable [Inhabited TabBox]
open Go.RowKit
theorem nr {α : Sort _} {a b : α} (h : a = b) : a = b := h
theorem aidx_of {k : IntKind} {i n : Nat} (h : i < n) : aidx (.int k i) n = some i := by
 unfold aidx
 simp only
 rw [if_pos ⟨by omega,by omega⟩]
 rfl
theorem vb_tuple2 {n : Nat} {a b : Value} (ha : VBelow n a) (hb : VBelow n b) : VBelow n (.tuple #[a,b]) := .tuple fun i hi => by
 match i,hi with
 | 0,_ => exact ha
 | 1,_ => exact hb
theorem vb_slice {n b o l c : Nat} (h : b < n) : VBelow n (.slice (some ⟨b,o,none⟩) l c) := .slice h
def oK (o : Option (Value × Heap)) (K : Value → Heap → Prop) : Prop := match o with | some (v,h) => K v h | none => False
def bK (o : Option Value) (h : Heap) (K : Value → Heap → Prop) : Prop := match o with | some v => K v h | none => False
theorem oK_some (v : Value) (h : Heap) (K : Value → Heap → Prop) : oK (some (v,h)) K = K v h := nr rfl
theorem oK_none (K : Value → Heap → Prop) : oK none K = False := nr rfl
theorem bK_some (v : Value) (h : Heap) (K : Value → Heap → Prop) : bK (some v) h K = K v h := nr rfl
theorem bK_none (h : Heap) (K : Value → Heap → Prop) : bK none h K = False := nr rfl
section
variable (k : IntKind) (a b : Int) (s t : ByteArray)
theorem b_add : abin .add (.int k a) (.int k b) = some (.int k (k.wrap (a + b))) := by simp [abin]
theorem b_sub : abin .sub (.int k a) (.int k b) = some (.int k (k.wrap (a - b))) := by simp [abin]
theorem b_mul : abin .mul (.int k a) (.int k b) = some (.int k (k.wrap (a * b))) := by simp [abin]
theorem b_quo : abin .quo (.int k a) (.int k b) = if b ≠ 0 then some (.int k (k.wrap (a.tdiv b))) else none := by simp [abin]
theorem b_rem : abin .rem (.int k a) (.int k b) = if b ≠ 0 then some (.int k (a.tmod b)) else none := by simp [abin]
theorem b_and : abin .and (.int k a) (.int k b) = some (.int k (abits .and k a b)) := by simp [abin]
theorem b_or : abin .or (.int k a) (.int k b) = some (.int k (abits .or k a b)) := by simp [abin]
theorem b_xor : abin .xor (.int k a) (.int k b) = some (.int k (abits .xor k a b)) := by simp [abin]
theorem b_andNot : abin .andNot (.int k a) (.int k b) = some (.int k (abits .andNot k a b)) := by simp [abin]
theorem b_shl (k' : IntKind) : abin .shl (.int k a) (.int k' b) = if 0 ≤ b then some (.int k (k.wrap (a * 2 ^ min b.toNat k.bits))) else none := nr rfl
theorem b_shr (k' : IntKind) : abin .shr (.int k a) (.int k' b) = if 0 ≤ b then some (.int k (a.fdiv (2 ^ min b.toNat k.bits))) else none := nr rfl
theorem b_eql : abin .eql (.int k a) (.int k b) = some (.bool (decide (a = b))) := by simp [abin]
theorem b_neq : abin .neq (.int k a) (.int k b) = some (.bool (!decide (a = b))) := by simp [abin]
theorem b_lss : abin .lss (.int k a) (.int k b) = some (.bool (decide (a < b))) := by simp [abin]
theorem b_leq : abin .leq (.int k a) (.int k b) = some (.bool (decide (a ≤ b))) := by simp [abin]
theorem b_gtr : abin .gtr (.int k a) (.int k b) = some (.bool (decide (b < a))) := by simp [abin]
theorem b_geq : abin .geq (.int k a) (.int k b) = some (.bool (decide (b ≤ a))) := by simp [abin]
theorem b_sadd : abin .add (.string s) (.string t) = if s.size + t.size ≤ 9223372036854775807 then some (.string (s ++ t)) else none := nr rfl
theorem b_seql : abin .eql (.string s) (.string t) = some (.bool (decide (s = t))) := nr rfl
theorem b_sneq : abin .neq (.string s) (.string t) = some (.bool (!decide (s = t))) := nr rfl
theorem b_slss : abin .lss (.string s) (.string t) = some (.bool (strLess s t)) := nr rfl
theorem b_sleq : abin .leq (.string s) (.string t) = some (.bool (strLess s t || decide (s = t))) := nr rfl
theorem b_sgtr : abin .gtr (.string s) (.string t) = some (.bool (!(strLess s t || decide (s = t)))) := nr rfl
theorem b_sgeq : abin .geq (.string s) (.string t) = some (.bool (!strLess s t)) := nr rfl
end
def kL (P : Program) (d : Option Nat) (r : List AOper) (f : AF) (K : AF → Heap → Prop) : Value → Heap → Prop := fun v h => awpL P r (fput f d v) h K
theorem s_kL (P : Program) (d : Option Nat) (r : List AOper) (f : AF) (K : AF → Heap → Prop) (v : Value) (h : Heap) : kL P d r f K v h = awpL P r (fput f d v) h K := nr rfl
def tK (P : Program) (t : DT) (K : AF → Heap → Prop) : AF → Heap → Prop := fun f h => awpT P true t f h K
def tR (P : Program) (rc e : List AOper) (t : DT) (K : AF → Heap → Prop) : AF → Heap → Prop := fun f h => arecheck rc f h ∧ awpL P e f h (tK P t K)
def condK (P : Program) (n0 : Nat) (a b : AC) (Q : AQ) (f : AF) (h : Heap) (v : Value) : Prop := match v with
 | .bool t => (t = true → awp P n0 a Q f h) ∧ (t = false → awp P n0 b Q f h)
 | _ => False
def guardK (P : Program) (d : Option Nat) (t : Nat) (want : Bool) (k : AK) (r : List AOper) (f : AF) (h : Heap) (K : AF → Heap → Prop) (v : Value) : Prop := match v with
 | .bool b => (b = want → aopK P k (fset f t (.bool want)) h (kL P d r (fset f t (.bool want)) K)) ∧
    (b = !want → awpL P r (fput (fset f t (.bool !want)) d (.tuple #[])) h K)
 | .tuple _ => awpL P r (fput f d (.tuple #[])) h K
 | _ => False
section
variable (P : Program) (n0 : Nat) (Q : AQ) (f : AF) (h : Heap)
theorem s_ops (l : List AOper) : awp P n0 (.ops l) Q f h = awpL P l f h (Q .normal) := nr rfl
theorem s_drawT (e t) : awp P n0 (.drawT e t) Q f h = awpL P e f h (tK P t (Q .normal)) := nr rfl
theorem s_draw (st) : awp P n0 (.draw st) Q f h = awpD P st f h (Q .normal) := nr rfl
theorem s_seq (a b : AC) : awp P n0 (.seq a b) Q f h = awp P n0 a (athen (awp P n0 b Q) Q) f h := nr rfl
theorem s_cond (c : Operand) (a b : AC) : awp P n0 (.cond c a b) Q f h = condK P n0 a b Q f h (aev f c) := nr rfl
theorem s_cond_t (a b : AC) : condK P n0 a b Q f h (.bool true) = awp P n0 a Q f h := by simp [condK]
theorem s_cond_f (a b : AC) : condK P n0 a b Q f h (.bool false) = awp P n0 b Q f h := by simp [condK]
theorem s_block (id : Nat) (c : AC) : awp P n0 (.block id c) Q f h = awp P n0 c (ablock id Q) f h := nr rfl
theorem s_exit (id : Nat) : awp P n0 (.exit id) Q f h = Q (.exit id) f h := nr rfl
theorem s_ret : awp P n0 .ret Q f h = Q .ret f h := nr rfl
theorem s_skip : awp P n0 .skip Q f h = Q .normal f h := nr rfl
variable (K : AF → Heap → Prop)
theorem s_then_n : athen K Q .normal f h = K f h := nr rfl
theorem s_then_n' : athen K Q .normal = K := nr rfl
theorem s_then_e (id : Nat) : athen K Q (.exit id) f h = Q (.exit id) f h := nr rfl
theorem s_then_e' (id : Nat) : athen K Q (.exit id) = Q (.exit id) := nr rfl
theorem s_then_r : athen K Q .ret f h = Q .ret f h := nr rfl
theorem s_then_r' : athen K Q .ret = Q .ret := nr rfl
theorem s_block_n (id : Nat) : ablock id Q .normal = Q .normal := nr rfl
theorem s_block_r (id : Nat) : ablock id Q .ret = Q .ret := nr rfl
theorem s_block_e (id id' : Nat) : ablock id Q (.exit id') = if id' = id then Q .normal else Q (.exit id') := nr rfl
theorem s_post_r (rs : List Nat) (R : Value → Heap → Prop) : apost rs R .ret f h = R (aresults rs f) h := nr rfl
theorem s_post_n (rs : List Nat) (R : Value → Heap → Prop) : apost rs R .normal f h = R (aresults rs f) h := nr rfl
theorem s_res1 (t : Nat) : aresults [t] f = f t := nr rfl
theorem s_res0 : aresults [] f = .tuple #[] := nr rfl
theorem s_res2 (t u : Nat) : aresults [t,u] f = .tuple #[f t,f u] := nr rfl
theorem s_res3 (t u v : Nat) : aresults [t,u,v] f = .tuple #[f t,f u,f v] := nr rfl
theorem s_res4 (t u v w : Nat) : aresults [t,u,v,w] f = .tuple #[f t,f u,f v,f w] := nr rfl
theorem s_nil : awpL P [] f h K = K f h := nr rfl
theorem s_cons (d : Option Nat) (k : AK) (r : List AOper) : awpL P (⟨d,none,k⟩ :: r) f h K = aopK P k f h (kL P d r f K) := nr rfl
theorem s_guard (d : Option Nat) (t : Nat) (want : Bool) (k : AK) (r : List AOper) : awpL P (⟨d,some (t,want),k⟩ :: r) f h K = guardK P d t want k r f h K (f t) := nr rfl
theorem s_guard_tt (d : Option Nat) (t : Nat) (k : AK) (r : List AOper) : guardK P d t true k r f h K (.bool true) = aopK P k (fset f t (.bool true)) h (kL P d r (fset f t (.bool true)) K) := by
 simp [guardK]
theorem s_guard_ff (d : Option Nat) (t : Nat) (k : AK) (r : List AOper) : guardK P d t false k r f h K (.bool false) = aopK P k (fset f t (.bool false)) h (kL P d r (fset f t (.bool false)) K) := by
 simp [guardK]
theorem s_guard_tf (d : Option Nat) (t : Nat) (k : AK) (r : List AOper) : guardK P d t true k r f h K (.bool false) = awpL P r (fput (fset f t (.bool false)) d (.tuple #[])) h K := by
 simp [guardK]
theorem s_guard_ft (d : Option Nat) (t : Nat) (k : AK) (r : List AOper) : guardK P d t false k r f h K (.bool true) = awpL P r (fput (fset f t (.bool true)) d (.tuple #[])) h K := by
 simp [guardK]
theorem s_guard_u (d : Option Nat) (t : Nat) (want : Bool) (k : AK) (r : List AOper) (vs) : guardK P d t want k r f h K (.tuple vs) = awpL P r (fput f d (.tuple #[])) h K := nr rfl
theorem s_call (K : Value → Heap → Prop) (g : FuncId) (args : List Operand) : aopK P (.call g args) f h K = ACalls P g (args.map (aev f)) h K := nr rfl
theorem s_put (d : Nat) (v : Value) (t : Nat) : fput f (some d) v t = if t = d then v else f t := nr rfl
theorem s_put0 (v : Value) : fput f none v = f := nr rfl
theorem s_set (d : Nat) (v : Value) (t : Nat) : fset f d v t = if t = d then v else f t := nr rfl
theorem s_tmp (t : Nat) : aev f (.tmp t) = f t := nr rfl
theorem s_const (v : Value) : aev f (.const v) = v := nr rfl
theorem s_func (g : FuncId) : aev f (.func g) = .func (.func g) #[] #[] := nr rfl
theorem s_glob (g : Nat) : aev f (.global g) = .complex .f64 g 0 := nr rfl
theorem s_init (args : List Value) (i : Nat) : ainit args i = args.getD i (.tuple #[]) := nr rfl
theorem s_mkF (t : Nat) (v : Value) (l : List (Nat × Value)) (i : Nat) : mkF ((t,v) :: l) i = if i = t then v else mkF l i := nr rfl
theorem s_mkF0 (i : Nat) : mkF [] i = unk := nr rfl
theorem s_mv (K : Value → Heap → Prop) (x : Operand) : aopK P (.mv x) f h K = K (aev f x) h := nr rfl
theorem s_bin (K : Value → Heap → Prop) (op : BinOp) (x y : Operand) : aopK P (.bin op x y) f h K = bK (abin op (aev f x) (aev f y)) h K := by
 show (match (abin op (aev f x) (aev f y)).map (fun v => (v,h)) with | some (v,h') => K v h' | none => False) = _
 cases abin op (aev f x) (aev f y) <;> rfl
theorem s_pick (K : Value → Heap → Prop) (c a b : Operand) : aopK P (.pick c a b) f h K = (match aev f c with | .bool t => K (if t then aev f a else aev f b) h | _ => False) := by
 show (match (match aev f c with | .bool t => some (if t then aev f a else aev f b,h) | _ => none) with | some (v,h') => K v h' | none => False) = _
 cases aev f c <;> rfl
theorem s_op (k : AK) (K : Value → Heap → Prop) (hk : match k with | .call _ _ | .callv _ _ | .nextM _ => False | _ => True) : aopK P k f h K = oK (aop k f h) K := by
 cases k <;> first | exact hk.elim | rfl
end
def callvK (P : Program) (h : Heap) (K : Value → Heap → Prop) (args : List Value) : Value → Prop
 | .func (.func g) first cap => callOk P g = true ∧ ACalls P g (first.toList ++ args ++ cap.toList) h K
 | _ => False
theorem s_callv (P : Program) (f : AF) (h : Heap) (x : Operand) (args : List Operand) (K : Value → Heap → Prop) : aopK P (.callv x args) f h K = callvK P h K (args.map (aev f)) (aev f x) := nr rfl
theorem s_callv_f (P : Program) (h : Heap) (K : Value → Heap → Prop) (args : List Value) (g : FuncId) (first cap : Array Value) :
  callvK P h K args (.func (.func g) first cap) = (callOk P g = true ∧ ACalls P g (first.toList ++ args ++ cap.toList) h K) := nr rfl
theorem s_nextM (P : Program) (f : AF) (h : Heap) (it : Operand) (K : Value → Heap → Prop) : aopK P (.nextM it) f h K = nextK (aev f it) h K := nr rfl
def resC (r : List RV) (f : AF) (h : Heap) (acc : List Value) (R : Value → Heap → Prop) : Option (Value × Heap) → Prop
 | some (v,_) => resA r f h (v :: acc) R
 | none => False
section
variable (f : AF) (h : Heap) (acc : List Value) (R : Value → Heap → Prop) (r : List RV)
theorem s_postR_r : apostR r R .ret f h = resA r f h [] R := nr rfl
theorem s_postR_n : apostR r R .normal f h = resA r f h [] R := nr rfl
theorem s_resA0 : resA [] f h acc R = R (tupV acc.reverse) h := nr rfl
theorem s_resAt (t : Nat) : resA (.t t :: r) f h acc R = resA r f h (f t :: acc) R := nr rfl
theorem s_resAc (a : Nat) (s : Option Nat) : resA (.c a s :: r) f h acc R = resC r f h acc R (aop (.load s (.tmp a)) f h) := nr rfl
theorem s_resC (v : Value) (h' : Heap) : resC r f h acc R (some (v,h')) = resA r f h (v :: acc) R := nr rfl
theorem s_tup1 (v : Value) : tupV [v] = v := nr rfl
theorem s_tup2 (v w : Value) : tupV [v,w] = .tuple #[v,w] := nr rfl
theorem s_tup3 (v w x : Value) : tupV [v,w,x] = .tuple #[v,w,x] := nr rfl
theorem s_tup0 : tupV [] = .tuple #[] := nr rfl
end
def kR (P : Program) (rc : List AOper) (r : List (List AOper × List AOper × List AOper)) (K : AF → Heap → Prop) : AF → Heap → Prop := fun f h => arecheck rc f h ∧ awpD P r f h K
def kW (P : Program) (w rc : List AOper) (r : List (List AOper × List AOper × List AOper)) (K : AF → Heap → Prop) : AF → Heap → Prop := fun f h => awpL P w f h (kR P rc r K)
def rK (d : Option Nat) (f : AF) (h : Heap) (o : Option (Value × Heap)) : Prop := ∃ v, o = some (v, h) ∧ ∀ d', d = some d' → f d' = v
def rG (v : Value) (want : Bool) (p : Prop) : Prop := v = .bool want → p
section
variable (P : Program) (f : AF) (h : Heap) (K : AF → Heap → Prop)
theorem s_stage (e w rc : List AOper) (r) : awpD P ((e,w,rc) :: r) f h K = awpL P e f h (kW P w rc r K) := nr rfl
theorem s_tK (t : DT) : tK P t K f h = awpT P true t f h K := nr rfl
theorem s_tT : awpT P true .nil f h K = K f h := nr rfl
theorem s_tF : awpT P false .nil f h K = True := nr rfl
theorem s_tB (b : Bool) (w : AOper) (rc e : List AOper) (t alt : DT) : awpT P b (.br w rc e t alt) f h K = (awpL P [w] f h (tR P rc e t K) ∧ awpT P false alt f h K) := awpT_br b
theorem s_tR (rc e : List AOper) (t : DT) : tR P rc e t K f h = (arecheck rc f h ∧ awpL P e f h (tK P t K)) := nr rfl
theorem s_stage0 : awpD P [] f h K = K f h := nr rfl
theorem s_kW (w rc : List AOper) (r) : kW P w rc r K f h = awpL P w f h (kR P rc r K) := nr rfl
theorem s_kR (rc : List AOper) (r) : kR P rc r K f h = (arecheck rc f h ∧ awpD P r f h K) := nr rfl
theorem s_rc0 : arecheck [] f h = True := nr rfl
theorem s_rc (d : Option Nat) (k : AK) (r : List AOper) : arecheck (⟨d,none,k⟩ :: r) f h = (rK d f h (aop k f h) ∧ arecheck r f h) := by
 show ((True → _) ∧ _) = _
 rw [true_imp_iff]; rfl
theorem s_rcg (d : Option Nat) (t : Nat) (want : Bool) (k : AK) (r : List AOper) : arecheck (⟨d,some (t,want),k⟩ :: r) f h = (rG (f t) want (rK d f h (aop k f h)) ∧ arecheck r f h) := nr rfl
theorem rK_some (d : Nat) (v : Value) (h' : Heap) : rK (some d) f h (some (v,h')) = (h' = h ∧ f d = v) := by
 unfold rK
 apply propext
 constructor
 ·rintro ⟨v', e, hd⟩
  cases e
  exact ⟨rfl,hd d rfl⟩
 ·rintro ⟨rfl,e⟩
  exact ⟨v,rfl,fun d' q => by cases q; exact e⟩
theorem rK_none (v : Value) (h' : Heap) : rK none f h (some (v,h')) = (h' = h) := by
 unfold rK
 apply propext
 constructor
 ·rintro ⟨v', e, hd⟩
  cases e
  rfl
 ·rintro rfl
  exact ⟨v,rfl,fun d' q => by cases q⟩
theorem rG_b (b want : Bool) (p : Prop) : rG (.bool b) want p = (b = want → p) := by simp [rG]
theorem rG_u (vs) (want : Bool) (p : Prop) : rG (.tuple vs) want p = True := by simp [rG]
end
end Go.Ab
