/-
 Contracts.
-/
import Derived.Test.YtdnmkenamgfjoaaGreatAbEnter
import Derived.Test.YtdnmkenamgfjoaaGreatAbStep
import Derived.Test.YtdnmkenamgfjoaaGreatProg
import Derived.IntWalk
import Derived.KernelRfl
set_option linter.unusedSimpArgs false
set_option linter.unusedVariables false
set_option linter.unusedSectionVars false
namespace Go.Proofs.YtdnmkenamgfjoaaGreat.str
open Go Go.Ab Go.Proofs Go.RowKit
variable [Inhabited TabBox]
set_option maxRecDepth 100000
def tP (n : Nat) : Operand := .tmp n
def kI (n : Int) : Operand := .const (.int .i64 n)
def mV (d s : Nat) : AOper := ⟨some d,none,.mv (.tmp s)⟩
def oP (d : Nat) (k : AK) : AOper := ⟨some d,none,k⟩
def gP (d t : Nat) (b : Bool) (k : AK) : AOper := ⟨some d,some (t,b),k⟩
def nP (k : AK) : AOper := ⟨none,none,k⟩
def lN (x : Nat) : AK := .load none (.tmp x)
def lS (x : Nat) : AK := .lenS false (.tmp x)
def nC (x : Nat) : AK := .nilck (.tmp x)
def xR (x n : Nat) : AK := .extr (.tmp x) n
def fA (n x : Nat) : AK := .fAddr n (.tmp x)
def bT (o : BinOp) (x y : Nat) : AK := .bin o (.tmp x) (.tmp y)
def bK (o : BinOp) (x : Nat) (n : Int) : AK := .bin o (.tmp x) (.const (.int .i64 n))
def kT : Operand := .const (.bool true)
def kF : Operand := .const (.bool false)
def pT (x y : Nat) : AK := .pick (.tmp x) (.const (.bool true)) (.tmp y)
def pF (x y : Nat) : AK := .pick (.tmp x) (.tmp y) (.const (.bool false))
def iA (n x y : Nat) : AK := .iAddrS n (.tmp x) (.tmp y)
def cT (x : Nat) (a b : AC) : AC := .cond (.tmp x) a b
def sO (l : List AOper) (c : AC) : AC := .seq (.ops l) c
theorem wI {x y : Int} (h : -9223372036854775808 ≤ x ∧ x < 9223372036854775808 ∧ x = y) : IntKind.i64.wrap x = y := by
 rw [IntWalk.i64_in _ (by omega)]; omega
theorem _root_.Go.Ab.ACalls.eqK {P : Program} {f : FuncId} {a : List Value} {h g : Heap} {x : Value} {K : Value → Heap → Prop} (c : ACalls P f a h fun v h' => v = x ∧ h' = g) (k : K x g) : ACalls P f a h K := c.mono fun v h' q => by
 rw [q.1,q.2]; exact k
theorem w64n {i : Nat} (h : i + 1 < 4611686018427387904) : IntKind.i64.wrap ((i : Int) + 1) = ((i + 1 : Nat) : Int) := by
 rw [IntWalk.i64_in _ (by omega)]; omega
theorem ptrq : ∀ p,aeq .ptr (.pointer (some p)) (.pointer none) = some false := fun _ => rfl
attribute [simp] tP kI mV oP gP nP lN lS nC xR fA bT bK kT kF pT pF iA cT sO s_ops s_seq s_cond s_cond_t s_cond_f s_block s_exit s_ret s_skip s_then_n s_then_n' s_then_e s_then_e' s_then_r s_then_r' s_block_n s_block_r s_block_e s_post_r s_post_n s_res0 s_res1 s_res2 s_res3 s_res4 s_nil s_cons s_guard s_guard_tt s_guard_ff s_guard_tf s_guard_ft s_guard_u s_call s_kL s_put s_put0 s_set s_tmp s_const s_func s_glob s_init s_mkF s_mkF0 s_mv s_bin s_pick s_op aop oK_some oK_none bK_some bK_none b_add b_sub b_mul b_quo b_rem b_and b_or b_xor b_andNot b_shl b_shr b_eql b_neq b_lss b_leq b_gtr b_geq b_sadd b_seql b_sneq b_slss b_sleq b_sgtr b_sgeq s_draw s_drawT s_tK s_tT s_tF s_tB s_tR s_stage s_stage0 s_kW s_kR s_rc0 s_rc s_rcg rK_some rK_none rG_b rG_u s_callv s_callv_f s_nextM s_postR_r s_postR_n s_resA0 s_resAt s_resAc s_resC s_tup0 s_tup1 s_tup2 s_tup3
theorem mix : Tryz.prog.follows .mixedOrders = true := by kernel_rfl
structure GF : Prop where
theorem gf [x : Nonempty GF] : GF := x.elim id
def bs (l : List UInt8) : ByteArray := ⟨l.toArray⟩
theorem bs_of (s : ByteArray) : s = bs s.data.toList := by cases s; simp [bs]
theorem bs_size (l : List UInt8) : (bs l).size = l.length := by show l.toArray.size = _; simp
theorem bs_data (l : List UInt8) : (bs l).data.toList = l := by simp [bs]
theorem bs_inj {a b : List UInt8} : bs a = bs b ↔ a = b := by
 unfold bs
 rw [ByteArray.mk.injEq]
 exact ⟨fun q => List.toArray_inj q,fun q => by rw [q]⟩
theorem bs_append (a b : List UInt8) : bs a ++ bs b = bs (a ++ b) := by
 apply ByteArray.ext
 rw [ByteArray.data_append]
 simp [bs]
theorem bs_extract (a : List UInt8) (i j : Nat) : (bs a).extract i j = bs ((a.take j).drop i) := by
 apply ByteArray.ext
 rw [ByteArray.data_extract]
 simp [bs,List.extract_eq_take_drop,List.drop_take]
theorem bs_lit (l : List UInt8) : (⟨⟨l⟩⟩ : ByteArray) = bs l := rfl
theorem bs_mk (l : List UInt8) : (⟨l.toArray⟩ : ByteArray) = bs l := rfl
def eb (c : UInt8) : Value := .int .u8 (c.toNat : Int)
def ubs (l : List UInt8) : List Value := l.map eb
theorem ubs_len (l : List UInt8) : (ubs l).length = l.length := List.length_map _
theorem ubs_app (a b : List UInt8) : ubs (a ++ b) = ubs a ++ ubs b := List.map_append
theorem ubs_get {l : List UInt8} {i : Nat} (h : i < l.length) : (ubs l)[i]? = some (.int .u8 (l[i].toNat : Int)) := by
 unfold ubs
 simp only [List.getElem?_map,List.getElem?_eq_getElem h]
 rfl
theorem ubs_bel {n : Nat} {l : List UInt8} : ∀ x ∈ ubs l,VBelow n x := fun x hx => by obtain ⟨y,_,rfl⟩ := List.mem_map.1 hx; exact .int
theorem abytes_ubs : ∀ l : List UInt8,abytes (ubs l) = some l
 | [] => rfl
 | c :: l => by
   have := abytes_ubs l
   simp only [ubs,List.map_cons,eb,abytes] at this ⊢
   rw [this]
   simp
theorem cellsOf_new (h : Heap) (c : List Value) (m : BMode) (e : Nat) : (h.push (.cells c m e)).cellsOf h.n = some (c,m,e) := by simp [Heap.cellsOf,push_m]
theorem cellsOf_set (h : Heap) (b : Nat) (c : List Value) (m : BMode) (e : Nat) : (h.set b (.cells c m e)).cellsOf b = some (c,m,e) := by simp [Heap.cellsOf,set_m]
theorem cellsOf_ne {h : Heap} {b : Nat} (hb : ¬ b = h.n) (o : AObj) : (h.push o).cellsOf b = h.cellsOf b := by simp [Heap.cellsOf,push_m,hb]
theorem m_of_cells {h : Heap} {b : Nat} {c : List Value} {m : BMode} {e : Nat} (hb : h.cellsOf b = some (c,m,e)) : h.m b = some (.cells c m e) := by
 unfold Heap.cellsOf at hb
 split at hb
 ·rename_i c' m' e' hx; cases hb; exact hx
 ·cases hb
theorem set_same {h : Heap} {b : Nat} {o : AObj} (e : h.m b = some o) : h.set b o = h := by
 unfold Heap.set
 have : (fun b' => if b' = b then some o else h.m b') = h.m := by
  funext x
  split
  ·rename_i hx; rw [hx,e]
  ·rfl
 rw [this]
theorem set_push (h : Heap) (o o' : AObj) : (h.push o).set h.n o' = h.push o' := by
 unfold Heap.set Heap.push
 congr 1
 funext x
 dsimp only
 split <;> rfl
theorem set_set (h : Heap) (b : Nat) (o o' : AObj) : (h.set b o).set b o' = h.set b o' := by
 unfold Heap.set
 congr 1
 funext x
 dsimp only
 split <;> rfl
theorem abounds_lohi {L l k : Nat} {x y : IntKind} (h1 : l ≤ k) (h2 : k ≤ L) : abounds L L (some (.int x (l : Int))) (some (.int y (k : Int))) none = some (l,k,L) := by
 unfold abounds
 have e1 : abound (.int y (k : Int)) L = some k := by unfold abound; simp only; rw [if_pos ⟨by omega,by omega⟩]; rfl
 have e2 : abound (.int x (l : Int)) k = some l := by unfold abound; simp only; rw [if_pos ⟨by omega,by omega⟩]; rfl
 simp [e1,e2]
theorem abounds_hi {L C k : Nat} {y : IntKind} (h2 : k ≤ C) : abounds L C none (some (.int y (k : Int))) none = some (0,k,C) := by
 unfold abounds
 have e1 : abound (.int y (k : Int)) C = some k := by unfold abound; simp only; rw [if_pos ⟨by omega,by omega⟩]; rfl
 simp [e1]
theorem abounds_lo {L C l : Nat} {x : IntKind} (h1 : l ≤ L) (h2 : L ≤ C) : abounds L C (some (.int x (l : Int))) none none = some (l,L,C) := by
 unfold abounds
 have e2 : abound (.int x (l : Int)) L = some l := by unfold abound; simp only; rw [if_pos ⟨by omega,by omega⟩]; rfl
 simp [e2,h2]
theorem w1 (n : Nat) (h : n < 9223372036854775807) : IntKind.i64.wrap ((n : Int) + 1) = ((n + 1 : Nat) : Int) := by rw [IntWalk.i64_in _ (by omega)]; omega
theorem acut_all (l : List Value) : acut l 0 l.length = some l := by unfold acut; simp
theorem acut_full {l : List Value} {n : Nat} (h : l.length = n) : acut l 0 n = some l := by rw [← h]; exact acut_all l
theorem aput_len {c vs : List Value} {o : Nat} (h : o + vs.length ≤ c.length) : (aput c o vs).length = c.length := by
 unfold aput
 simp
 omega
def sv (l : List UInt8) : Value := .string (bs l)
variable [Nonempty GF]
def c134 : AC := sO [mV 2 0,oP 3 (nC 2),oP 4 (fA 0 3),oP 5 (lN 4),oP 6 (.eqv false .ptr (tP 5) (.const (.pointer none)))] (cT 6 (.ops [mV 7 0,mV 8 0,oP 9 (.uptr (tP 8)),oP 10 (.noesc (tP 9)),oP 11 (.ptru 183 2 (tP 10)),oP 12 (nC 7),oP 13 (fA 0 12),nP (.store 1 (tP 13) (tP 11))]) (sO [mV 14 0,oP 15 (nC 14),oP 16 (fA 0 15),oP 17 (lN 16),mV 18 0,oP 19 (.eqv true .pp (tP 17) (tP 18))] (cT 19 .refuse .skip)))
theorem k134 : compF Tryz.prog Tryz.f134 = some (c134,[]) := by kernel_rfl
theorem n134 : Tryz.f134.ntmps = 20 := by kernel_rfl
def c103 : AC := sO [oP 2 (.mv (.const (.string ⟨⟨[]⟩⟩)))] (.seq (.draw [([mV 3 0,oP 4 (nC 3),oP 5 (fA 1 4),oP 6 (lN 5),oP 7 (.sdata (tP 6)),mV 8 0,oP 9 (nC 8),oP 10 (fA 1 9),oP 11 (lN 10),oP 12 (lS 11)],[oP 13 (.ustr 5 (tP 7) (tP 12))],[]),([mV 2 13],[],[])]) .ret)
theorem k103 : compF Tryz.prog Tryz.f103 = some (c103,[2]) := by kernel_rfl
theorem n103 : Tryz.f103.ntmps = 14 := by kernel_rfl
abbrev BT : Nat := 183
theorem copyCheck_ok (x : Nat) (ad bv : Value) (h : Heap) (hx : h.cellsOf x = some ([ad,bv],.exT BT,1)) (had : ad = .pointer none ∨ ad = .pointer (some ⟨x,0,none⟩)) (hbv : VBelow h.n bv) :
  ACalls Tryz.prog 134 [.pointer (some ⟨x,0,none⟩)] h fun v h' => v = .tuple #[] ∧ h' = h.set x (.cells [.pointer (some ⟨x,0,none⟩),bv] (.exT BT) 1) := by
 refine acalls_of mix Tryz.func134 k134 n134 (by simp) fun hcl hb => ?_
 have hxn := cellsOf_lt hcl hx
 rcases had with rfl | rfl
 ·have hp : aput [.pointer none,bv] 0 [.pointer (some ⟨x,0,none⟩)] = [.pointer (some ⟨x,0,none⟩),bv] := rfl
  simp [c134,hx,apart,aeq,mcells,hp]
 ·have hs := set_same (m_of_cells hx)
  simp [c134,hx,apart,aeq,aun,hs]
def c142_3 : AC := sO [oP 66 (bT .lss 65 64)] (.seq (cT 66 .skip (.exit 3)) (.seq (.block 4 (sO [oP 67 (iA 1 63 65),oP 68 (lN 67),mV 10 68] (sO [mV 69 1,oP 70 (.call 123 [tP 8,tP 69])] (.ops [mV 71 10,oP 72 (.call 123 [tP 8,tP 71])])))) (.ops [oP 73 (bK .add 65 1),mV 65 73])))
def c142_1 : AC := sO [oP 42 (bT .lss 41 40)] (.seq (cT 42 .skip (.exit 1)) (.seq (.block 2 (sO [oP 43 (iA 1 39 41),oP 44 (lN 43),mV 7 44] (.seq (sO [mV 45 7,oP 46 (.lenS true (tP 45)),mV 47 5,oP 48 (.bin .sub (kI 9223372036854775807) (tP 47)),oP 49 (bT .gtr 46 48)] (cT 49 (.ops [oP 50 (.mkI 9 (.const (.string ⟨⟨[115,116,114,105,110,103,115,58,32,74,111,105,110,32,111,117,116,112,117,116,32,108,101,110,103,116,104,32,111,118,101,114,102,108,111,119]⟩⟩))),nP (.bad)]) .skip)) (.ops [mV 51 5,mV 52 7,oP 53 (.lenS true (tP 52)),oP 54 (bT .add 51 53),mV 5 54])))) (.ops [oP 55 (bK .add 41 1),mV 41 55])))
def c142 : AC := sO [oP 4 (.mv (.const (.string ⟨⟨[]⟩⟩)))] (.seq (sO [mV 11 0,oP 12 (lS 11)] (.block 0 (sO [oP 14 (bK .eql 12 0),mV 13 14] (cT 13 (sO [oP 4 (.mv (.const (.string ⟨⟨[]⟩⟩)))] .ret) (sO [oP 16 (bK .eql 12 1),mV 15 16] (cT 15 (sO [mV 17 0,oP 18 (.iAddrS 1 (tP 17) (kI 0)),oP 19 (lN 18),mV 4 19] .ret) .skip)))))) (sO [oP 5 (.mv (kI 0))] (.seq (sO [mV 20 1,oP 21 (.lenS true (tP 20)),oP 22 (bK .gtr 21 0)] (cT 22 (.seq (sO [mV 23 1,oP 24 (.lenS true (tP 23)),mV 25 0,oP 26 (lS 25),oP 27 (bK .sub 26 1),oP 28 (.bin .quo (kI 9223372036854775807) (tP 27)),oP 29 (bT .geq 24 28)] (cT 29 (.ops [oP 30 (.mkI 9 (.const (.string ⟨⟨[115,116,114,105,110,103,115,58,32,74,111,105,110,32,111,117,116,112,117,116,32,108,101,110,103,116,104,32,111,118,101,114,102,108,111,119]⟩⟩))),nP (.bad)]) .skip)) (.ops [mV 31 5,mV 32 1,oP 33 (.lenS true (tP 32)),mV 34 0,oP 35 (lS 34),oP 36 (bK .sub 35 1),oP 37 (bT .mul 33 36),oP 38 (bT .add 31 37),mV 5 38])) .skip)) (.seq (sO [mV 39 0,oP 40 (lS 39),oP 41 (.mv (kI 0))] (.block 1 (.loop c142_1))) (sO [oP 8 (.allocT 183 [.pointer none,.slice none 0 0])] (sO [mV 56 5,oP 57 (.call 122 [tP 8,tP 56])] (sO [mV 58 0,oP 59 (.iAddrS 1 (tP 58) (kI 0)),oP 60 (lN 59),oP 61 (.call 123 [tP 8,tP 60])] (.seq (sO [mV 62 0,oP 63 (.slV 1 (tP 62) (some (kI 1)) none none),oP 64 (lS 63),oP 65 (.mv (kI 0))] (.block 3 (.loop c142_3))) (sO [oP 74 (.call 103 [tP 8]),mV 4 74] .ret)))))))))
theorem k142 : compF Tryz.prog Tryz.f142 = some (c142,[4]) := by kernel_rfl
theorem n142 : Tryz.f142.ntmps = 75 := by kernel_rfl
def zl (k : IntKind) (n : Nat) : List Value := List.replicate n (.int k 0)
theorem zl_len (k : IntKind) (n : Nat) : (zl k n).length = n := List.length_replicate
structure GE : Prop where
end Go.Proofs.YtdnmkenamgfjoaaGreat.str
