/-
  Contracts.
-/
import Derived.Test.YtikpgnkegnedoaaGreatAbStep
import Derived.Test.YtikpgnkegnedoaaGreatProg
import Derived.IntWalk
import Derived.KernelRfl
set_option linter.unusedSimpArgs false
set_option linter.unusedVariables false
set_option linter.unusedSectionVars false
namespace Go.Proofs.YtikpgnkegnedoaaGreat.str
open Go Go.Ab Go.Proofs Go.RowKit
variable [Inhabited TabBox]
set_option maxRecDepth 100000
attribute [local simp] s_ops s_seq s_cond s_cond_t s_cond_f s_block s_exit s_ret s_skip s_then_n s_then_n' s_then_e s_then_e' s_then_r s_then_r' s_block_n s_block_r s_block_e s_post_r s_post_n s_res0 s_res1 s_res2 s_res3 s_res4 s_nil s_cons s_guard s_guard_tt s_guard_ff s_guard_tf s_guard_ft s_guard_u s_call s_kL s_put s_put0 s_set s_tmp s_const s_func s_glob s_init s_mkF s_mkF0 s_mv s_bin s_pick s_op aop oK_some oK_none bK_some bK_none b_add b_sub b_mul b_quo b_rem b_and b_or b_xor b_andNot b_shl b_shr b_eql b_neq b_lss b_leq b_gtr b_geq b_sadd b_seql b_sneq b_slss b_sleq b_sgtr b_sgeq s_draw s_drawT s_tK s_tT s_tF s_tB s_tR s_stage s_stage0 s_kW s_kR s_rc0 s_rc s_rcg rK_some rK_none rG_b rG_u s_callv s_callv_f s_nextM s_postR_r s_postR_n s_resA0 s_resAt s_resAc s_resC s_tup0 s_tup1 s_tup2 s_tup3
theorem mix : Tryz.prog.follows .mixedOrders = true := by kernel_rfl
structure GF : Prop where
theorem gf [x : Nonempty GF] : GF := x.elim id
def bs (l : List UInt8) : ByteArray := ⟨l.toArray⟩
theorem bs_size (l : List UInt8) : (bs l).size = l.length := by show l.toArray.size = _; simp
theorem bs_data (l : List UInt8) : (bs l).data.toList = l := by simp [bs]
theorem bs_inj {a b : List UInt8} : bs a = bs b ↔ a = b := by
  unfold bs
  rw [ByteArray.mk.injEq]
  exact ⟨fun q => List.toArray_inj q, fun q => by rw [q]⟩
theorem bs_append (a b : List UInt8) : bs a ++ bs b = bs (a ++ b) := by
  apply ByteArray.ext
  rw [ByteArray.data_append]
  simp [bs]
theorem bs_extract (a : List UInt8) (i j : Nat) : (bs a).extract i j = bs ((a.take j).drop i) := by
  apply ByteArray.ext
  rw [ByteArray.data_extract]
  simp [bs, List.extract_eq_take_drop, List.drop_take]
theorem bs_lit (l : List UInt8) : (⟨⟨l⟩⟩ : ByteArray) = bs l := rfl
theorem bs_mk (l : List UInt8) : (⟨l.toArray⟩ : ByteArray) = bs l := rfl
def eb (c : UInt8) : Value := .int .u8 (c.toNat : Int)
def ubs (l : List UInt8) : List Value := l.map eb
theorem ubs_len (l : List UInt8) : (ubs l).length = l.length := List.length_map _
theorem ubs_app (a b : List UInt8) : ubs (a ++ b) = ubs a ++ ubs b := List.map_append
theorem ubs_get {l : List UInt8} {i : Nat} (h : i < l.length) : (ubs l)[i]? = some (.int .u8 (l[i].toNat : Int)) := by
  unfold ubs
  simp only [List.getElem?_map, List.getElem?_eq_getElem h]
  rfl
theorem ubs_bel {n : Nat} {l : List UInt8} : ∀ x ∈ ubs l, VBelow n x := fun x hx => by obtain ⟨y, _, rfl⟩ := List.mem_map.1 hx; exact .int
theorem abytes_ubs : ∀ l : List UInt8, abytes (ubs l) = some l
  | [] => rfl
  | c :: l => by
    have := abytes_ubs l
    simp only [ubs, List.map_cons, eb, abytes] at this ⊢
    rw [this]
    simp
theorem cellsOf_new (h : Heap) (c : List Value) (m : BMode) (e : Nat) : (h.push (.cells c m e)).cellsOf h.n = some (c, m, e) := by simp [Heap.cellsOf, push_m]
theorem cellsOf_set (h : Heap) (b : Nat) (c : List Value) (m : BMode) (e : Nat) : (h.set b (.cells c m e)).cellsOf b = some (c, m, e) := by simp [Heap.cellsOf, set_m]
theorem cellsOf_ne {h : Heap} {b : Nat} (hb : ¬ b = h.n) (o : AObj) : (h.push o).cellsOf b = h.cellsOf b := by simp [Heap.cellsOf, push_m, hb]
theorem m_of_cells {h : Heap} {b : Nat} {c : List Value} {m : BMode} {e : Nat} (hb : h.cellsOf b = some (c, m, e)) : h.m b = some (.cells c m e) := by
  unfold Heap.cellsOf at hb
  split at hb
  · rename_i c' m' e' hx; cases hb; exact hx
  · cases hb
theorem set_same {h : Heap} {b : Nat} {o : AObj} (e : h.m b = some o) : h.set b o = h := by
  unfold Heap.set
  have : (fun b' => if b' = b then some o else h.m b') = h.m := by
    funext x
    split
    · rename_i hx; rw [hx, e]
    · rfl
  rw [this]
theorem set_push (h : Heap) (o o' : AObj) : (h.push o).set h.n o' = h.push o' := by
  unfold Heap.set Heap.push
  congr 1
  funext x
  dsimp only
  split <;> rfl
theorem set_set (h : Heap) (b : Nat) (o o' : AObj) : (h.set b o).set b o' = h.set b o' := by
  unfold Heap.set
  congr 1
  funext x
  dsimp only
  split <;> rfl
theorem abounds_lohi {L l k : Nat} {x y : IntKind} (h1 : l ≤ k) (h2 : k ≤ L) : abounds L L (some (.int x (l : Int))) (some (.int y (k : Int))) none = some (l, k, L) := by
  unfold abounds
  have e1 : abound (.int y (k : Int)) L = some k := by unfold abound; simp only; rw [if_pos ⟨by omega, by omega⟩]; rfl
  have e2 : abound (.int x (l : Int)) k = some l := by unfold abound; simp only; rw [if_pos ⟨by omega, by omega⟩]; rfl
  simp [e1, e2]
theorem abounds_hi {L C k : Nat} {y : IntKind} (h2 : k ≤ C) : abounds L C none (some (.int y (k : Int))) none = some (0, k, C) := by
  unfold abounds
  have e1 : abound (.int y (k : Int)) C = some k := by unfold abound; simp only; rw [if_pos ⟨by omega, by omega⟩]; rfl
  simp [e1]
theorem abounds_lo {L C l : Nat} {x : IntKind} (h1 : l ≤ L) (h2 : L ≤ C) : abounds L C (some (.int x (l : Int))) none none = some (l, L, C) := by
  unfold abounds
  have e2 : abound (.int x (l : Int)) L = some l := by unfold abound; simp only; rw [if_pos ⟨by omega, by omega⟩]; rfl
  simp [e2, h2]
theorem w1 (n : Nat) (h : n < 9223372036854775807) : IntKind.i64.wrap ((n : Int) + 1) = ((n + 1 : Nat) : Int) := by rw [IntWalk.i64_in _ (by omega)]; omega
theorem acut_all (l : List Value) : acut l 0 l.length = some l := by unfold acut; simp
theorem acut_full {l : List Value} {n : Nat} (h : l.length = n) : acut l 0 n = some l := by rw [← h]; exact acut_all l
theorem aput_len {c vs : List Value} {o : Nat} (h : o + vs.length ≤ c.length) : (aput c o vs).length = c.length := by
  unfold aput
  simp
  omega
def sv (l : List UInt8) : Value := .string (bs l)
variable [Nonempty GF]

def c100 : AC := .seq (.ops [⟨some 2,none,.mv (.tmp 0)⟩,⟨some 3,none,.nilck (.tmp 2)⟩,⟨some 4,none,.fAddr 0 (.tmp 3)⟩,⟨some 5,none,.load none (.tmp 4)⟩,⟨some 6,none,.eqv false .ptr (.tmp 5) (.const (.pointer none))⟩]) (.cond (.tmp 6) (.ops [⟨some 7,none,.mv (.tmp 0)⟩,⟨some 8,none,.mv (.tmp 0)⟩,⟨some 9,none,.uptr (.tmp 8)⟩,⟨some 10,none,.noesc (.tmp 9)⟩,⟨some 11,none,.ptru 150 2 (.tmp 10)⟩,⟨some 12,none,.nilck (.tmp 7)⟩,⟨some 13,none,.fAddr 0 (.tmp 12)⟩,⟨none,none,.store 1 (.tmp 13) (.tmp 11)⟩]) (.seq (.ops [⟨some 14,none,.mv (.tmp 0)⟩,⟨some 15,none,.nilck (.tmp 14)⟩,⟨some 16,none,.fAddr 0 (.tmp 15)⟩,⟨some 17,none,.load none (.tmp 16)⟩,⟨some 18,none,.mv (.tmp 0)⟩,⟨some 19,none,.eqv true .pp (.tmp 17) (.tmp 18)⟩]) (.cond (.tmp 19) .refuse .skip)))
theorem k100 : compF Tryz.prog Tryz.f100 = some (c100, []) := by kernel_rfl
theorem n100 : Tryz.f100.ntmps = 20 := by kernel_rfl
def c79 : AC := .seq (.ops [⟨some 2,none,.mv (.const (.string ⟨⟨[]⟩⟩))⟩]) (.seq (.draw [([⟨some 3,none,.mv (.tmp 0)⟩,⟨some 4,none,.nilck (.tmp 3)⟩,⟨some 5,none,.fAddr 1 (.tmp 4)⟩,⟨some 6,none,.load none (.tmp 5)⟩,⟨some 7,none,.sdata (.tmp 6)⟩,⟨some 8,none,.mv (.tmp 0)⟩,⟨some 9,none,.nilck (.tmp 8)⟩,⟨some 10,none,.fAddr 1 (.tmp 9)⟩,⟨some 11,none,.load none (.tmp 10)⟩,⟨some 12,none,.lenS false (.tmp 11)⟩],[⟨some 13,none,.ustr 5 (.tmp 7) (.tmp 12)⟩],[]),([⟨some 2,none,.mv (.tmp 13)⟩],[],[])]) .ret)
theorem k79 : compF Tryz.prog Tryz.f79 = some (c79, [2]) := by kernel_rfl
theorem n79 : Tryz.f79.ntmps = 14 := by kernel_rfl
abbrev BT : Nat := 150
theorem copyCheck_ok (x : Nat) (ad bv : Value) (h : Heap) (hx : h.cellsOf x = some ([ad, bv], .exT BT, 1)) (had : ad = .pointer none ∨ ad = .pointer (some ⟨x, 0, none⟩)) (hbv : VBelow h.n bv) :
    ACalls Tryz.prog 100 [.pointer (some ⟨x, 0, none⟩)] h fun v h' => v = .tuple #[] ∧ h' = h.set x (.cells [.pointer (some ⟨x, 0, none⟩), bv] (.exT BT) 1) := by
  refine acalls_of mix Tryz.func100 k100 n100 (by simp) fun hcl hb => ?_
  have hxn := cellsOf_lt hcl hx
  rcases had with rfl | rfl
  · have hp : aput [.pointer none, bv] 0 [.pointer (some ⟨x, 0, none⟩)] = [.pointer (some ⟨x, 0, none⟩), bv] := rfl
    simp [c100, hx, apart, aeq, mcells, hp]
  · have hs := set_same (m_of_cells hx)
    simp [c100, hx, apart, aeq, aun, hs]
def c107_3 : AC := .seq (.ops [⟨some 66,none,.bin .lss (.tmp 65) (.tmp 64)⟩]) (.seq (.cond (.tmp 66) .skip (.exit 3)) (.seq (.block 4 (.seq (.ops [⟨some 67,none,.iAddrS 1 (.tmp 63) (.tmp 65)⟩,⟨some 68,none,.load none (.tmp 67)⟩,⟨some 10,none,.mv (.tmp 68)⟩]) (.seq (.ops [⟨some 69,none,.mv (.tmp 1)⟩,⟨some 70,none,.call 90 [.tmp 8,.tmp 69]⟩]) (.ops [⟨some 71,none,.mv (.tmp 10)⟩,⟨some 72,none,.call 90 [.tmp 8,.tmp 71]⟩])))) (.ops [⟨some 73,none,.bin .add (.tmp 65) (.const (.int .i64 1))⟩,⟨some 65,none,.mv (.tmp 73)⟩])))
def c107_1 : AC := .seq (.ops [⟨some 42,none,.bin .lss (.tmp 41) (.tmp 40)⟩]) (.seq (.cond (.tmp 42) .skip (.exit 1)) (.seq (.block 2 (.seq (.ops [⟨some 43,none,.iAddrS 1 (.tmp 39) (.tmp 41)⟩,⟨some 44,none,.load none (.tmp 43)⟩,⟨some 7,none,.mv (.tmp 44)⟩]) (.seq (.seq (.ops [⟨some 45,none,.mv (.tmp 7)⟩,⟨some 46,none,.lenS true (.tmp 45)⟩,⟨some 47,none,.mv (.tmp 5)⟩,⟨some 48,none,.bin .sub (.const (.int .i64 9223372036854775807)) (.tmp 47)⟩,⟨some 49,none,.bin .gtr (.tmp 46) (.tmp 48)⟩]) (.cond (.tmp 49) (.ops [⟨some 50,none,.mkI 9 (.const (.string ⟨⟨[115,116,114,105,110,103,115,58,32,74,111,105,110,32,111,117,116,112,117,116,32,108,101,110,103,116,104,32,111,118,101,114,102,108,111,119]⟩⟩))⟩,⟨none,none,.bad⟩]) .skip)) (.ops [⟨some 51,none,.mv (.tmp 5)⟩,⟨some 52,none,.mv (.tmp 7)⟩,⟨some 53,none,.lenS true (.tmp 52)⟩,⟨some 54,none,.bin .add (.tmp 51) (.tmp 53)⟩,⟨some 5,none,.mv (.tmp 54)⟩])))) (.ops [⟨some 55,none,.bin .add (.tmp 41) (.const (.int .i64 1))⟩,⟨some 41,none,.mv (.tmp 55)⟩])))
def c107 : AC := .seq (.ops [⟨some 4,none,.mv (.const (.string ⟨⟨[]⟩⟩))⟩]) (.seq (.seq (.ops [⟨some 11,none,.mv (.tmp 0)⟩,⟨some 12,none,.lenS false (.tmp 11)⟩]) (.block 0 (.seq (.ops [⟨some 14,none,.bin .eql (.tmp 12) (.const (.int .i64 0))⟩,⟨some 13,none,.mv (.tmp 14)⟩]) (.cond (.tmp 13) (.seq (.ops [⟨some 4,none,.mv (.const (.string ⟨⟨[]⟩⟩))⟩]) .ret) (.seq (.ops [⟨some 16,none,.bin .eql (.tmp 12) (.const (.int .i64 1))⟩,⟨some 15,none,.mv (.tmp 16)⟩]) (.cond (.tmp 15) (.seq (.ops [⟨some 17,none,.mv (.tmp 0)⟩,⟨some 18,none,.iAddrS 1 (.tmp 17) (.const (.int .i64 0))⟩,⟨some 19,none,.load none (.tmp 18)⟩,⟨some 4,none,.mv (.tmp 19)⟩]) .ret) .skip)))))) (.seq (.ops [⟨some 5,none,.mv (.const (.int .i64 0))⟩]) (.seq (.seq (.ops [⟨some 20,none,.mv (.tmp 1)⟩,⟨some 21,none,.lenS true (.tmp 20)⟩,⟨some 22,none,.bin .gtr (.tmp 21) (.const (.int .i64 0))⟩]) (.cond (.tmp 22) (.seq (.seq (.ops [⟨some 23,none,.mv (.tmp 1)⟩,⟨some 24,none,.lenS true (.tmp 23)⟩,⟨some 25,none,.mv (.tmp 0)⟩,⟨some 26,none,.lenS false (.tmp 25)⟩,⟨some 27,none,.bin .sub (.tmp 26) (.const (.int .i64 1))⟩,⟨some 28,none,.bin .quo (.const (.int .i64 9223372036854775807)) (.tmp 27)⟩,⟨some 29,none,.bin .geq (.tmp 24) (.tmp 28)⟩]) (.cond (.tmp 29) (.ops [⟨some 30,none,.mkI 9 (.const (.string ⟨⟨[115,116,114,105,110,103,115,58,32,74,111,105,110,32,111,117,116,112,117,116,32,108,101,110,103,116,104,32,111,118,101,114,102,108,111,119]⟩⟩))⟩,⟨none,none,.bad⟩]) .skip)) (.ops [⟨some 31,none,.mv (.tmp 5)⟩,⟨some 32,none,.mv (.tmp 1)⟩,⟨some 33,none,.lenS true (.tmp 32)⟩,⟨some 34,none,.mv (.tmp 0)⟩,⟨some 35,none,.lenS false (.tmp 34)⟩,⟨some 36,none,.bin .sub (.tmp 35) (.const (.int .i64 1))⟩,⟨some 37,none,.bin .mul (.tmp 33) (.tmp 36)⟩,⟨some 38,none,.bin .add (.tmp 31) (.tmp 37)⟩,⟨some 5,none,.mv (.tmp 38)⟩])) .skip)) (.seq (.seq (.ops [⟨some 39,none,.mv (.tmp 0)⟩,⟨some 40,none,.lenS false (.tmp 39)⟩,⟨some 41,none,.mv (.const (.int .i64 0))⟩]) (.block 1 (.loop c107_1))) (.seq (.ops [⟨some 8,none,.allocT 150 [.pointer none,.slice none 0 0]⟩]) (.seq (.ops [⟨some 56,none,.mv (.tmp 5)⟩,⟨some 57,none,.call 89 [.tmp 8,.tmp 56]⟩]) (.seq (.ops [⟨some 58,none,.mv (.tmp 0)⟩,⟨some 59,none,.iAddrS 1 (.tmp 58) (.const (.int .i64 0))⟩,⟨some 60,none,.load none (.tmp 59)⟩,⟨some 61,none,.call 90 [.tmp 8,.tmp 60]⟩]) (.seq (.seq (.ops [⟨some 62,none,.mv (.tmp 0)⟩,⟨some 63,none,.slV 1 (.tmp 62) (some (.const (.int .i64 1))) none none⟩,⟨some 64,none,.lenS false (.tmp 63)⟩,⟨some 65,none,.mv (.const (.int .i64 0))⟩]) (.block 3 (.loop c107_3))) (.seq (.ops [⟨some 74,none,.call 79 [.tmp 8]⟩,⟨some 4,none,.mv (.tmp 74)⟩]) .ret)))))))))
theorem k107 : compF Tryz.prog Tryz.f107 = some (c107, [4]) := by kernel_rfl
theorem n107 : Tryz.f107.ntmps = 75 := by kernel_rfl
def zl (k : IntKind) (n : Nat) : List Value := List.replicate n (.int k 0)
theorem zl_len (k : IntKind) (n : Nat) : (zl k n).length = n := List.length_replicate
structure GE : Prop where
end Go.Proofs.YtikpgnkegnedoaaGreat.str

