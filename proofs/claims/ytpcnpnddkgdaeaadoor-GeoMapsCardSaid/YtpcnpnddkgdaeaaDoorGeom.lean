/-
  Contracts.
-/
import Derived.Test.YtpcnpnddkgdaeaaDoorStr
import Derived.Test.YtpcnpnddkgdaeaaDoorAbEnter
import Derived.Test.YtpcnpnddkgdaeaaDoorAbStep
import Derived.Test.YtpcnpnddkgdaeaaDoorProg
import Derived.IntWalk
import Derived.KernelRfl
set_option linter.unusedSimpArgs false
set_option linter.unusedVariables false
set_option linter.unusedSectionVars false
namespace Go.Proofs.YtpcnpnddkgdaeaaDoor.geom
open Go Go.Ab Go.Proofs Go.RowKit Go.Proofs.YtpcnpnddkgdaeaaDoor.str
variable [Inhabited TabBox]
variable [Nonempty GF]
set_option maxRecDepth 100000
attribute [local simp] s_ops s_seq s_cond s_cond_t s_cond_f s_block s_exit s_ret s_skip s_then_n s_then_n' s_then_e s_then_e' s_then_r s_then_r' s_block_n s_block_r s_block_e s_post_r s_post_n s_res0 s_res1 s_res2 s_res3 s_res4 s_nil s_cons s_guard s_guard_tt s_guard_ff s_guard_tf s_guard_ft s_guard_u s_call s_kL s_put s_put0 s_set s_tmp s_const s_func s_glob s_init s_mkF s_mkF0 s_mv s_bin s_pick s_op aop oK_some oK_none bK_some bK_none b_add b_sub b_mul b_quo b_rem b_and b_or b_xor b_andNot b_shl b_shr b_eql b_neq b_lss b_leq b_gtr b_geq b_sadd b_seql b_sneq b_slss b_sleq b_sgtr b_sgeq s_draw s_drawT s_tK s_tT s_tF s_tB s_tR s_stage s_stage0 s_kW s_kR s_rc0 s_rc s_rcg rK_some rK_none rG_b rG_u s_callv s_callv_f s_nextM s_postR_r s_postR_n s_resA0 s_resAt s_resAc s_resC s_tup0 s_tup1 s_tup2 s_tup3
abbrev cI (x : Int) : Value := .int .i64 x

theorem i64_small {n : Int} (h0 : 0 ≤ n) (h1 : n < 9223372036854775808) : IntKind.i64.wrap n = n := IntWalk.i64_in _ (by omega)
theorem cellsOf_push {h : Heap} (hc : h.Closed) {o : AObj} {b : Nat} {x} (e : h.cellsOf b = some x) : (h.push o).cellsOf b = some x :=
  cellsOf_keep (fun b o e => by rw [push_m, if_neg (by have := (hc b o e).1; omega)]; exact e) e
theorem ndig_small {u k : Nat} (h : u < 10 ^ k) (h0 : 0 < k) (hk : k ≤ 20) : ndig u ≤ k := by
  obtain ⟨j, h1, h2, h3⟩ := ndig_ex k u hk h0 h
  rw [ndig_eq (by omega) h2 h3]
  omega
theorem own_slj {h0 H : Heap} {L : List (List UInt8)} {v : Value} (o : Own h0 1 L.length (L.map sv) v H) (hL : L ≠ []) : SlJ H v L := by
  obtain ⟨hn, ⟨rfl, h1, h2, hH⟩ | ⟨nm, md, e, h1, h2, rfl, h3, hmd, hH⟩⟩ := o
  · exact absurd (by simpa using h1) hL
  · refine ⟨nm, 0, L.length, L.map sv, md, e, rfl, ?_, hmd, Nat.le_refl _, by simp, fun i hi => by simp [hi]⟩
    unfold Heap.cellsOf
    rw [hH, with1_m, if_pos rfl]
theorem itoaB_len (m : Int) (h1 : -100000000000000000 < m) (h2 : m < 100000000000000000) : 1 ≤ (itoaB m).length ∧ (itoaB m).length ≤ 18 := by
  unfold itoaB
  split
  · have := ndig_small (u := m.natAbs) (k := 17) (by omega) (by omega) (by omega)
    rw [List.length_cons, dec_len]
    omega
  · have h3 := ndig_small (u := m.toNat) (k := 17) (by omega) (by omega) (by omega)
    have h4 := (ndig_spec m.toNat (by omega)).1
    rw [dec_len]
    omega
def c76 : AC := .seq (.ops [⟨ some 2, none, .mv (.const (.bool false)) ⟩]) (.seq (.block 0 (.loop (.seq (.seq (.ops [⟨ some 3, none, .mv (.tmp 0) ⟩, ⟨ some 4, none, .lenS false (.tmp 3) ⟩, ⟨ some 5, none, .bin .gtr (.tmp 4) (.const (.int .i64 0)) ⟩]) (.cond (.tmp 5) .skip (.exit 0))) (.seq (.block 1 (.seq (.draw [([⟨ some 8, none, .mv (.tmp 0) ⟩, ⟨ some 9, none, .iAddrS 1 (.tmp 8) (.const (.int .i64 1)) ⟩, ⟨ some 10, none, .load none (.tmp 9) ⟩, ⟨ some 11, none, .mv (.tmp 0) ⟩, ⟨ some 12, none, .iAddrS 1 (.tmp 11) (.const (.int .i64 0)) ⟩, ⟨ some 13, none, .load none (.tmp 12) ⟩, ⟨ some 14, none, .bin .lss (.tmp 10) (.tmp 13) ⟩, ⟨ some 15, none, .mv (.tmp 14) ⟩, ⟨ some 16, some (15, false), .mv (.tmp 0) ⟩, ⟨ some 17, some (15, false), .iAddrS 1 (.tmp 16) (.const (.int .i64 1)) ⟩, ⟨ some 18, some (15, false), .load none (.tmp 17) ⟩, ⟨ some 19, some (15, false), .mv (.tmp 0) ⟩, ⟨ some 20, some (15, false), .iAddrS 1 (.tmp 19) (.const (.int .i64 2)) ⟩, ⟨ some 21, some (15, false), .load none (.tmp 20) ⟩, ⟨ some 22, some (15, false), .bin .gtr (.tmp 18) (.tmp 21) ⟩, ⟨ some 23, none, .pick (.tmp 15) (.const (.bool true)) (.tmp 22) ⟩], [], [])]) (.cond (.tmp 23) (.seq (.ops [⟨ some 2, none, .mv (.const (.bool false)) ⟩]) .ret) .skip))) (.ops [⟨ some 6, none, .mv (.tmp 0) ⟩, ⟨ some 7, none, .slV 1 (.tmp 6) (some (.const (.int .i64 3))) none none ⟩, ⟨ some 0, none, .mv (.tmp 7) ⟩]))))) (.seq (.ops [⟨ some 2, none, .mv (.const (.bool true)) ⟩]) .ret))
theorem k76 : compF Tryd.prog Tryd.f76 = some (c76, [2]) := by kernel_rfl
theorem n76 : Tryd.f76.ntmps = 24 := by kernel_rfl
def c46 : AC := .seq (.ops [⟨ some 1, none, .box (.tmp 0) ⟩, ⟨ some 2, none, .mv (.const (.bool false)) ⟩]) (.seq (.ops [⟨ some 3, none, .fAddr 0 (.tmp 1) ⟩, ⟨ some 4, none, .load none (.tmp 3) ⟩, ⟨ some 5, none, .fAddr 1 (.tmp 1) ⟩, ⟨ some 6, none, .load none (.tmp 5) ⟩, ⟨ some 7, none, .fAddr 2 (.tmp 1) ⟩, ⟨ some 8, none, .load none (.tmp 7) ⟩, ⟨ some 9, none, .buildS 9 [.int .i64 0, .int .i64 0, .int .i64 0, .int .i64 0, .int .i64 0, .int .i64 0, .int .i64 0, .int .i64 0, .int .i64 0] [(0, 1, .const (.int .i64 1)), (1, 1, .tmp 4), (2, 1, .const (.int .i64 8)), (3, 1, .const (.int .i64 2)), (4, 1, .tmp 6), (5, 1, .const (.int .i64 6)), (6, 1, .const (.int .i64 1)), (7, 1, .tmp 8), (8, 1, .const (.int .i64 8))] ⟩, ⟨ some 10, none, .call 76 [.tmp 9] ⟩, ⟨ some 2, none, .mv (.tmp 10) ⟩]) .ret)
theorem k46 : compF Tryd.prog Tryd.f46 = some (c46, [2]) := by kernel_rfl
theorem n46 : Tryd.f46.ntmps = 11 := by kernel_rfl
def c77 : AC := .seq (.ops [⟨ some 1, none, .box (.tmp 0) ⟩, ⟨ some 2, none, .mv (.const (.int .i64 0)) ⟩]) (.seq (.seq (.ops [⟨ some 3, none, .load (some 3) (.tmp 1) ⟩, ⟨ some 4, none, .call 46 [.tmp 3] ⟩, ⟨ some 5, none, .un .not (.tmp 4) ⟩]) (.cond (.tmp 5) (.seq (.ops [⟨ some 2, none, .mv (.const (.int .i64 0)) ⟩]) .ret) .skip)) (.seq (.ops [⟨ some 6, none, .fAddr 0 (.tmp 1) ⟩, ⟨ some 7, none, .load none (.tmp 6) ⟩, ⟨ some 8, none, .fAddr 1 (.tmp 1) ⟩, ⟨ some 9, none, .load none (.tmp 8) ⟩, ⟨ some 10, none, .bin .add (.tmp 7) (.tmp 9) ⟩, ⟨ some 2, none, .mv (.tmp 10) ⟩]) .ret))
theorem k77 : compF Tryd.prog Tryd.f77 = some (c77, [2]) := by kernel_rfl
theorem n77 : Tryd.f77.ntmps = 11 := by kernel_rfl
def c47 : AC := .seq (.ops [⟨ some 1, none, .box (.tmp 0) ⟩, ⟨ some 2, none, .mv (.const (.int .i64 0)) ⟩]) (.seq (.draw [([⟨ some 3, none, .load (some 3) (.tmp 1) ⟩, ⟨ some 5, none, .fAddr 2 (.tmp 1) ⟩, ⟨ some 6, none, .load none (.tmp 5) ⟩, ⟨ some 7, none, .mx [.tmp 6, .const (.int .i64 0)] ⟩], [⟨ some 4, none, .call 77 [.tmp 3] ⟩], [⟨ some 6, none, .load none (.tmp 5) ⟩]), ([⟨ some 8, none, .bin .mul (.tmp 4) (.tmp 7) ⟩, ⟨ some 2, none, .mv (.tmp 8) ⟩], [], [])]) .ret)
theorem k47 : compF Tryd.prog Tryd.f47 = some (c47, [2]) := by kernel_rfl
theorem n47 : Tryd.f47.ntmps = 9 := by kernel_rfl
def c78 : AC := .seq (.ops [⟨ some 1, none, .box (.tmp 0) ⟩, ⟨ some 2, none, .mv (.const (.int .i64 0)) ⟩]) (.seq (.ops [⟨ some 3, none, .load (some 3) (.tmp 1) ⟩, ⟨ some 4, none, .call 47 [.tmp 3] ⟩, ⟨ some 5, none, .bin .mul (.const (.int .i64 3)) (.tmp 4) ⟩, ⟨ some 2, none, .mv (.tmp 5) ⟩]) .ret)
theorem k78 : compF Tryd.prog Tryd.f78 = some (c78, [2]) := by kernel_rfl
theorem n78 : Tryd.f78.ntmps = 6 := by kernel_rfl
def c48 : AC := .seq (.ops [⟨ some 1, none, .box (.tmp 0) ⟩, ⟨ some 2, none, .mv (.const (.int .i64 0)) ⟩]) (.seq (.seq (.ops [⟨ some 3, none, .load (some 3) (.tmp 1) ⟩, ⟨ some 4, none, .call 46 [.tmp 3] ⟩, ⟨ some 5, none, .un .not (.tmp 4) ⟩]) (.cond (.tmp 5) (.seq (.ops [⟨ some 2, none, .mv (.const (.int .i64 0)) ⟩]) .ret) .skip)) (.seq (.ops [⟨ some 6, none, .load (some 3) (.tmp 1) ⟩, ⟨ some 7, none, .call 78 [.tmp 6] ⟩, ⟨ some 8, none, .bin .add (.tmp 7) (.const (.int .i64 16)) ⟩, ⟨ some 9, none, .bin .add (.tmp 8) (.const (.int .i64 2)) ⟩, ⟨ some 2, none, .mv (.tmp 9) ⟩]) .ret))
theorem k48 : compF Tryd.prog Tryd.f48 = some (c48, [2]) := by kernel_rfl
theorem n48 : Tryd.f48.ntmps = 10 := by kernel_rfl
def c45 : AC := .seq (.ops [⟨ some 4, none, .box (.tmp 0) ⟩, ⟨ some 8, none, .mv (.const (.int .i64 0)) ⟩, ⟨ some 9, none, .mv (.const (.int .i64 0)) ⟩]) (.seq (.block 0 (.seq (.ops [⟨ some 11, none, .load (some 3) (.tmp 4) ⟩, ⟨ some 12, none, .call 46 [.tmp 11] ⟩, ⟨ some 13, none, .un .not (.tmp 12) ⟩, ⟨ some 10, none, .mv (.tmp 13) ⟩]) (.cond (.tmp 10) (.seq (.ops [⟨ some 8, none, .mv (.const (.int .i64 0)) ⟩, ⟨ some 9, none, .mv (.const (.int .i64 1)) ⟩]) .ret) (.seq (.draw [([⟨ some 15, none, .mv (.tmp 1) ⟩, ⟨ some 16, none, .mv (.tmp 2) ⟩, ⟨ some 17, none, .fAddr 2 (.tmp 4) ⟩, ⟨ some 18, none, .load none (.tmp 17) ⟩, ⟨ some 19, none, .bin .sub (.tmp 18) (.const (.int .i64 1)) ⟩, ⟨ some 20, none, .mv (.tmp 3) ⟩, ⟨ some 21, none, .load (some 3) (.tmp 4) ⟩], [⟨ some 22, none, .call 77 [.tmp 21] ⟩], [⟨ some 18, none, .load none (.tmp 17) ⟩]), ([⟨ some 23, none, .bin .sub (.tmp 22) (.const (.int .i64 1)) ⟩], [⟨ some 24, none, .buildS 9 [.int .i64 0, .int .i64 0, .int .i64 0, .int .i64 0, .int .i64 0, .int .i64 0, .int .i64 0, .int .i64 0, .int .i64 0] [(0, 1, .const (.int .i64 0)), (1, 1, .tmp 15), (2, 1, .const (.int .i64 2)), (3, 1, .const (.int .i64 0)), (4, 1, .tmp 16), (5, 1, .tmp 19), (6, 1, .const (.int .i64 0)), (7, 1, .tmp 20), (8, 1, .tmp 23)] ⟩], []), ([], [⟨ some 25, none, .call 76 [.tmp 24] ⟩], []), ([⟨ some 26, none, .un .not (.tmp 25) ⟩, ⟨ some 14, none, .mv (.tmp 26) ⟩], [], [])]) (.cond (.tmp 14) (.seq (.ops [⟨ some 8, none, .mv (.const (.int .i64 0)) ⟩, ⟨ some 9, none, .mv (.const (.int .i64 2)) ⟩]) .ret) .skip))))) (.seq (.draw [([⟨ some 27, none, .mv (.tmp 1) ⟩, ⟨ some 28, none, .load (some 3) (.tmp 4) ⟩, ⟨ some 31, none, .mv (.tmp 3) ⟩, ⟨ some 32, none, .fAddr 2 (.tmp 4) ⟩, ⟨ some 33, none, .load none (.tmp 32) ⟩, ⟨ some 34, none, .bin .mul (.tmp 31) (.tmp 33) ⟩, ⟨ some 36, none, .mv (.tmp 2) ⟩], [⟨ some 29, none, .call 47 [.tmp 28] ⟩], [⟨ some 33, none, .load none (.tmp 32) ⟩]), ([⟨ some 30, none, .bin .mul (.tmp 27) (.tmp 29) ⟩, ⟨ some 35, none, .bin .add (.tmp 30) (.tmp 34) ⟩, ⟨ some 37, none, .bin .add (.tmp 35) (.tmp 36) ⟩, ⟨ some 8, none, .mv (.tmp 37) ⟩, ⟨ some 9, none, .mv (.const (.int .i64 0)) ⟩], [], [])]) .ret))
theorem k45 : compF Tryd.prog Tryd.f45 = some (c45, [8, 9]) := by kernel_rfl
theorem n45 : Tryd.f45.ntmps = 38 := by kernel_rfl
def c49 : AC := .seq (.ops [⟨ some 2, none, .box (.tmp 0) ⟩, ⟨ some 4, none, .mv (.const (.int .i64 0)) ⟩, ⟨ some 5, none, .mv (.const (.int .i64 0)) ⟩, ⟨ some 6, none, .mv (.const (.int .i64 0)) ⟩, ⟨ some 7, none, .mv (.const (.bool false)) ⟩]) (.seq (.seq (.ops [⟨ some 9, none, .load (some 3) (.tmp 2) ⟩, ⟨ some 10, none, .call 46 [.tmp 9] ⟩, ⟨ some 11, none, .un .not (.tmp 10) ⟩, ⟨ some 12, none, .mv (.tmp 11) ⟩, ⟨ some 13, some (12, false), .mv (.tmp 1) ⟩, ⟨ some 14, some (12, false), .load (some 3) (.tmp 2) ⟩, ⟨ some 15, some (12, false), .call 78 [.tmp 14] ⟩, ⟨ some 16, some (12, false), .bin .sub (.tmp 15) (.const (.int .i64 1)) ⟩, ⟨ some 17, some (12, false), .buildS 3 [.int .i64 0, .int .i64 0, .int .i64 0] [(0, 1, .const (.int .i64 0)), (1, 1, .tmp 13), (2, 1, .tmp 16)] ⟩, ⟨ some 18, some (12, false), .call 76 [.tmp 17] ⟩, ⟨ some 19, some (12, false), .un .not (.tmp 18) ⟩, ⟨ some 20, none, .pick (.tmp 12) (.const (.bool true)) (.tmp 19) ⟩]) (.cond (.tmp 20) (.seq (.ops [⟨ some 4, none, .mv (.const (.int .i64 0)) ⟩, ⟨ some 5, none, .mv (.const (.int .i64 0)) ⟩, ⟨ some 6, none, .mv (.const (.int .i64 0)) ⟩, ⟨ some 7, none, .mv (.const (.bool false)) ⟩]) .ret) .skip)) (.seq (.ops [⟨ some 21, none, .mv (.tmp 1) ⟩, ⟨ some 22, none, .load (some 3) (.tmp 2) ⟩, ⟨ some 23, none, .call 47 [.tmp 22] ⟩, ⟨ some 24, none, .bin .rem (.tmp 21) (.tmp 23) ⟩, ⟨ some 8, none, .mv (.tmp 24) ⟩]) (.seq (.draw [([⟨ some 25, none, .mv (.tmp 1) ⟩, ⟨ some 26, none, .load (some 3) (.tmp 2) ⟩, ⟨ some 29, none, .mv (.tmp 8) ⟩, ⟨ some 30, none, .fAddr 2 (.tmp 2) ⟩, ⟨ some 31, none, .load none (.tmp 30) ⟩, ⟨ some 32, none, .bin .rem (.tmp 29) (.tmp 31) ⟩, ⟨ some 33, none, .mv (.tmp 8) ⟩, ⟨ some 34, none, .fAddr 2 (.tmp 2) ⟩, ⟨ some 35, none, .load none (.tmp 34) ⟩, ⟨ some 36, none, .bin .quo (.tmp 33) (.tmp 35) ⟩], [⟨ some 27, none, .call 47 [.tmp 26] ⟩], [⟨ some 31, none, .load none (.tmp 30) ⟩, ⟨ some 35, none, .load none (.tmp 34) ⟩]), ([⟨ some 28, none, .bin .quo (.tmp 25) (.tmp 27) ⟩, ⟨ some 4, none, .mv (.tmp 28) ⟩, ⟨ some 5, none, .mv (.tmp 32) ⟩, ⟨ some 6, none, .mv (.tmp 36) ⟩, ⟨ some 7, none, .mv (.const (.bool true)) ⟩], [], [])]) .ret)))
theorem k49 : compF Tryd.prog Tryd.f49 = some (c49, [4, 5, 6, 7]) := by kernel_rfl
theorem n49 : Tryd.f49.ntmps = 37 := by kernel_rfl
def c51 : AC := .seq (.ops [⟨ some 3, none, .box (.tmp 0) ⟩, ⟨ some 6, none, .mv (.const (.int .i64 0)) ⟩, ⟨ some 7, none, .mv (.const (.int .i64 0)) ⟩]) (.seq (.block 0 (.seq (.ops [⟨ some 9, none, .load (some 3) (.tmp 3) ⟩, ⟨ some 10, none, .call 46 [.tmp 9] ⟩, ⟨ some 11, none, .un .not (.tmp 10) ⟩, ⟨ some 8, none, .mv (.tmp 11) ⟩]) (.cond (.tmp 8) (.seq (.ops [⟨ some 6, none, .mv (.const (.int .i64 0)) ⟩, ⟨ some 7, none, .mv (.const (.int .i64 1)) ⟩]) .ret) (.seq (.ops [⟨ some 13, none, .mv (.tmp 1) ⟩, ⟨ some 14, none, .mv (.tmp 2) ⟩, ⟨ some 15, none, .buildS 6 [.int .i64 0, .int .i64 0, .int .i64 0, .int .i64 0, .int .i64 0, .int .i64 0] [(0, 1, .const (.int .i64 0)), (1, 1, .tmp 13), (2, 1, .const (.int .i64 1)), (3, 1, .const (.int .i64 0)), (4, 1, .tmp 14), (5, 1, .const (.int .i64 1))] ⟩, ⟨ some 16, none, .call 76 [.tmp 15] ⟩, ⟨ some 17, none, .un .not (.tmp 16) ⟩, ⟨ some 12, none, .mv (.tmp 17) ⟩]) (.cond (.tmp 12) (.seq (.ops [⟨ some 6, none, .mv (.const (.int .i64 0)) ⟩, ⟨ some 7, none, .mv (.const (.int .i64 2)) ⟩]) .ret) .skip))))) (.seq (.ops [⟨ some 18, none, .load (some 3) (.tmp 3) ⟩, ⟨ some 19, none, .call 78 [.tmp 18] ⟩, ⟨ some 20, none, .mv (.tmp 1) ⟩, ⟨ some 21, none, .bin .mul (.tmp 20) (.const (.int .i64 2)) ⟩, ⟨ some 22, none, .mv (.tmp 2) ⟩, ⟨ some 23, none, .bin .add (.tmp 21) (.tmp 22) ⟩, ⟨ some 24, none, .bin .mul (.tmp 23) (.const (.int .i64 4)) ⟩, ⟨ some 25, none, .bin .add (.tmp 19) (.tmp 24) ⟩, ⟨ some 6, none, .mv (.tmp 25) ⟩, ⟨ some 7, none, .mv (.const (.int .i64 0)) ⟩]) .ret))
theorem k51 : compF Tryd.prog Tryd.f51 = some (c51, [6, 7]) := by kernel_rfl
theorem n51 : Tryd.f51.ntmps = 26 := by kernel_rfl
def c53 : AC := .seq (.ops [⟨ some 2, none, .box (.tmp 0) ⟩, ⟨ some 4, none, .mv (.const (.int .i64 0)) ⟩, ⟨ some 5, none, .mv (.const (.int .i64 0)) ⟩]) (.seq (.block 0 (.seq (.ops [⟨ some 7, none, .load (some 3) (.tmp 2) ⟩, ⟨ some 8, none, .call 46 [.tmp 7] ⟩, ⟨ some 9, none, .un .not (.tmp 8) ⟩, ⟨ some 6, none, .mv (.tmp 9) ⟩]) (.cond (.tmp 6) (.seq (.ops [⟨ some 4, none, .mv (.const (.int .i64 0)) ⟩, ⟨ some 5, none, .mv (.const (.int .i64 1)) ⟩]) .ret) (.seq (.ops [⟨ some 11, none, .mv (.tmp 1) ⟩, ⟨ some 12, none, .buildS 3 [.int .i64 0, .int .i64 0, .int .i64 0] [(0, 1, .const (.int .i64 0)), (1, 1, .tmp 11), (2, 1, .const (.int .i64 1))] ⟩, ⟨ some 13, none, .call 76 [.tmp 12] ⟩, ⟨ some 14, none, .un .not (.tmp 13) ⟩, ⟨ some 10, none, .mv (.tmp 14) ⟩]) (.cond (.tmp 10) (.seq (.ops [⟨ some 4, none, .mv (.const (.int .i64 0)) ⟩, ⟨ some 5, none, .mv (.const (.int .i64 2)) ⟩]) .ret) .skip))))) (.seq (.ops [⟨ some 15, none, .load (some 3) (.tmp 2) ⟩, ⟨ some 16, none, .call 48 [.tmp 15] ⟩, ⟨ some 17, none, .bin .sub (.tmp 16) (.const (.int .i64 2)) ⟩, ⟨ some 18, none, .mv (.tmp 1) ⟩, ⟨ some 19, none, .bin .add (.tmp 17) (.tmp 18) ⟩, ⟨ some 4, none, .mv (.tmp 19) ⟩, ⟨ some 5, none, .mv (.const (.int .i64 0)) ⟩]) .ret))
theorem k53 : compF Tryd.prog Tryd.f53 = some (c53, [4, 5]) := by kernel_rfl
theorem n53 : Tryd.f53.ntmps = 20 := by kernel_rfl
def c12 : AC := .seq (.ops [⟨ some 0, none, .mv (.const (.bool false)) ⟩]) (.seq (.ops [⟨ some 4, none, .build [.int .i64 0, .int .i64 0, .int .i64 0] [(0, 1, .const (.int .i64 2)), (1, 1, .const (.int .i64 2)), (2, 1, .const (.int .i64 3))] ⟩, ⟨ some 1, none, .alloc [.int .i64 0, .int .i64 0, .int .i64 0] ⟩, ⟨ none, none, .store 3 (.tmp 1) (.tmp 4) ⟩]) (.seq (.ops [⟨ some 6, none, .load (some 3) (.tmp 1) ⟩, ⟨ some 7, none, .call 45 [.tmp 6, .const (.int .i64 1), .const (.int .i64 2), .const (.int .i64 1)] ⟩, ⟨ some 5, none, .mv (.tmp 7) ⟩, ⟨ some 8, none, .extr (.tmp 5) 0 ⟩, ⟨ some 9, none, .extr (.tmp 5) 1 ⟩, ⟨ some 2, none, .mv (.tmp 8) ⟩, ⟨ some 3, none, .mv (.tmp 9) ⟩]) (.seq (.ops [⟨ some 10, none, .load (some 3) (.tmp 1) ⟩, ⟨ some 11, none, .call 46 [.tmp 10] ⟩, ⟨ some 12, none, .mv (.tmp 11) ⟩, ⟨ some 13, some (12, true), .load (some 3) (.tmp 1) ⟩, ⟨ some 14, some (12, true), .call 47 [.tmp 13] ⟩, ⟨ some 15, some (12, true), .bin .eql (.tmp 14) (.const (.int .i64 12)) ⟩, ⟨ some 16, none, .pick (.tmp 12) (.tmp 15) (.const (.bool false)) ⟩, ⟨ some 17, none, .mv (.tmp 16) ⟩, ⟨ some 18, some (17, true), .mv (.tmp 2) ⟩, ⟨ some 19, some (17, true), .bin .eql (.tmp 18) (.const (.int .i64 17)) ⟩, ⟨ some 20, none, .pick (.tmp 17) (.tmp 19) (.const (.bool false)) ⟩, ⟨ some 21, none, .mv (.tmp 20) ⟩, ⟨ some 22, some (21, true), .mv (.tmp 3) ⟩, ⟨ some 23, some (21, true), .bin .eql (.tmp 22) (.const (.int .i64 0)) ⟩, ⟨ some 24, none, .pick (.tmp 21) (.tmp 23) (.const (.bool false)) ⟩, ⟨ some 0, none, .mv (.tmp 24) ⟩]) .ret)))
theorem k12 : compF Tryd.prog Tryd.f12 = some (c12, [0]) := by kernel_rfl
theorem n12 : Tryd.f12.ntmps = 25 := by kernel_rfl
def c14 : AC := .seq (.ops [⟨ some 1, none, .box (.tmp 0) ⟩, ⟨ some 2, none, .mv (.const (.bool false)) ⟩]) (.seq (.ops [⟨ some 3, none, .fAddr 0 (.tmp 1) ⟩, ⟨ some 4, none, .load none (.tmp 3) ⟩, ⟨ some 5, none, .bin .geq (.tmp 4) (.const (.int .i64 1)) ⟩, ⟨ some 6, none, .mv (.tmp 5) ⟩, ⟨ some 7, some (6, true), .fAddr 0 (.tmp 1) ⟩, ⟨ some 8, some (6, true), .load none (.tmp 7) ⟩, ⟨ some 9, some (6, true), .bin .leq (.tmp 8) (.const (.int .i64 8)) ⟩, ⟨ some 10, none, .pick (.tmp 6) (.tmp 9) (.const (.bool false)) ⟩, ⟨ some 11, none, .mv (.tmp 10) ⟩, ⟨ some 12, some (11, true), .fAddr 1 (.tmp 1) ⟩, ⟨ some 13, some (11, true), .load none (.tmp 12) ⟩, ⟨ some 14, some (11, true), .bin .geq (.tmp 13) (.const (.int .i64 2)) ⟩, ⟨ some 15, none, .pick (.tmp 11) (.tmp 14) (.const (.bool false)) ⟩, ⟨ some 16, none, .mv (.tmp 15) ⟩, ⟨ some 17, some (16, true), .fAddr 1 (.tmp 1) ⟩, ⟨ some 18, some (16, true), .load none (.tmp 17) ⟩, ⟨ some 19, some (16, true), .bin .leq (.tmp 18) (.const (.int .i64 6)) ⟩, ⟨ some 20, none, .pick (.tmp 16) (.tmp 19) (.const (.bool false)) ⟩, ⟨ some 21, none, .mv (.tmp 20) ⟩, ⟨ some 22, some (21, true), .fAddr 2 (.tmp 1) ⟩, ⟨ some 23, some (21, true), .load none (.tmp 22) ⟩, ⟨ some 24, some (21, true), .bin .geq (.tmp 23) (.const (.int .i64 1)) ⟩, ⟨ some 25, none, .pick (.tmp 21) (.tmp 24) (.const (.bool false)) ⟩, ⟨ some 26, none, .mv (.tmp 25) ⟩, ⟨ some 27, some (26, true), .fAddr 2 (.tmp 1) ⟩, ⟨ some 28, some (26, true), .load none (.tmp 27) ⟩, ⟨ some 29, some (26, true), .bin .leq (.tmp 28) (.const (.int .i64 8)) ⟩, ⟨ some 30, none, .pick (.tmp 26) (.tmp 29) (.const (.bool false)) ⟩, ⟨ some 2, none, .mv (.tmp 30) ⟩]) .ret)
theorem k14 : compF Tryd.prog Tryd.f14 = some (c14, [2]) := by kernel_rfl
theorem n14 : Tryd.f14.ntmps = 31 := by kernel_rfl
def c15 : AC := .seq (.ops [⟨ some 1, none, .box (.tmp 0) ⟩, ⟨ some 2, none, .mv (.const (.slice none 0 0)) ⟩]) (.seq (.ops [⟨ some 11, none, .buildS 0 [] [] ⟩, ⟨ some 3, none, .mv (.tmp 11) ⟩]) (.seq (.seq (.ops [⟨ some 4, none, .mv (.const (.int .i64 0)) ⟩]) (.block 0 (.loop (.seq (.seq (.ops [⟨ some 12, none, .mv (.tmp 4) ⟩, ⟨ some 13, none, .bin .lss (.tmp 12) (.const (.int .i64 3)) ⟩]) (.cond (.tmp 13) .skip (.exit 0))) (.seq (.block 1 (.seq (.ops [⟨ some 5, none, .mv (.const (.int .i64 0)) ⟩]) (.block 2 (.loop (.seq (.seq (.ops [⟨ some 16, none, .mv (.tmp 5) ⟩, ⟨ some 17, none, .fAddr 0 (.tmp 1) ⟩, ⟨ some 18, none, .load none (.tmp 17) ⟩, ⟨ some 19, none, .fAddr 1 (.tmp 1) ⟩, ⟨ some 20, none, .load none (.tmp 19) ⟩, ⟨ some 21, none, .bin .add (.tmp 18) (.tmp 20) ⟩, ⟨ some 22, none, .bin .lss (.tmp 16) (.tmp 21) ⟩]) (.cond (.tmp 22) .skip (.exit 2))) (.seq (.block 3 (.seq (.ops [⟨ some 6, none, .mv (.const (.int .i64 0)) ⟩]) (.block 4 (.loop (.seq (.seq (.ops [⟨ some 25, none, .mv (.tmp 6) ⟩, ⟨ some 26, none, .fAddr 2 (.tmp 1) ⟩, ⟨ some 27, none, .load none (.tmp 26) ⟩, ⟨ some 28, none, .bin .lss (.tmp 25) (.tmp 27) ⟩]) (.cond (.tmp 28) .skip (.exit 4))) (.seq (.block 5 (.ops [⟨ some 31, none, .mv (.tmp 3) ⟩, ⟨ some 32, none, .mv (.tmp 4) ⟩, ⟨ some 33, none, .mv (.tmp 6) ⟩, ⟨ some 34, none, .mv (.tmp 5) ⟩, ⟨ some 35, none, .build [.int .i64 0, .int .i64 0, .int .i64 0, .int .i64 0] [(0, 1, .const (.int .i64 0)), (1, 1, .tmp 32), (2, 1, .tmp 33), (3, 1, .tmp 34)] ⟩, ⟨ some 36, none, .buildS 1 [.int .i64 0, .int .i64 0, .int .i64 0, .int .i64 0] [(0, 4, .tmp 35)] ⟩, ⟨ some 37, none, .app 4 32 34 (.tmp 31) (.tmp 36) ⟩, ⟨ some 3, none, .mv (.tmp 37) ⟩])) (.ops [⟨ some 29, none, .mv (.tmp 6) ⟩, ⟨ some 30, none, .bin .add (.tmp 29) (.const (.int .i64 1)) ⟩, ⟨ some 6, none, .mv (.tmp 30) ⟩]))))))) (.ops [⟨ some 23, none, .mv (.tmp 5) ⟩, ⟨ some 24, none, .bin .add (.tmp 23) (.const (.int .i64 1)) ⟩, ⟨ some 5, none, .mv (.tmp 24) ⟩]))))))) (.ops [⟨ some 14, none, .mv (.tmp 4) ⟩, ⟨ some 15, none, .bin .add (.tmp 14) (.const (.int .i64 1)) ⟩, ⟨ some 4, none, .mv (.tmp 15) ⟩])))))) (.seq (.seq (.ops [⟨ some 7, none, .mv (.const (.int .i64 0)) ⟩]) (.block 6 (.loop (.seq (.seq (.ops [⟨ some 38, none, .mv (.tmp 7) ⟩, ⟨ some 39, none, .bin .lss (.tmp 38) (.const (.int .i64 2)) ⟩]) (.cond (.tmp 39) .skip (.exit 6))) (.seq (.block 7 (.seq (.ops [⟨ some 8, none, .mv (.const (.int .i64 0)) ⟩]) (.block 8 (.loop (.seq (.seq (.ops [⟨ some 42, none, .mv (.tmp 8) ⟩, ⟨ some 43, none, .bin .lss (.tmp 42) (.const (.int .i64 2)) ⟩]) (.cond (.tmp 43) .skip (.exit 8))) (.seq (.block 9 (.seq (.ops [⟨ some 9, none, .mv (.const (.int .i64 0)) ⟩]) (.block 10 (.loop (.seq (.seq (.ops [⟨ some 46, none, .mv (.tmp 9) ⟩, ⟨ some 47, none, .bin .lss (.tmp 46) (.const (.int .i64 4)) ⟩]) (.cond (.tmp 47) .skip (.exit 10))) (.seq (.block 11 (.ops [⟨ some 50, none, .mv (.tmp 3) ⟩, ⟨ some 51, none, .mv (.tmp 7) ⟩, ⟨ some 52, none, .mv (.tmp 8) ⟩, ⟨ some 53, none, .mv (.tmp 9) ⟩, ⟨ some 54, none, .build [.int .i64 0, .int .i64 0, .int .i64 0, .int .i64 0] [(0, 1, .const (.int .i64 1)), (1, 1, .tmp 51), (2, 1, .tmp 52), (3, 1, .tmp 53)] ⟩, ⟨ some 55, none, .buildS 1 [.int .i64 0, .int .i64 0, .int .i64 0, .int .i64 0] [(0, 4, .tmp 54)] ⟩, ⟨ some 56, none, .app 4 32 34 (.tmp 50) (.tmp 55) ⟩, ⟨ some 3, none, .mv (.tmp 56) ⟩])) (.ops [⟨ some 48, none, .mv (.tmp 9) ⟩, ⟨ some 49, none, .bin .add (.tmp 48) (.const (.int .i64 1)) ⟩, ⟨ some 9, none, .mv (.tmp 49) ⟩]))))))) (.ops [⟨ some 44, none, .mv (.tmp 8) ⟩, ⟨ some 45, none, .bin .add (.tmp 44) (.const (.int .i64 1)) ⟩, ⟨ some 8, none, .mv (.tmp 45) ⟩]))))))) (.ops [⟨ some 40, none, .mv (.tmp 7) ⟩, ⟨ some 41, none, .bin .add (.tmp 40) (.const (.int .i64 1)) ⟩, ⟨ some 7, none, .mv (.tmp 41) ⟩])))))) (.seq (.seq (.ops [⟨ some 10, none, .mv (.const (.int .i64 0)) ⟩]) (.block 12 (.loop (.seq (.seq (.ops [⟨ some 57, none, .mv (.tmp 10) ⟩, ⟨ some 58, none, .bin .lss (.tmp 57) (.const (.int .i64 2)) ⟩]) (.cond (.tmp 58) .skip (.exit 12))) (.seq (.block 13 (.ops [⟨ some 61, none, .mv (.tmp 3) ⟩, ⟨ some 62, none, .mv (.tmp 10) ⟩, ⟨ some 63, none, .build [.int .i64 0, .int .i64 0, .int .i64 0, .int .i64 0] [(0, 1, .const (.int .i64 2)), (1, 1, .tmp 62), (2, 1, .const (.int .i64 0)), (3, 1, .const (.int .i64 0))] ⟩, ⟨ some 64, none, .buildS 1 [.int .i64 0, .int .i64 0, .int .i64 0, .int .i64 0] [(0, 4, .tmp 63)] ⟩, ⟨ some 65, none, .app 4 32 34 (.tmp 61) (.tmp 64) ⟩, ⟨ some 3, none, .mv (.tmp 65) ⟩])) (.ops [⟨ some 59, none, .mv (.tmp 10) ⟩, ⟨ some 60, none, .bin .add (.tmp 59) (.const (.int .i64 1)) ⟩, ⟨ some 10, none, .mv (.tmp 60) ⟩])))))) (.seq (.ops [⟨ some 66, none, .mv (.tmp 3) ⟩, ⟨ some 2, none, .mv (.tmp 66) ⟩]) .ret)))))
theorem k15 : compF Tryd.prog Tryd.f15 = some (c15, [2]) := by kernel_rfl
theorem n15 : Tryd.f15.ntmps = 67 := by kernel_rfl
theorem i64_sg {n : Int} (h0 : -9223372036854775808 ≤ n) (h1 : n < 9223372036854775808) : IntKind.i64.wrap n = n := IntWalk.i64_in _ (by omega)

/-- a geometry -/
def gv (d p s : Int) : Value := .agg #[.int .i64 d, .int .i64 p, .int .i64 s]
def within : List Int → Bool
  | lo :: x :: hi :: r => decide (lo ≤ x) && decide (x ≤ hi) && within r
  | _ => true
theorem within_drop (l : List Int) (j : Nat) (h : j + 2 < l.length) : within (l.drop j) = (decide (l[j] ≤ l[j + 1]) && decide (l[j + 1] ≤ l[j + 2]) && within (l.drop (j + 3))) := by
  rw [List.drop_eq_getElem_cons (by omega : j < l.length), List.drop_eq_getElem_cons (by omega : j + 1 < l.length), List.drop_eq_getElem_cons (by omega : j + 2 < l.length)]
  rfl
theorem within_ok (l : List Int) (k : Nat) (b : Nat) (h : Heap) (hk : l.length = 3 * k) (hb' : h.cellsOf b = some (l.map cI, .ex, 1)) (hlen : k ≤ 1000000) :
    ACalls Tryd.prog 76 [.slice (some ⟨b, 0, none⟩) (3 * k) (3 * k)] h fun v h' => v = .bool (within l) ∧ h' = h := by
  refine acalls_of mix Tryd.func76 k76 n76 (by simp) fun hcl hb => ?_
  have hbn := cellsOf_lt hcl hb'
  simp [c76]
  refine awp_loop_of (α := Nat) (fun j => j ≤ k ∧ within l = within (l.drop (3 * j))) (fun j => [(0, .slice (some ⟨b, 3 * j, none⟩) (3 * k - 3 * j) (3 * k - 3 * j))]) (fun _ => h) (fun j => k - j) 0
    ⟨Nat.zero_le _, by simp⟩ (Heap.Sub.refl hcl) (by simp; exact vb_slice hbn) ?_
  rintro j ⟨hj, hw⟩
  by_cases hlt : j < k
  · have hlt' : (0 : Int) < ((3 * k - 3 * j : Nat) : Int) := by omega
    have i0 : aidx (.int .i64 0) (3 * k - 3 * j) = some 0 := aidx_of (i := 0) (by omega)
    have i1 : aidx (.int .i64 1) (3 * k - 3 * j) = some 1 := aidx_of (i := 1) (by omega)
    have i2 : aidx (.int .i64 2) (3 * k - 3 * j) = some 2 := aidx_of (i := 2) (by omega)
    have l0 : 3 * j < l.length := by omega
    have l1 : 3 * j + 1 < l.length := by omega
    have l2 : 3 * j + 2 < l.length := by omega
    have hd := within_drop l (3 * j) l2
    have hab : abounds (3 * k - 3 * j) (3 * k - 3 * j) (some (.int .i64 3)) none none = some (3, 3 * k - 3 * j, 3 * k - 3 * j) := by
      have : abound (.int .i64 3) (3 * k - 3 * j) = some 3 := by unfold abound; simp only; rw [if_pos ⟨by omega, by omega⟩]; rfl
      simp [abounds, this]
    rw [hd] at hw
    have hz : ¬ 3 * k - 3 * j = 0 := by omega
    generalize hn : 3 * k - 3 * j = n at i0 i1 i2 hab hlt' hz ⊢
    have hdt : decide (0 < n) = true := decide_eq_true (by omega)
    simp [hdt, i0, i1, i2, hb', apart, l0, l1, l2]
    by_cases h1 : l[3 * j + 1] < l[3 * j]
    · have : ¬ l[3 * j] ≤ l[3 * j + 1] := by omega
      simp [h1, hw, this]
    by_cases h2 : l[3 * j + 2] < l[3 * j + 1]
    · have : ¬ l[3 * j + 1] ≤ l[3 * j + 2] := by omega
      simp [h1, h2, hw, this, i1, i2, hb', apart, l1, l2]
    have h1' : l[3 * j] ≤ l[3 * j + 1] := by omega
    have h2' : l[3 * j + 1] ≤ l[3 * j + 2] := by omega
    simp [h1, h2, i1, i2, hb', apart, l1, l2, hab]
    refine ⟨j + 1, by omega, ⟨by omega, ?_⟩, Heap.Sub.refl hcl, ⟨by omega, by omega⟩, vb_slice hbn⟩
    rw [hw, show 3 * (j + 1) = 3 * j + 3 by omega]
    simp [h1', h2']
  · have : j = k := by omega
    subst this
    simp
    rw [hw, List.drop_eq_nil_of_le (by omega)]
    rfl

def right (d p s : Int) : Bool := decide (1 ≤ d) && decide (d ≤ 8) && (decide (2 ≤ p) && decide (p ≤ 6) && (decide (1 ≤ s) && decide (s ≤ 8)))
theorem rightG_ok (d p s : Int) (h : Heap) : ACalls Tryd.prog 46 [gv d p s] h fun v h' => v = .bool (right d p s) ∧ h' = h := by
  refine ACalls.same .bool (acalls_of mix Tryd.func46 k46 n46 (by simp) fun hcl hb => ?_)
  simp [c46, gv, mcells, cellsOf_new, apart, afill]
  refine (within_ok [1, d, 8, 2, p, 6, 1, s, 8] 3 _ _ rfl (cellsOf_new _ _ _ _) (by omega)).mono ?_
  rintro v1 h1 ⟨rfl, e⟩
  subst e
  simp
  exact ⟨by simp [within, right], ((Heap.Ext.refl h).push hcl _).push hcl _⟩
def wide (d p s : Int) : Int := if right d p s then d + p else 0
theorem right_prop {d p s : Int} : right d p s = true ↔ (1 ≤ d ∧ d ≤ 8) ∧ (2 ≤ p ∧ p ≤ 6) ∧ 1 ≤ s ∧ s ≤ 8 := by simp [right]
theorem wide_ok (d p s : Int) (h : Heap) : ACalls Tryd.prog 77 [gv d p s] h fun v h' => v = .int .i64 (wide d p s) ∧ h' = h := by
  refine ACalls.same .int (acalls_of mix Tryd.func77 k77 n77 (by simp) fun hcl hb => ?_)
  simp [c77, gv, mcells, cellsOf_new, apart, acut]
  refine (rightG_ok d p s _).mono ?_
  rintro v1 h1 ⟨rfl, e⟩
  subst e
  by_cases hr : right d p s = true
  · simp [hr, aun, wide, cellsOf_new, apart]
    have := right_prop.1 hr
    exact ⟨i64_sg (by omega) (by omega), (Heap.Ext.refl h).push hcl _⟩
  · have hr' : right d p s = false := by simpa using hr
    simp [hr', aun, wide]
    exact (Heap.Ext.refl h).push hcl _
def slot (d p s : Int) : Int := if right d p s then (d + p) * s else 0
theorem mulb {a b m n : Int} (h1 : 0 ≤ a) (h2 : a ≤ m) (h3 : 0 ≤ b) (h4 : b ≤ n) : 0 ≤ a * b ∧ a * b ≤ m * n := ⟨Int.mul_nonneg h1 h3, Int.mul_le_mul h2 h4 h3 (by omega)⟩
theorem slot_bound {d p s : Int} : 0 ≤ slot d p s ∧ slot d p s ≤ 112 := by
  unfold slot
  split
  · rename_i hr
    have := right_prop.1 hr
    exact mulb (m := 14) (n := 8) (by omega) (by omega) (by omega) (by omega)
  · omega
theorem slot_ok (d p s : Int) (h : Heap) : ACalls Tryd.prog 47 [gv d p s] h fun v h' => v = .int .i64 (slot d p s) ∧ h' = h := by
  refine ACalls.same .int (acalls_of mix Tryd.func47 k47 n47 (by simp) fun hcl hb => ?_)
  simp [c47, gv, mcells, cellsOf_new, apart, acut, afold, amax2]
  refine (wide_ok d p s _).mono ?_
  rintro v1 h1 ⟨rfl, e⟩
  subst e
  simp [cellsOf_new, apart]
  refine ⟨?_, (Heap.Ext.refl h).push hcl _⟩
  have hb := slot_bound (d := d) (p := p) (s := s)
  unfold slot wide at *
  split
  · rename_i hr
    have := right_prop.1 hr
    rw [if_pos hr] at hb
    rw [Int.max_eq_left (by omega), i64_sg (by omega) (by omega)]
  · simp [i64_sg]
theorem log_ok (d p s : Int) (h : Heap) : ACalls Tryd.prog 78 [gv d p s] h fun v h' => v = .int .i64 (3 * slot d p s) ∧ h' = h := by
  refine ACalls.same .int (acalls_of mix Tryd.func78 k78 n78 (by simp) fun hcl hb => ?_)
  simp [c78, gv, mcells, cellsOf_new, apart, acut]
  refine (slot_ok d p s _).mono ?_
  rintro v1 h1 ⟨rfl, e⟩
  subst e
  simp
  have hb := slot_bound (d := d) (p := p) (s := s)
  exact ⟨i64_sg (by omega) (by omega), (Heap.Ext.refl h).push hcl _⟩
def allS (d p s : Int) : Int := if right d p s then 3 * slot d p s + 18 else 0
theorem all_ok (d p s : Int) (h : Heap) : ACalls Tryd.prog 48 [gv d p s] h fun v h' => v = .int .i64 (allS d p s) ∧ h' = h := by
  refine ACalls.same .int (acalls_of mix Tryd.func48 k48 n48 (by simp) fun hcl hb => ?_)
  simp [c48, gv, mcells, cellsOf_new, apart, acut]
  refine (rightG_ok d p s _).mono ?_
  rintro v1 h1 ⟨rfl, e⟩
  subst e
  by_cases hr : right d p s = true
  · simp [hr, aun, cellsOf_new, apart, acut]
    refine (log_ok d p s _).mono ?_
    rintro v1 h1 ⟨rfl, e⟩
    subst e
    simp
    have hb := slot_bound (d := d) (p := p) (s := s)
    refine ⟨?_, (Heap.Ext.refl h).push hcl _⟩
    unfold allS
    rw [if_pos hr, i64_sg (n := 3 * slot d p s + 16) (by omega) (by omega), i64_sg (by omega) (by omega)]
    omega
  · have hr' : right d p s = false := by simpa using hr
    simp [hr', aun, allS]
    exact (Heap.Ext.refl h).push hcl _

theorem tdiv_pos {a b : Int} (ha : 0 ≤ a) : a.tdiv b = a / b := Int.tdiv_eq_ediv_of_nonneg ha
theorem tmod_pos {a b : Int} (ha : 0 ≤ a) : a.tmod b = a % b := Int.tmod_eq_emod_of_nonneg ha
/-- whose a sector is -/
def ofR (d p s x : Int) : Value := if right d p s = true ∧ 0 ≤ x ∧ x ≤ 3 * slot d p s - 1 then
    .tuple #[cI (x / slot d p s), cI (x % slot d p s % s), cI (x % slot d p s / s), .bool true]
  else .tuple #[cI 0, cI 0, cI 0, .bool false]
theorem ofR_below {n : Nat} {d p s x : Int} : VBelow n (ofR d p s x) := by
  unfold ofR
  split <;> exact .tuple fun i hi => by
    match i, hi with
    | 0, _ => exact .int
    | 1, _ => exact .int
    | 2, _ => exact .int
    | 3, _ => exact .bool
theorem slot_right {d p s : Int} (hr : right d p s = true) : slot d p s = (d + p) * s ∧ 3 * s ≤ slot d p s := by
  have := right_prop.1 hr
  unfold slot
  rw [if_pos hr]
  exact ⟨rfl, Int.mul_le_mul_of_nonneg_right (by omega) (by omega)⟩
theorem of_ok (d p s x : Int) (h : Heap) : ACalls Tryd.prog 49 [gv d p s, .int .i64 x] h fun v h' => v = ofR d p s x ∧ h' = h := by
  refine ACalls.same ofR_below (acalls_of mix Tryd.func49 k49 n49 (by simp) fun hcl hb => ?_)
  have hext := (Heap.Ext.refl h).push hcl (.cells [.int .i64 d, .int .i64 p, .int .i64 s] .ex 1)
  simp [c49, gv, mcells, cellsOf_new, apart, acut]
  refine (rightG_ok d p s _).mono ?_
  rintro v1 h1 ⟨rfl, e⟩
  subst e
  by_cases hr : right d p s = true
  case neg =>
    have hr' : right d p s = false := by simpa using hr
    simp [hr', aun, ofR]
    exact hext
  have hp := right_prop.1 hr
  have hsb := slot_bound (d := d) (p := p) (s := s)
  have hsr := slot_right hr
  simp [hr, aun, cellsOf_new, apart, acut]
  refine (log_ok d p s _).mono ?_
  rintro v1 h1 ⟨rfl, e⟩
  subst e
  simp [afill, mcells]
  have hw1 : IntKind.i64.wrap (3 * slot d p s - 1) = 3 * slot d p s - 1 := i64_sg (by omega) (by omega)
  refine (within_ok [0, x, IntKind.i64.wrap (3 * slot d p s - 1)] 1 _ _ rfl (cellsOf_new _ _ _ _) (by omega)).mono ?_
  rintro v1 h1 ⟨rfl, e⟩
  subst e
  rw [hw1]
  by_cases hx : 0 ≤ x ∧ x ≤ 3 * slot d p s - 1
  case neg =>
    have hwf : within [0, x, 3 * slot d p s - 1] = false := by simp [within]; omega
    simp [hwf, aun, ofR, hx]
    exact hext.push hcl _
  have hwt : within [0, x, 3 * slot d p s - 1] = true := by simp [within]; omega
  simp [hwt, aun, cellsOf_ne, cellsOf_new, apart, acut]
  refine (slot_ok d p s _).mono ?_
  rintro v1 h1 ⟨rfl, e⟩
  subst e
  have hs0 : ¬ slot d p s = 0 := by omega
  have hs1 : ¬ s = 0 := by omega
  have e1 : 0 ≤ x.tmod (slot d p s) ∧ x.tmod (slot d p s) < 112 := by
    rw [tmod_pos hx.1]
    exact ⟨Int.emod_nonneg _ hs0, Int.lt_of_lt_of_le (Int.emod_lt_of_pos _ (by omega)) hsb.2⟩
  have e2 : ∀ y : Int, 0 ≤ y → y < 112 * 3 → 0 < s → IntKind.i64.wrap (y / s) = y / s := fun y h0 h1 h2 => by
    have h3 := Int.ediv_le_self s h0
    have h4 := Int.ediv_nonneg h0 (Int.le_of_lt h2)
    exact i64_sg (by omega) (by omega)
  have e3 : IntKind.i64.wrap (x / slot d p s) = x / slot d p s := by
    have h3 := Int.ediv_le_self (slot d p s) hx.1
    have h4 := Int.ediv_nonneg hx.1 hsb.1
    exact i64_sg (by omega) (by omega)
  simp [hs0, hs1, cellsOf_ne, cellsOf_new, apart, acut]
  refine (slot_ok d p s _).mono ?_
  rintro v1 h1 ⟨rfl, e⟩
  subst e
  simp [hs0, hs1, cellsOf_ne, cellsOf_new, apart, acut]
  refine ⟨?_, hext.push hcl _⟩
  unfold ofR
  rw [if_pos ⟨hr, hx⟩, tdiv_pos hx.1, tdiv_pos e1.1, tmod_pos e1.1, e3]
  rw [tmod_pos hx.1] at e1 ⊢
  rw [e2 _ e1.1 (by omega) (by omega)]

def halfR (d p s a b : Int) : Value := if right d p s = false then .tuple #[cI 0, cI 1] else if 0 ≤ a ∧ a ≤ 1 ∧ 0 ≤ b ∧ b ≤ 1 then .tuple #[cI (3 * slot d p s + (a * 2 + b) * 4), cI 0] else .tuple #[cI 0, cI 2]
theorem halfR_below {n : Nat} {d p s a b : Int} : VBelow n (halfR d p s a b) := by
  unfold halfR
  split
  · exact vb_tuple2 .int .int
  · split <;> exact vb_tuple2 .int .int
theorem half_ok (d p s a b : Int) (h : Heap) : ACalls Tryd.prog 51 [gv d p s, .int .i64 a, .int .i64 b] h fun v h' => v = halfR d p s a b ∧ h' = h := by
  refine ACalls.same halfR_below (acalls_of mix Tryd.func51 k51 n51 (by simp) fun hcl hb => ?_)
  have hext := (Heap.Ext.refl h).push hcl (.cells [.int .i64 d, .int .i64 p, .int .i64 s] .ex 1)
  simp [c51, gv, mcells, cellsOf_new, apart, acut]
  refine (rightG_ok d p s _).mono ?_
  rintro v1 h1 ⟨rfl, e⟩
  subst e
  by_cases hr : right d p s = true
  case neg =>
    have hr' : right d p s = false := by simpa using hr
    simp [hr', aun, halfR]
    exact hext
  have hsb := slot_bound (d := d) (p := p) (s := s)
  simp [hr, aun, afill, mcells]
  refine (within_ok [0, a, 1, 0, b, 1] 2 _ _ rfl (cellsOf_new _ _ _ _) (by omega)).mono ?_
  rintro v1 h1 ⟨rfl, e⟩
  subst e
  by_cases hx : 0 ≤ a ∧ a ≤ 1 ∧ 0 ≤ b ∧ b ≤ 1
  case neg =>
    have hwf : within [0, a, 1, 0, b, 1] = false := by simp [within]; omega
    simp [hwf, aun, halfR, hx, hr]
    exact hext.push hcl _
  have hwt : within [0, a, 1, 0, b, 1] = true := by simp [within]; omega
  simp [hwt, aun, cellsOf_ne, cellsOf_new, apart, acut]
  refine (log_ok d p s _).mono ?_
  rintro v1 h1 ⟨rfl, e⟩
  subst e
  simp
  refine ⟨?_, hext.push hcl _⟩
  unfold halfR
  rw [if_neg (by rw [hr]; decide), if_pos hx, i64_sg (n := a * 2) (by omega) (by omega), i64_sg (n := a * 2 + b) (by omega) (by omega), i64_sg (n := (a * 2 + b) * 4) (by omega) (by omega), i64_sg (by omega) (by omega)]
def tallyR (d p s a : Int) : Value := if right d p s = false then .tuple #[cI 0, cI 1] else if 0 ≤ a ∧ a ≤ 1 then .tuple #[cI (3 * slot d p s + 16 + a), cI 0] else .tuple #[cI 0, cI 2]
theorem tallyR_below {n : Nat} {d p s a : Int} : VBelow n (tallyR d p s a) := by
  unfold tallyR
  split
  · exact vb_tuple2 .int .int
  · split <;> exact vb_tuple2 .int .int
theorem tally_ok (d p s a : Int) (h : Heap) : ACalls Tryd.prog 53 [gv d p s, .int .i64 a] h fun v h' => v = tallyR d p s a ∧ h' = h := by
  refine ACalls.same tallyR_below (acalls_of mix Tryd.func53 k53 n53 (by simp) fun hcl hb => ?_)
  have hext := (Heap.Ext.refl h).push hcl (.cells [.int .i64 d, .int .i64 p, .int .i64 s] .ex 1)
  simp [c53, gv, mcells, cellsOf_new, apart, acut]
  refine (rightG_ok d p s _).mono ?_
  rintro v1 h1 ⟨rfl, e⟩
  subst e
  by_cases hr : right d p s = true
  case neg =>
    have hr' : right d p s = false := by simpa using hr
    simp [hr', aun, tallyR]
    exact hext
  have hsb := slot_bound (d := d) (p := p) (s := s)
  simp [hr, aun, afill, mcells]
  refine (within_ok [0, a, 1] 1 _ _ rfl (cellsOf_new _ _ _ _) (by omega)).mono ?_
  rintro v1 h1 ⟨rfl, e⟩
  subst e
  by_cases hx : 0 ≤ a ∧ a ≤ 1
  case neg =>
    have hwf : within [0, a, 1] = false := by simp [within]; omega
    simp [hwf, aun, tallyR, hx, hr]
    exact hext.push hcl _
  have hwt : within [0, a, 1] = true := by simp [within]; omega
  simp [hwt, aun, cellsOf_ne, cellsOf_new, apart, acut]
  refine (all_ok d p s _).mono ?_
  rintro v1 h1 ⟨rfl, e⟩
  subst e
  simp
  refine ⟨?_, hext.push hcl _⟩
  have ha : allS d p s = 3 * slot d p s + 18 := by unfold allS; rw [if_pos hr]
  unfold tallyR
  rw [ha, if_neg (by rw [hr]; decide), if_pos hx, i64_sg (n := 3 * slot d p s + 18 - 2) (by omega) (by omega), i64_sg (by omega) (by omega)]
  congr 5
  omega
def sectorR (d p s a k i : Int) : Value := if right d p s = false then .tuple #[cI 0, cI 1] else if 0 ≤ a ∧ a ≤ 2 ∧ 0 ≤ k ∧ k ≤ s - 1 ∧ 0 ≤ i ∧ i ≤ wide d p s - 1 then .tuple #[cI (a * slot d p s + i * s + k), cI 0] else .tuple #[cI 0, cI 2]
theorem sectorR_below {n : Nat} {d p s a k i : Int} : VBelow n (sectorR d p s a k i) := by
  unfold sectorR
  split
  · exact vb_tuple2 .int .int
  · split <;> exact vb_tuple2 .int .int
theorem sector_ok (d p s a k i : Int) (h : Heap) : ACalls Tryd.prog 45 [gv d p s, .int .i64 a, .int .i64 k, .int .i64 i] h fun v h' => v = sectorR d p s a k i ∧ h' = h := by
  refine ACalls.same sectorR_below (acalls_of mix Tryd.func45 k45 n45 (by simp) fun hcl hb => ?_)
  have hext := (Heap.Ext.refl h).push hcl (.cells [.int .i64 d, .int .i64 p, .int .i64 s] .ex 1)
  simp [c45, gv, mcells, cellsOf_new, apart, acut]
  refine (rightG_ok d p s _).mono ?_
  rintro v1 h1 ⟨rfl, e⟩
  subst e
  by_cases hr : right d p s = true
  case neg =>
    have hr' : right d p s = false := by simpa using hr
    simp [hr', aun, sectorR]
    exact hext
  have hp := right_prop.1 hr
  have hsb := slot_bound (d := d) (p := p) (s := s)
  have hsr := slot_right hr
  have hw : wide d p s = d + p := by unfold wide; rw [if_pos hr]
  simp [hr, aun, cellsOf_new, apart, acut]
  refine (wide_ok d p s _).mono ?_
  rintro v1 h1 ⟨rfl, e⟩
  subst e
  have w1 : IntKind.i64.wrap (s - 1) = s - 1 := i64_sg (by omega) (by omega)
  have w2 : IntKind.i64.wrap (wide d p s - 1) = wide d p s - 1 := i64_sg (by omega) (by omega)
  simp [afill, mcells, cellsOf_new, apart, w1, w2]
  refine (within_ok [0, a, 2, 0, k, s - 1, 0, i, wide d p s - 1] 3 _ _ rfl (cellsOf_new _ _ _ _) (by omega)).mono ?_
  rintro v1 h1 ⟨rfl, e⟩
  subst e
  by_cases hx : 0 ≤ a ∧ a ≤ 2 ∧ 0 ≤ k ∧ k ≤ s - 1 ∧ 0 ≤ i ∧ i ≤ wide d p s - 1
  case neg =>
    have hwf : within [0, a, 2, 0, k, s - 1, 0, i, wide d p s - 1] = false := by simp [within]; omega
    simp [hwf, aun, sectorR, hx, hr]
    exact hext.push hcl _
  have hwt : within [0, a, 2, 0, k, s - 1, 0, i, wide d p s - 1] = true := by simp [within]; omega
  simp [hwt, aun, cellsOf_ne, cellsOf_new, apart, acut]
  refine (slot_ok d p s _).mono ?_
  rintro v1 h1 ⟨rfl, e⟩
  subst e
  simp [cellsOf_ne, cellsOf_new, apart]
  refine ⟨?_, hext.push hcl _⟩
  have m1 := mulb (a := a) (b := slot d p s) (m := 2) (n := 112) (by omega) (by omega) (by omega) (by omega)
  have m2 := mulb (a := i) (b := s) (m := 14) (n := 8) (by omega) (by omega) (by omega) (by omega)
  unfold sectorR
  rw [if_neg (by rw [hr]; decide), if_pos hx, i64_sg (n := a * slot d p s) (by omega) (by omega), i64_sg (n := i * s) (by omega) (by omega), i64_sg (n := a * slot d p s + i * s) (by omega) (by omega), i64_sg (by omega) (by omega)]

theorem gRefRight_ok (d p s : Int) (h : Heap) : ACalls Tryd.prog 14 [gv d p s] h fun v h' => v = .bool (right d p s) ∧ h' = h := by
  refine ACalls.same .bool (acalls_of mix Tryd.func14 k14 n14 (by simp) fun hcl hb => ?_)
  have hext := (Heap.Ext.refl h).push hcl (.cells [.int .i64 d, .int .i64 p, .int .i64 s] .ex 1)
  simp [c14, gv, mcells, cellsOf_new, apart]
  by_cases h1 : 1 ≤ d
  case neg => simp [h1, right]; exact hext
  by_cases h2 : d ≤ 8
  case neg => simp [h1, h2, right, cellsOf_new, apart]; exact hext
  by_cases h3 : 2 ≤ p
  case neg => simp [h1, h2, h3, right, cellsOf_new, apart]; exact hext
  by_cases h4 : p ≤ 6
  case neg => simp [h1, h2, h3, h4, right, cellsOf_new, apart]; exact hext
  by_cases h5 : 1 ≤ s
  case neg => simp [h1, h2, h3, h4, h5, right, cellsOf_new, apart]; exact hext
  simp [h1, h2, h3, h4, h5, right, cellsOf_new, apart]
  exact hext
theorem gawake_ok (h : Heap) : ACalls Tryd.prog 12 [] h fun v h' => v = .bool true ∧ h' = h := by
  refine ACalls.same .bool (acalls_of mix Tryd.func12 k12 n12 (by simp) fun hcl hb => ?_)
  have hext := (Heap.Ext.refl h).push hcl (.cells [.int .i64 2, .int .i64 2, .int .i64 3] .ex 1)
  simp [c12, afill, mcells, cellsOf_new, apart, aput, set_push, acut]
  refine (sector_ok 2 2 3 1 2 1 _).mono ?_
  rintro v1 h1 ⟨rfl, e⟩
  subst e
  have hs : sectorR 2 2 3 1 2 1 = .tuple #[cI 17, cI 0] := by rfl
  rw [hs]
  simp [cellsOf_new, apart, acut]
  refine (rightG_ok 2 2 3 _).mono ?_
  rintro v1 h1 ⟨rfl, e⟩
  subst e
  have hr : right 2 2 3 = true := by rfl
  rw [hr]
  simp [cellsOf_new, apart, acut]
  refine (slot_ok 2 2 3 _).mono ?_
  rintro v1 h1 ⟨rfl, e⟩
  subst e
  have hr : slot 2 2 3 = 12 := by rfl
  rw [hr]
  simp
  exact hext
/-! maps whose keys are pairs of numbers -/

theorem sec_code {d p s a k i : Int} (hr : right d p s = true) (ha : 0 ≤ a ∧ a ≤ 2) (hk : 0 ≤ k ∧ k < s) (hi : 0 ≤ i ∧ i < d + p) :
    (a * slot d p s + i * s + k) / slot d p s = a ∧ (a * slot d p s + i * s + k) % slot d p s % s = k ∧ (a * slot d p s + i * s + k) % slot d p s / s = i ∧ 0 ≤ a * slot d p s + i * s + k ∧ a * slot d p s + i * s + k < 3 * slot d p s := by
  have hsr := slot_right hr
  have hp := right_prop.1 hr
  have hm0 : 0 ≤ i * s := Int.mul_nonneg (by omega) (by omega)
  have hm1 : i * s + s ≤ (d + p) * s := by
    have : (i + 1) * s ≤ (d + p) * s := Int.mul_le_mul_of_nonneg_right (by omega) (by omega)
    rw [Int.add_mul, Int.one_mul] at this
    exact this
  rw [← hsr.1] at hm1
  have hS : 0 < slot d p s := by omega
  have e0 : a * slot d p s + i * s + k = (i * s + k) + a * slot d p s := by omega
  have hlt : i * s + k < slot d p s := by omega
  have ha2 : a * slot d p s ≤ 2 * slot d p s := Int.mul_le_mul_of_nonneg_right ha.2 (by omega)
  have ha0 : 0 ≤ a * slot d p s := Int.mul_nonneg ha.1 (by omega)
  refine ⟨?_, ?_, ?_, by omega, by omega⟩
  · rw [e0, Int.add_mul_ediv_right _ _ (by omega), Int.ediv_eq_zero_of_lt (by omega) hlt]; omega
  · rw [e0, Int.add_mul_emod_self_right, Int.emod_eq_of_lt (by omega) hlt, Int.add_comm, Int.add_mul_emod_self_right, Int.emod_eq_of_lt hk.1 hk.2]
  · rw [e0, Int.add_mul_emod_self_right, Int.emod_eq_of_lt (by omega) hlt, Int.add_comm, Int.add_mul_ediv_right _ _ (by omega), Int.ediv_eq_zero_of_lt hk.1 hk.2]; omega
/-! the document's list -/
abbrev Pl := Int × Int × Int × Int
def plv (x : Pl) : List Value := [cI x.1, cI x.2.1, cI x.2.2.1, cI x.2.2.2]
def place (d p s n : Int) : Pl := if n < 3 * slot d p s then (0, n / slot d p s, n % slot d p s % s, n % slot d p s / s)
  else if n < 3 * slot d p s + 16 then (1, (n - 3 * slot d p s) / 8, (n - 3 * slot d p s) % 8 / 4, (n - 3 * slot d p s) % 4) else (2, n - 3 * slot d p s - 16, 0, 0)
def places (d p s : Int) (n : Nat) : List Value := (List.range n).flatMap fun i => plv (place d p s (i : Nat))
theorem places_succ (d p s : Int) (n : Nat) : places d p s (n + 1) = places d p s n ++ plv (place d p s n) := by
  unfold places
  rw [List.range_succ, List.flatMap_append]
  simp
theorem places_len (d p s : Int) (n : Nat) : (places d p s n).length = n * 4 := by
  induction n with
  | zero => rfl
  | succ n ih => rw [places_succ, List.length_append, ih]; simp [plv]; omega
theorem places_get (d p s : Int) (n i : Nat) (hi : i < n) : acut (places d p s n) (i * 4) 4 = some (plv (place d p s i)) := by
  unfold acut
  rw [if_pos (by rw [places_len]; omega)]
  congr 1
  induction n with
  | zero => omega
  | succ n ih =>
    rw [places_succ]
    by_cases hin : i < n
    · rw [List.drop_append_of_le_length (by rw [places_len]; omega), List.take_append_of_le_length (by rw [List.length_drop, places_len]; omega)]
      exact ih hin
    · have : i = n := by omega
      subst this
      rw [List.drop_append, List.drop_of_length_le (by rw [places_len]; omega), places_len]
      simp [plv]
theorem places_below {n : Nat} {d p s : Int} {k : Nat} : ∀ x ∈ places d p s k, VBelow n x := fun x hx => by
  unfold places at hx
  obtain ⟨i, _, hx⟩ := List.mem_flatMap.1 hx
  simp [plv] at hx
  rcases hx with rfl | rfl | rfl | rfl <;> exact .int
/-- the list, as it lies -/
def Lst (d p s : Int) (h : Heap) (v : Value) (n : Nat) : Prop := ∃ b cap m e, v = .slice (some ⟨b, 0, none⟩) n cap ∧ h.cellsOf b = some (places d p s n, m, e)
theorem pv_ints (x : Pl) : acut (plv x) 0 4 = some (plv x) := rfl
/-- one more is appended to the list -/
theorem own_place {h H : Heap} {d p s : Int} {n : Nat} {v : Value} (o : Own h 4 n (places d p s n) v H) (hc : h.Closed) (hn : n ≤ 1000) :
    ∃ a c, v = .slice a n c ∧ ∃ v2 H2 H3, aapp (H.push (.cells (plv (place d p s n)) .ex 1)) 34 4 32 a n c (plv (place d p s n)) 1 = some (v2, H2) ∧ Own h 4 (n + 1) (places d p s (n + 1)) v2 H3 ∧ H3.n = H2.n ∧ (∀ b o, H3.m b = some o → H2.m b = some o) := by
  rw [places_succ]
  exact o.app (t := 34) (H' := H.push (.cells (plv (place d p s n)) .ex 1)) (bytes := 32) (k := 1) (new := plv (place d p s n)) hc (by show H.n ≤ H.n + 1; omega) (fun b hb => by rw [push_m, if_neg (by omega)]) (by omega) rfl (by omega)
theorem place_slot {d p s : Int} (hr : right d p s = true) {a k i : Int} (ha : 0 ≤ a ∧ a ≤ 2) (hk : 0 ≤ k ∧ k < s) (hi : 0 ≤ i ∧ i < d + p) : place d p s (a * slot d p s + i * s + k) = (0, a, k, i) := by
  obtain ⟨e1, e2, e3, e4, e5⟩ := sec_code hr ha hk hi
  unfold place
  rw [if_pos e5, e1, e2, e3]
theorem place_log {d p s : Int} {a c i : Int} (ha : 0 ≤ a ∧ a ≤ 1) (hk : 0 ≤ c ∧ c ≤ 1) (hi : 0 ≤ i ∧ i < 4) : place d p s (3 * slot d p s + 8 * a + 4 * c + i) = (1, a, c, i) := by
  unfold place
  rw [if_neg (by omega), if_pos (by omega)]
  have e : 3 * slot d p s + 8 * a + 4 * c + i - 3 * slot d p s = 8 * a + 4 * c + i := by omega
  rw [e]
  congr 3 <;> omega
theorem place_tally {d p s : Int} {a : Int} (ha : 0 ≤ a) : place d p s (3 * slot d p s + 16 + a) = (2, a, 0, 0) := by
  unfold place
  rw [if_neg (by omega), if_neg (by omega)]
  congr 2
  omega

theorem list_ok (d p s : Int) (hr : right d p s = true) (h : Heap) : ACalls Tryd.prog 15 [gv d p s] h fun v h' => Lst d p s h' v (3 * slot d p s + 18).toNat ∧ h.Sub h.n h' := by
  refine acalls_of mix Tryd.func15 k15 n15 (by simp) fun hcl hb => ?_
  have hp := right_prop.1 hr
  have hsb := slot_bound (d := d) (p := p) (s := s)
  have hsr := slot_right hr
  obtain ⟨S, hS⟩ : ∃ S : Nat, slot d p s = S := ⟨(slot d p s).toNat, by omega⟩
  obtain ⟨sn, hsn⟩ : ∃ n : Nat, s = n := ⟨s.toNat, by omega⟩
  obtain ⟨w, hwn⟩ : ∃ n : Nat, d + p = n := ⟨(d + p).toNat, by omega⟩
  have hSw : S = w * sn := by
    have := hsr.1
    rw [hS, hwn, hsn] at this
    exact_mod_cast this
  have hwi : IntKind.i64.wrap (d + p) = w := by rw [i64_sg (by omega) (by omega), hwn]
  simp [c15, gv, mcells, cellsOf_new, apart, acut, afill]
  have hboxc : (h.push (.cells [.int .i64 d, .int .i64 p, .int .i64 s] .ex 1)).Closed := closed_push hcl (by intro x hx; simp at hx; rcases hx with rfl | rfl | rfl <;> exact .int)
  generalize hB : h.push (.cells [.int .i64 d, .int .i64 p, .int .i64 s] .ex 1) = HB at *
  have hBn : HB.n = h.n + 1 := by rw [← hB]; rfl
  have hBc : HB.cellsOf h.n = some ([.int .i64 d, .int .i64 p, .int .i64 s], .ex, 1) := by rw [← hB]; exact cellsOf_new _ _ _ _
  have hold : ∀ {n v H}, Own HB 4 n (places d p s n) v H → H.cellsOf h.n = some ([.int .i64 d, .int .i64 p, .int .i64 s], .ex, 1) := fun o => by
    have := o.old (b := h.n) (by omega)
    unfold Heap.cellsOf at hBc ⊢
    rw [this]; exact hBc
  have hsubB : h.Sub h.n HB := by rw [← hB]; exact ((Heap.Ext.refl h).push hcl _).sub hcl
  have hsub : ∀ {n v H}, Own HB 4 n (places d p s n) v H → H.Sub h.n H := fun o => ⟨by have := o.1; omega, Nat.le_refl _, fun _ _ e => e, o.closed hboxc places_below⟩
  have bp : ∀ {n v H}, Own HB 4 n (places d p s n) v H → VBelow H.n (.pointer (some ⟨h.n, 0, none⟩)) := fun o => .ptr (by have := o.1; show h.n < _; omega)
  refine awp_loop_of (α := Nat × Value × Heap) (fun x => x.1 ≤ 3 ∧ Own HB 4 (x.1 * S) (places d p s (x.1 * S)) x.2.1 x.2.2)
    (fun x => [(1, .pointer (some ⟨h.n, 0, none⟩)), (3, x.2.1), (4, .int .i64 x.1)]) (fun x => x.2.2) (fun x => 3 - x.1) (0, .slice (some ⟨HB.n, 0, none⟩) 0 0, HB.push (.cells [] .ex 1))
    ⟨by show 0 ≤ 3; omega, by rw [Nat.zero_mul]; exact Own.made HB 4⟩ (by have := hsub (n := 0) (Own.made HB 4); exact this) (by simp; exact ⟨.ptr (by show h.n < HB.n + 1; omega), .slice (Nat.lt_succ_self _), .int⟩) ?_
  rintro ⟨a, v, H⟩ ⟨ha, ho⟩
  dsimp only at ha ho
  by_cases ha3 : a < 3
  · have ha3' : (a : Int) < 3 := by omega
    simp [ha3']
    refine awp_loop_of (α := Nat × Value × Heap) (fun x => x.1 ≤ w ∧ Own HB 4 (a * S + x.1 * sn) (places d p s (a * S + x.1 * sn)) x.2.1 x.2.2)
      (fun x => [(1, .pointer (some ⟨h.n, 0, none⟩)), (3, x.2.1), (4, .int .i64 a), (5, .int .i64 x.1)]) (fun x => x.2.2) (fun x => w - x.1) (0, v, H)
      ⟨Nat.zero_le _, by simpa using ho⟩ (hsub ho) (by simp; exact ⟨bp ho, ho.below, .int, .int⟩) ?_
    clear ho
    rintro ⟨i, v, H⟩ ⟨hi, ho⟩
    dsimp only at hi ho
    have hHc := hold ho
    simp [hHc, apart, hwi]
    by_cases hiw : i < w
    · simp [hiw]
      refine awp_loop_of (α := Nat × Value × Heap) (fun x => x.1 ≤ sn ∧ Own HB 4 (a * S + i * sn + x.1) (places d p s (a * S + i * sn + x.1)) x.2.1 x.2.2)
        (fun x => [(1, .pointer (some ⟨h.n, 0, none⟩)), (3, x.2.1), (4, .int .i64 a), (5, .int .i64 i), (6, .int .i64 x.1)]) (fun x => x.2.2) (fun x => sn - x.1) (0, v, H)
        ⟨Nat.zero_le _, by simpa using ho⟩ (hsub ho) (by simp; exact ⟨bp ho, ho.below, .int, .int, .int⟩) ?_
      clear ho hHc
      rintro ⟨k, v, H⟩ ⟨hk, ho⟩
      dsimp only at hk ho
      have hHc := hold ho
      simp [hHc, apart]
      by_cases hks : k < sn
      · have hb1 : a * S + i * sn + k < 3 * S := by
          have := (sec_code hr (a := a) (k := k) (i := i) (by omega) (by omega) (by omega)).2.2.2.2
          rw [hS, hsn] at this
          exact_mod_cast this
        have hpl : place d p s ((a * S + i * sn + k : Nat) : Int) = (0, (a : Int), (k : Int), (i : Int)) := by
          have := place_slot hr (a := a) (k := k) (i := i) (by omega) (by omega) (by omega)
          rw [hS, hsn] at this
          rw [← this]; congr 1
        obtain ⟨a', cc, rfl, v2, H2, H3, happ, ho3, hn3, hin3⟩ := own_place ho hboxc (by omega)
        rw [hpl] at happ
        have hks' : (k : Int) < s := by omega
        simp [hks', afill, mcells, alen, afirst, cellsOf_new, acut, plv] at happ ⊢
        simp [happ]
        have hge := ho3.1
        refine ⟨k + 1, by omega, v2, H3, ⟨by omega, ho3⟩, ⟨by omega, by omega, hin3, (hsub ho3).cl⟩, bp ho3, ⟨rfl, ho3.below⟩, .int, .int, ?_, .int⟩
        rw [i64_sg (by omega) (by omega)]; omega
      · have hke : k = sn := by omega
        subst hke
        have hks' : ¬ (k : Int) < s := by omega
        simp [hks']
        refine ⟨i + 1, by omega, v, H, ⟨by omega, ?_⟩, hsub ho, bp ho, ⟨rfl, ho.below⟩, .int, ?_, .int⟩
        · rw [show a * S + (i + 1) * k = a * S + i * k + k by rw [Nat.add_mul]; omega]; exact ho
        · rw [i64_sg (by omega) (by omega)]; omega
    · have hie : i = w := by omega
      subst hie
      simp
      refine ⟨a + 1, by omega, v, H, ⟨by omega, ?_⟩, hsub ho, bp ho, ⟨rfl, ho.below⟩, ?_, .int⟩
      · rw [show (a + 1) * S = a * S + i * sn by rw [Nat.add_mul, hSw]; omega]; exact ho
      · rw [i64_sg (by omega) (by omega)]; omega
  · have hae : a = 3 := by omega
    subst hae
    simp
    refine awp_loop_of (α := Nat × Value × Heap) (fun x => x.1 ≤ 2 ∧ Own HB 4 (3 * S + 8 * x.1) (places d p s (3 * S + 8 * x.1)) x.2.1 x.2.2)
      (fun x => [(3, x.2.1), (7, .int .i64 x.1)]) (fun x => x.2.2) (fun x => 2 - x.1) (0, v, H)
      ⟨by show 0 ≤ 2; omega, by simpa using ho⟩ (hsub ho) (by simp; exact ⟨ho.below, .int⟩) ?_
    clear ho
    rintro ⟨a, v, H⟩ ⟨ha, ho⟩
    dsimp only at ha ho
    by_cases ha2 : a < 2
    · have ha2' : (a : Int) < 2 := by omega
      simp [ha2']
      refine awp_loop_of (α := Nat × Value × Heap) (fun x => x.1 ≤ 2 ∧ Own HB 4 (3 * S + 8 * a + 4 * x.1) (places d p s (3 * S + 8 * a + 4 * x.1)) x.2.1 x.2.2)
        (fun x => [(3, x.2.1), (7, .int .i64 a), (8, .int .i64 x.1)]) (fun x => x.2.2) (fun x => 2 - x.1) (0, v, H)
        ⟨by show 0 ≤ 2; omega, by simpa using ho⟩ (hsub ho) (by simp; exact ⟨ho.below, .int, .int⟩) ?_
      clear ho
      rintro ⟨c, v, H⟩ ⟨hc, ho⟩
      dsimp only at hc ho
      by_cases hc2 : c < 2
      · have hc2' : (c : Int) < 2 := by omega
        simp [hc2']
        refine awp_loop_of (α := Nat × Value × Heap) (fun x => x.1 ≤ 4 ∧ Own HB 4 (3 * S + 8 * a + 4 * c + x.1) (places d p s (3 * S + 8 * a + 4 * c + x.1)) x.2.1 x.2.2)
          (fun x => [(3, x.2.1), (7, .int .i64 a), (8, .int .i64 c), (9, .int .i64 x.1)]) (fun x => x.2.2) (fun x => 4 - x.1) (0, v, H)
          ⟨by show 0 ≤ 4; omega, by simpa using ho⟩ (hsub ho) (by simp; exact ⟨ho.below, .int, .int, .int⟩) ?_
        clear ho
        rintro ⟨i, v, H⟩ ⟨hi, ho⟩
        dsimp only at hi ho
        by_cases hi4 : i < 4
        · have hi4' : (i : Int) < 4 := by omega
          have hpl : place d p s ((3 * S + 8 * a + 4 * c + i : Nat) : Int) = (1, (a : Int), (c : Int), (i : Int)) := by
            have := place_log (d := d) (p := p) (s := s) (a := a) (c := c) (i := i) (by omega) (by omega) (by omega)
            rw [hS] at this
            rw [← this]; congr 1
          obtain ⟨a', cc, rfl, v2, H2, H3, happ, ho3, hn3, hin3⟩ := own_place ho hboxc (by omega)
          rw [hpl] at happ
          simp [hi4', afill, mcells, alen, afirst, cellsOf_new, acut, plv] at happ ⊢
          simp [happ]
          have hge := ho3.1
          refine ⟨i + 1, by omega, v2, H3, ⟨by omega, ho3⟩, ⟨by omega, by omega, hin3, (hsub ho3).cl⟩, ⟨rfl, ho3.below⟩, .int, .int, ?_, .int⟩
          rw [i64_sg (by omega) (by omega)]; omega
        · have hie : i = 4 := by omega
          subst hie
          simp
          refine ⟨c + 1, by omega, v, H, ⟨by omega, ?_⟩, hsub ho, ⟨rfl, ho.below⟩, .int, ?_, .int⟩
          · rw [show 3 * S + 8 * a + 4 * (c + 1) = 3 * S + 8 * a + 4 * c + 4 by omega]; exact ho
          · rw [i64_sg (by omega) (by omega)]; omega
      · have hce : c = 2 := by omega
        subst hce
        simp
        refine ⟨a + 1, by omega, v, H, ⟨by omega, ?_⟩, hsub ho, ⟨rfl, ho.below⟩, ?_, .int⟩
        · rw [show 3 * S + 8 * (a + 1) = 3 * S + 8 * a + 4 * 2 by omega]; exact ho
        · rw [i64_sg (by omega) (by omega)]; omega
    · have hae : a = 2 := by omega
      subst hae
      simp
      refine awp_loop_of (α := Nat × Value × Heap) (fun x => x.1 ≤ 2 ∧ Own HB 4 (3 * S + 16 + x.1) (places d p s (3 * S + 16 + x.1)) x.2.1 x.2.2)
        (fun x => [(3, x.2.1), (10, .int .i64 x.1)]) (fun x => x.2.2) (fun x => 2 - x.1) (0, v, H)
        ⟨by show 0 ≤ 2; omega, by simpa using ho⟩ (hsub ho) (by simp; exact ⟨ho.below, .int⟩) ?_
      clear ho
      rintro ⟨a, v, H⟩ ⟨ha, ho⟩
      dsimp only at ha ho
      by_cases ha2 : a < 2
      · have ha2' : (a : Int) < 2 := by omega
        have hpl : place d p s ((3 * S + 16 + a : Nat) : Int) = (2, (a : Int), 0, 0) := by
          have := place_tally (d := d) (p := p) (s := s) (a := a) (by omega)
          rw [hS] at this
          rw [← this]; congr 1
        obtain ⟨a', cc, rfl, v2, H2, H3, happ, ho3, hn3, hin3⟩ := own_place ho hboxc (by omega)
        rw [hpl] at happ
        simp [ha2', afill, mcells, alen, afirst, cellsOf_new, acut, plv] at happ ⊢
        simp [happ]
        have hge := ho3.1
        refine ⟨a + 1, by omega, v2, H3, ⟨by omega, ho3⟩, ⟨by omega, by omega, hin3, (hsub ho3).cl⟩, ⟨rfl, ho3.below⟩, ?_, .int⟩
        rw [i64_sg (by omega) (by omega)]; omega
      · have hae : a = 2 := by omega
        subst hae
        simp
        refine ⟨?_, ⟨Nat.le_refl _, by have := ho.1; omega, fun b o e => (ho.sub hboxc).sub b o (hsubB.sub b o e), hcl⟩⟩
        rw [hS, show (3 * (S : Int) + 18).toNat = 3 * S + 16 + 2 by omega]
        obtain ⟨_, ⟨_, _, h0, _⟩ | ⟨nm, md, e, _, h2, rfl, _, _, hH⟩⟩ := ho
        · omega
        · exact ⟨nm, _, md, e, rfl, by unfold Heap.cellsOf; rw [hH, with1_m, if_pos rfl]⟩

def c100_6 : AC := .seq (.seq (.ops [⟨ some 80, none, .mv (.tmp 12) ⟩, ⟨ some 81, none, .mv (.tmp 0) ⟩, ⟨ some 82, none, .lenS true (.tmp 81) ⟩, ⟨ some 83, none, .bin .lss (.tmp 80) (.tmp 82) ⟩, ⟨ some 84, none, .mv (.tmp 83) ⟩, ⟨ some 85, some (84, true), .mv (.tmp 0) ⟩, ⟨ some 86, some (84, true), .mv (.tmp 12) ⟩, ⟨ some 87, some (84, true), .iStr (.tmp 85) (.tmp 86) ⟩, ⟨ some 88, some (84, true), .iAddrA 256 1 (.global 0) (.tmp 87) ⟩, ⟨ some 89, some (84, true), .load none (.tmp 88) ⟩, ⟨ some 90, some (84, true), .bin .neq (.tmp 89) (.const (.int .u8 0)) ⟩, ⟨ some 91, none, .pick (.tmp 84) (.tmp 90) (.const (.bool false)) ⟩]) (.cond (.tmp 91) .skip (.exit 6))) (.block 7 (.ops [⟨ some 92, none, .mv (.tmp 12) ⟩, ⟨ some 93, none, .bin .add (.tmp 92) (.const (.int .i64 1)) ⟩, ⟨ some 12, none, .mv (.tmp 93) ⟩]))
def c100_4 : AC := .seq (.seq (.ops [⟨ some 57, none, .mv (.tmp 12) ⟩, ⟨ some 58, none, .mv (.tmp 0) ⟩, ⟨ some 59, none, .lenS true (.tmp 58) ⟩, ⟨ some 60, none, .bin .lss (.tmp 57) (.tmp 59) ⟩]) (.cond (.tmp 60) .skip (.exit 4))) (.block 5 (.seq (.seq (.ops [⟨ some 61, none, .mv (.tmp 0) ⟩, ⟨ some 62, none, .mv (.tmp 12) ⟩, ⟨ some 63, none, .iStr (.tmp 61) (.tmp 62) ⟩, ⟨ some 64, none, .iAddrA 256 1 (.global 0) (.tmp 63) ⟩, ⟨ some 65, none, .load none (.tmp 64) ⟩, ⟨ some 66, none, .bin .eql (.tmp 65) (.const (.int .u8 0)) ⟩]) (.cond (.tmp 66) (.seq (.ops [⟨ some 67, none, .mv (.tmp 12) ⟩, ⟨ some 68, none, .bin .add (.tmp 67) (.const (.int .i64 1)) ⟩, ⟨ some 12, none, .mv (.tmp 68) ⟩]) (.exit 5)) .skip)) (.seq (.ops [⟨ some 69, none, .mv (.tmp 9) ⟩, ⟨ some 70, none, .mv (.tmp 10) ⟩, ⟨ some 71, none, .mv (.tmp 0) ⟩, ⟨ some 72, none, .mv (.tmp 11) ⟩, ⟨ some 73, none, .mv (.tmp 12) ⟩, ⟨ some 74, none, .slS (.tmp 71) (some (.tmp 72)) (some (.tmp 73)) ⟩, ⟨ some 75, none, .iAddrS 1 (.tmp 69) (.tmp 70) ⟩, ⟨ none, none, .store 1 (.tmp 75) (.tmp 74) ⟩]) (.seq (.ops [⟨ some 76, none, .mv (.tmp 10) ⟩, ⟨ some 77, none, .bin .add (.tmp 76) (.const (.int .i64 1)) ⟩, ⟨ some 10, none, .mv (.tmp 77) ⟩]) (.seq (.ops [⟨ some 78, none, .mv (.tmp 12) ⟩, ⟨ some 79, none, .bin .add (.tmp 78) (.const (.int .i64 1)) ⟩, ⟨ some 12, none, .mv (.tmp 79) ⟩]) (.seq (.block 6 (.loop c100_6)) (.ops [⟨ some 94, none, .mv (.tmp 12) ⟩, ⟨ some 11, none, .mv (.tmp 94) ⟩])))))))
def c100_2 : AC := .seq (.seq (.ops [⟨ some 42, none, .mv (.tmp 12) ⟩, ⟨ some 43, none, .mv (.tmp 0) ⟩, ⟨ some 44, none, .lenS true (.tmp 43) ⟩, ⟨ some 45, none, .bin .lss (.tmp 42) (.tmp 44) ⟩, ⟨ some 46, none, .mv (.tmp 45) ⟩, ⟨ some 47, some (46, true), .mv (.tmp 0) ⟩, ⟨ some 48, some (46, true), .mv (.tmp 12) ⟩, ⟨ some 49, some (46, true), .iStr (.tmp 47) (.tmp 48) ⟩, ⟨ some 50, some (46, true), .iAddrA 256 1 (.global 0) (.tmp 49) ⟩, ⟨ some 51, some (46, true), .load none (.tmp 50) ⟩, ⟨ some 52, some (46, true), .bin .neq (.tmp 51) (.const (.int .u8 0)) ⟩, ⟨ some 53, none, .pick (.tmp 46) (.tmp 52) (.const (.bool false)) ⟩]) (.cond (.tmp 53) .skip (.exit 2))) (.block 3 (.ops [⟨ some 54, none, .mv (.tmp 12) ⟩, ⟨ some 55, none, .bin .add (.tmp 54) (.const (.int .i64 1)) ⟩, ⟨ some 12, none, .mv (.tmp 55) ⟩]))
def c100_0 : AC := .seq (.seq (.ops [⟨ some 13, none, .mv (.tmp 6) ⟩, ⟨ some 14, none, .mv (.tmp 0) ⟩, ⟨ some 15, none, .lenS true (.tmp 14) ⟩, ⟨ some 16, none, .bin .lss (.tmp 13) (.tmp 15) ⟩]) (.cond (.tmp 16) .skip (.exit 0))) (.seq (.block 1 (.seq (.ops [⟨ some 19, none, .mv (.tmp 0) ⟩, ⟨ some 20, none, .mv (.tmp 6) ⟩, ⟨ some 21, none, .iStr (.tmp 19) (.tmp 20) ⟩, ⟨ some 7, none, .mv (.tmp 21) ⟩]) (.seq (.ops [⟨ some 22, none, .mv (.tmp 5) ⟩, ⟨ some 23, none, .mv (.tmp 7) ⟩, ⟨ some 24, none, .bin .or (.tmp 22) (.tmp 23) ⟩, ⟨ some 5, none, .mv (.tmp 24) ⟩]) (.seq (.ops [⟨ some 25, none, .mv (.tmp 7) ⟩, ⟨ some 26, none, .iAddrA 256 1 (.global 0) (.tmp 25) ⟩, ⟨ some 27, none, .load none (.tmp 26) ⟩, ⟨ some 28, none, .toInt .i64 (.tmp 27) ⟩, ⟨ some 8, none, .mv (.tmp 28) ⟩]) (.seq (.ops [⟨ some 29, none, .mv (.tmp 3) ⟩, ⟨ some 30, none, .mv (.tmp 4) ⟩, ⟨ some 31, none, .mv (.tmp 8) ⟩, ⟨ some 32, none, .un .xor (.tmp 31) ⟩, ⟨ some 33, none, .bin .and (.tmp 30) (.tmp 32) ⟩, ⟨ some 34, none, .bin .add (.tmp 29) (.tmp 33) ⟩, ⟨ some 3, none, .mv (.tmp 34) ⟩]) (.ops [⟨ some 35, none, .mv (.tmp 8) ⟩, ⟨ some 4, none, .mv (.tmp 35) ⟩])))))) (.ops [⟨ some 17, none, .mv (.tmp 6) ⟩, ⟨ some 18, none, .bin .add (.tmp 17) (.const (.int .i64 1)) ⟩, ⟨ some 6, none, .mv (.tmp 18) ⟩]))
def c100 : AC := .seq (.ops [⟨ some 2, none, .mv (.const (.slice none 0 0)) ⟩]) (.seq (.ops [⟨ some 3, none, .mv (.const (.int .i64 0)) ⟩]) (.seq (.ops [⟨ some 4, none, .mv (.const (.int .i64 1)) ⟩]) (.seq (.ops [⟨ some 5, none, .mv (.const (.int .u8 0)) ⟩]) (.seq (.seq (.ops [⟨ some 6, none, .mv (.const (.int .i64 0)) ⟩]) (.block 0 (.loop c100_0))) (.seq (.seq (.ops [⟨ some 36, none, .mv (.tmp 5) ⟩, ⟨ some 37, none, .bin .geq (.tmp 36) (.const (.int .u8 128)) ⟩]) (.cond (.tmp 37) (.seq (.ops [⟨ some 38, none, .mv (.tmp 0) ⟩, ⟨ some 39, none, .call 121 [.tmp 38, .func 122] ⟩, ⟨ some 2, none, .mv (.tmp 39) ⟩]) .ret) .skip)) (.seq (.ops [⟨ some 40, none, .mv (.tmp 3) ⟩, ⟨ some 41, none, .mkSl [.string ⟨ ⟨[] ⟩ ⟩] 16 (.tmp 40) (.tmp 40) ⟩, ⟨ some 9, none, .mv (.tmp 41) ⟩]) (.seq (.ops [⟨ some 10, none, .mv (.const (.int .i64 0)) ⟩]) (.seq (.ops [⟨ some 11, none, .mv (.const (.int .i64 0)) ⟩]) (.seq (.ops [⟨ some 12, none, .mv (.const (.int .i64 0)) ⟩]) (.seq (.block 2 (.loop c100_2)) (.seq (.ops [⟨ some 56, none, .mv (.tmp 12) ⟩, ⟨ some 11, none, .mv (.tmp 56) ⟩]) (.seq (.block 4 (.loop c100_4)) (.seq (.seq (.ops [⟨ some 95, none, .mv (.tmp 11) ⟩, ⟨ some 96, none, .mv (.tmp 0) ⟩, ⟨ some 97, none, .lenS true (.tmp 96) ⟩, ⟨ some 98, none, .bin .lss (.tmp 95) (.tmp 97) ⟩]) (.cond (.tmp 98) (.ops [⟨ some 99, none, .mv (.tmp 9) ⟩, ⟨ some 100, none, .mv (.tmp 10) ⟩, ⟨ some 101, none, .mv (.tmp 0) ⟩, ⟨ some 102, none, .mv (.tmp 11) ⟩, ⟨ some 103, none, .slS (.tmp 101) (some (.tmp 102)) none ⟩, ⟨ some 104, none, .iAddrS 1 (.tmp 99) (.tmp 100) ⟩, ⟨ none, none, .store 1 (.tmp 104) (.tmp 103) ⟩]) .skip)) (.seq (.ops [⟨ some 105, none, .mv (.tmp 9) ⟩, ⟨ some 2, none, .mv (.tmp 105) ⟩]) .ret))))))))))))))
theorem k100 : compF Tryd.prog Tryd.f100 = some (c100, [2]) := by kernel_rfl
theorem n100 : Tryd.f100.ntmps = 106 := by kernel_rfl
/-! strings.Fields of words of small letters with one blank between each two -/
def isLow (c : UInt8) : Prop := 97 ≤ c.toNat ∧ c.toNat ≤ 122
structure GA : Prop where
  tab : ∃ T, GT 0 = some T ∧ T.length = 256 ∧ (∀ c, 97 ≤ c → c ≤ 122 → T[c]? = some (.int .u8 0)) ∧ T[32]? = some (.int .u8 1)
theorem ga [x : Nonempty GA] : GA := x.elim id
variable [Nonempty GA]
def sp1 (c : UInt8) : Nat := if c = 32 then 1 else 0
/-- how many words have begun, and whether a blank came last (or nothing) -/
structure FSt where
  n : Nat
  w : Nat
def fstep (z : FSt) (c : UInt8) : FSt := ⟨z.n + (if z.w = 1 ∧ sp1 c = 0 then 1 else 0), sp1 c⟩
def fcount (s : List UInt8) : FSt := s.foldl fstep ⟨0, 1⟩
theorem fcount_snoc (s : List UInt8) (c : UInt8) : fcount (s ++ [c]) = fstep (fcount s) c := by unfold fcount; rw [List.foldl_append]; rfl
theorem fcount_w (s : List UInt8) : (fcount s).w ≤ 1 ∧ (fcount s).n ≤ s.length := by
  have key : ∀ (s : List UInt8) (z : FSt), z.w ≤ 1 → (s.foldl fstep z).w ≤ 1 ∧ (s.foldl fstep z).n ≤ z.n + s.length := fun s => by
    induction s with
    | nil => intro z h; exact ⟨h, by simp⟩
    | cons c r ih =>
      intro z h
      have h1 : (fstep z c).w ≤ 1 := by show sp1 c ≤ 1; unfold sp1; split <;> omega
      have := ih (fstep z c) h1
      refine ⟨this.1, ?_⟩
      have h2 : (fstep z c).n ≤ z.n + 1 := by show z.n + _ ≤ _; split <;> omega
      rw [List.foldl_cons, List.length_cons]
      omega
  have := key s ⟨0, 1⟩ (by decide)
  simpa [fcount] using this
def lowL (l : List UInt8) : Prop := l ≠ [] ∧ ∀ c ∈ l, isLow c
theorem sp1_low {c : UInt8} (h : isLow c) : sp1 c = 0 := by
  unfold sp1
  rw [if_neg]
  rintro rfl
  have := h.1
  exact absurd this (by decide)
theorem fold_low : ∀ (l : List UInt8) (n : Nat), (∀ c ∈ l, isLow c) → l.foldl fstep ⟨n, 0⟩ = ⟨n, 0⟩
  | [], _, _ => rfl
  | c :: l, n, h => by
    rw [List.foldl_cons]
    have h1 := sp1_low (h c (by simp))
    have : fstep ⟨n, 0⟩ c = ⟨n, 0⟩ := by simp [fstep, h1]
    rw [this]
    exact fold_low l n fun d hd => h d (by simp [hd])
theorem fold_word (l : List UInt8) (n : Nat) (h : lowL l) : l.foldl fstep ⟨n, 1⟩ = ⟨n + 1, 0⟩ := by
  obtain ⟨h0, h1⟩ := h
  cases l with
  | nil => exact absurd rfl h0
  | cons c l =>
    rw [List.foldl_cons]
    have h2 := sp1_low (h1 c (by simp))
    have : fstep ⟨n, 1⟩ c = ⟨n + 1, 0⟩ := by simp [fstep, h2]
    rw [this]
    exact fold_low l _ fun d hd => h1 d (by simp [hd])
theorem fold_words : ∀ (W : List (List UInt8)) (n : Nat), W ≠ [] → (∀ w ∈ W, lowL w) → (joinB [32] W).foldl fstep ⟨n, 1⟩ = ⟨n + W.length, 0⟩
  | [], _, h, _ => absurd rfl h
  | [w], n, _, h => by
    have : joinB [32] [w] = w := by simp [joinB]
    rw [this, fold_word w n (h w (by simp))]
    rfl
  | w :: v :: W, n, _, h => by
    have : joinB [32] (w :: v :: W) = w ++ 32 :: joinB [32] (v :: W) := by simp [joinB]
    rw [this, List.foldl_append, fold_word w n (h w (by simp)), List.foldl_cons]
    have h2 : fstep ⟨n + 1, 0⟩ 32 = ⟨n + 1, 1⟩ := rfl
    rw [h2, fold_words (v :: W) (n + 1) (by simp) fun x hx => h x (by simp [hx])]
    simp; omega
/-- where the k-th word begins -/
def offW (W : List (List UInt8)) (k : Nat) : Nat := ((W.take k).map fun w => w.length + 1).sum
theorem offW_succ (W : List (List UInt8)) (k : Nat) (h : k < W.length) : offW W (k + 1) = offW W k + W[k].length + 1 := by
  unfold offW
  rw [List.take_succ_eq_append_getElem h, List.map_append, List.sum_append]
  simp
  omega
theorem join_drop : ∀ (W : List (List UInt8)) (k : Nat), k < W.length → (joinB [32] W).drop (offW W k) = joinB [32] (W.drop k) ∧ offW W k ≤ (joinB [32] W).length
  | [], k, h => by simp at h
  | w :: W, 0, _ => by simp [offW]
  | [w], k + 1, h => by simp at h
  | w :: v :: W, k + 1, h => by
    have ih := join_drop (v :: W) k (by simpa using h)
    have hj : joinB [32] (w :: v :: W) = w ++ 32 :: joinB [32] (v :: W) := by simp [joinB]
    have ho : offW (w :: v :: W) (k + 1) = w.length + 1 + offW (v :: W) k := by simp [offW]
    rw [hj, ho, List.drop_succ_cons]
    constructor
    · rw [← List.drop_drop, ← List.drop_drop, List.drop_left, List.drop_succ_cons, List.drop_zero]; exact ih.1
    · rw [List.length_append, List.length_cons]; omega
theorem join_at {W : List (List UInt8)} {k : Nat} (h : k < W.length) : (∀ j (hj : j < W[k].length), (joinB [32] W)[offW W k + j]? = some W[k][j]) ∧ (k + 1 < W.length → (joinB [32] W)[offW W k + W[k].length]? = some 32) ∧
    (k + 1 = W.length → (joinB [32] W).length = offW W k + W[k].length) ∧ ((joinB [32] W).drop (offW W k)).take W[k].length = W[k] := by
  obtain ⟨h1, h2⟩ := join_drop W k h
  have hd : W.drop k = W[k] :: W.drop (k + 1) := List.drop_eq_getElem_cons h
  have hj : joinB [32] (W.drop k) = W[k] ++ (W.drop (k + 1)).flatMap (fun x => [32] ++ x) := by rw [hd]; rfl
  rw [hj] at h1
  have hg : ∀ i, (joinB [32] W)[offW W k + i]? = (W[k] ++ (W.drop (k + 1)).flatMap (fun x => [32] ++ x))[i]? := fun i => by rw [← h1, List.getElem?_drop]
  refine ⟨fun j hj => ?_, fun hk => ?_, fun hk => ?_, ?_⟩
  · rw [hg, List.getElem?_append_left hj, List.getElem?_eq_getElem hj]
  · rw [hg, List.getElem?_append_right (Nat.le_refl _), Nat.sub_self, List.drop_eq_getElem_cons hk]; rfl
  · have := congrArg List.length h1
    rw [List.length_drop, hk, List.drop_length] at this
    simp at this
    omega
  · rw [h1, List.take_left]
theorem getI' {s : List UInt8} {i : Nat} {c : UInt8} (h : s[i]? = some c) : i < s.length := (List.getElem?_eq_some_iff.1 h).1
theorem or_small (a b : Nat) (ha : a < 128) (hb : b < 128) : ∃ c : Nat, c < 128 ∧ abits .or .u8 (a : Int) (b : Int) = (c : Int) := by
  have hlt : a ||| b < 2 ^ 7 := Nat.or_lt_two_pow ha hb
  refine ⟨a ||| b, hlt, ?_⟩
  unfold abits
  have e1 : BitVec.ofInt 8 (a : Int) = BitVec.ofNat 8 a := by apply BitVec.eq_of_toNat_eq; simp
  have e2 : BitVec.ofInt 8 (b : Int) = BitVec.ofNat 8 b := by apply BitVec.eq_of_toNat_eq; simp
  show IntKind.u8.wrap (((BitVec.ofInt 8 (a : Int)) ||| (BitVec.ofInt 8 (b : Int))).toNat : Int) = _
  rw [e1, e2, BitVec.toNat_or, BitVec.toNat_ofNat, BitVec.toNat_ofNat, Nat.mod_eq_of_lt (by omega), Nat.mod_eq_of_lt (by omega)]
  unfold IntKind.wrap; simp [IntKind.bits, IntKind.signed]; omega
structure F1S where
  i : Nat
  b : Nat
structure F2S where
  k : Nat
  j : Nat
theorem join_chars {W : List (List UInt8)} (h : ∀ w ∈ W, lowL w) : ∀ c ∈ joinB [32] W, isLow c ∨ c = 32 := fun c hc => by
  cases W with
  | nil => simp [joinB] at hc
  | cons w r =>
    rcases List.mem_append.1 hc with q | q
    · exact .inl ((h w (by simp)).2 c q)
    · obtain ⟨x, hx, hq⟩ := List.mem_flatMap.1 q
      rcases List.mem_append.1 hq with q | q
      · exact .inr (by simpa using q)
      · exact .inl ((h x (by simp [hx])).2 c q)
def cellsK (W : List (List UInt8)) (k : Nat) : List Value := (W.take k).map sv ++ List.replicate (W.length - k) (.string (bs []))
theorem cellsK_put (W : List (List UInt8)) (k : Nat) (h : k < W.length) : aput (cellsK W k) k [.string (bs W[k])] = cellsK W (k + 1) := by
  unfold aput cellsK
  have hl : ((W.take k).map sv).length = k := by rw [List.length_map, List.length_take]; omega
  have ht : ((W.take k).map sv ++ List.replicate (W.length - k) (Value.string (bs []))).take k = (W.take k).map sv := by
    rw [List.take_append_of_le_length (by omega), List.take_of_length_le (by omega)]
  have hd : ((W.take k).map sv ++ List.replicate (W.length - k) (Value.string (bs []))).drop (k + 1) = List.replicate (W.length - (k + 1)) (.string (bs [])) := by
    rw [List.drop_append, List.drop_eq_nil_of_le (by omega), List.nil_append, hl, List.drop_replicate]
    congr 1; omega
  rw [List.length_singleton, ht, hd, List.take_succ_eq_append_getElem h, List.map_append]
  rfl
theorem cellsK_len (W : List (List UInt8)) (k : Nat) (h : k ≤ W.length) : (cellsK W k).length = W.length := by
  unfold cellsK
  rw [List.length_append, List.length_map, List.length_take, List.length_replicate]; omega
theorem cellsK_all (W : List (List UInt8)) : cellsK W W.length = W.map sv := by
  unfold cellsK
  rw [List.take_of_length_le (Nat.le_refl _), Nat.sub_self]; simp
theorem cellsK_bel {n : Nat} {W : List (List UInt8)} {k : Nat} : ∀ x ∈ cellsK W k, VBelow n x := fun x hx => by
  rcases List.mem_append.1 hx with q | q
  · obtain ⟨y, _, rfl⟩ := List.mem_map.1 q; exact .string
  · rw [(List.mem_replicate.1 q).2]; exact .string
theorem fields_ok (W : List (List UInt8)) (hW : W ≠ []) (hl : ∀ w ∈ W, lowL w) (hlen : (joinB [32] W).length ≤ 1000) (h : Heap) :
    ACalls Tryd.prog 100 [.string (bs (joinB [32] W))] h fun v h' => v = .slice (some ⟨h.n, 0, none⟩) W.length W.length ∧ h' = h.push (.cells (W.map sv) .ex 1) := by
  obtain ⟨T, hT, hTl, hT0, hT1⟩ := ga.tab
  have hch := join_chars hl
  have hfw := fold_words W 0 hW hl
  rw [Nat.zero_add] at hfw
  have hWl : W.length ≤ 1000 := by
    have h1 := (fcount_w (joinB [32] W)).2
    have h2 : (fcount (joinB [32] W)).n = W.length := by unfold fcount; rw [hfw]
    omega
  have hat := fun k (hk : k < W.length) => join_at hk
  have hoff : ∀ k (hk : k < W.length), offW W k + W[k].length ≤ (joinB [32] W).length := fun k hk => by
    obtain ⟨q1, q2, q3, _⟩ := hat k hk
    by_cases e : k + 1 = W.length
    · rw [q3 e]; exact Nat.le_refl _
    · have := getI' (q2 (by omega)); omega
  refine acalls_of mix Tryd.func100 k100 n100 (by simp) fun hcl hb => ?_
  have tabS : ∀ c : UInt8, isLow c ∨ c = 32 → T[c.toNat]? = some (.int .u8 ((sp1 c : Nat) : Int)) ∧ c.toNat < 128 := fun c hc => by
    rcases hc with q | rfl
    · exact ⟨by rw [hT0 _ q.1 q.2, sp1_low q]; rfl, by have := q.2; omega⟩
    · exact ⟨hT1, by decide⟩
  simp only [c100, s_seq, s_ops]
  simp
  generalize hS : joinB [32] W = S at *
  refine awp_loop_of (α := F1S) (fun z => z.i ≤ S.length ∧ z.b < 128) (fun z => [(0, .string (bs S)), (3, .int .i64 ((fcount (S.take z.i)).n : Nat)), (4, .int .i64 ((fcount (S.take z.i)).w : Nat)), (5, .int .u8 z.b), (6, .int .i64 z.i)]) (fun _ => h) (fun z => S.length - z.i) ⟨0, 0⟩
    ⟨Nat.zero_le _, by decide⟩ (Heap.Sub.refl hcl) (by simp [fcount]; exact ⟨.string, .int, .int, .int, .int⟩) ?_
  rintro ⟨i, b⟩ ⟨hi, hb128⟩
  dsimp only at hi hb128 ⊢
  by_cases hlt : i < S.length
  · have hi' : (i : Int) < (S.length : Int) := by omega
    have w4 : IntKind.i64.wrap ((i : Int) + 1) = ((i + 1 : Nat) : Int) := w1 i (by omega)
    have g1 : S[i]? = some S[i] := List.getElem?_eq_getElem hlt
    have iX : aidx (.int .i64 (i : Int)) S.length = some i := aidx_of hlt
    have hstep : fcount (S.take (i + 1)) = fstep (fcount (S.take i)) S[i] := by rw [List.take_succ_eq_append_getElem hlt, fcount_snoc]
    obtain ⟨hw, hn⟩ := fcount_w (S.take i)
    obtain ⟨t1, t2⟩ := tabS S[i] (hch _ (List.getElem_mem hlt))
    generalize fcount (S.take i) = z at *
    generalize hcc : S[i] = c at *
    obtain ⟨b2, hb2, hor⟩ := or_small b c.toNat hb128 t2
    have i256 : aidx (.int .u8 (c.toNat : Int)) 256 = some c.toNat := aidx_of (by omega)
    have hz : z.n ≤ 1000 := by rw [List.length_take] at hn; omega
    have x0 : aun .xor (.int .i64 0) = some (.int .i64 (-1)) := rfl
    have x1 : aun .xor (.int .i64 1) = some (.int .i64 (-2)) := rfl
    have a1 : abits .and .i64 1 (-1) = 1 := by decide
    have a2 : abits .and .i64 1 (-2) = 0 := by decide
    have a3 : abits .and .i64 0 (-1) = 0 := by decide
    have a4 : abits .and .i64 0 (-2) = 0 := by decide
    have w0 : IntKind.i64.wrap 0 = 0 := rfl
    have w11 : IntKind.i64.wrap 1 = 1 := rfl
    have wn : IntKind.i64.wrap (z.n : Int) = (z.n : Int) := i64w _ (by omega)
    have wn1 : IntKind.i64.wrap ((z.n : Int) + 1) = ((z.n + 1 : Nat) : Int) := w1 _ (by omega)
    have hs1 : sp1 c = 0 ∨ sp1 c = 1 := by unfold sp1; split <;> simp
    have hfin : ∀ n' w' : Nat, (fstep z c).n = n' → (fstep z c).w = w' → (fcount (S.take (i + 1))).n = n' ∧ (fcount (S.take (i + 1))).w = w' := fun n' w' q1 q2 => by rw [hstep]; exact ⟨q1, q2⟩
    have hzw : z.w = 0 ∨ z.w = 1 := by omega
    rcases hs1 with e1 | e1 <;> rcases hzw with e2 | e2
    · obtain ⟨f1, f2⟩ := hfin z.n 0 (by simp [fstep, e1, e2]) e1
      rw [e1] at t1
      simp [c100_0, hi', bs_size, bs_data, iX, g1, hcc, i256, hor, hT, apart, t1, e2, x0, a3, w0, wn, w4, -Int.natCast_add]
      exact ⟨⟨i + 1, b2⟩, by show S.length - (i + 1) < S.length - i; omega, ⟨by show i + 1 ≤ S.length; omega, hb2⟩, Heap.Sub.refl hcl, .string, ⟨by show _ = (((fcount (S.take (i + 1))).n : Nat) : Int); rw [f1], .int⟩, ⟨by show _ = (((fcount (S.take (i + 1))).w : Nat) : Int); rw [f2]; rfl, .int⟩, ⟨rfl, .int⟩, rfl, .int⟩
    · obtain ⟨f1, f2⟩ := hfin (z.n + 1) 0 (by simp [fstep, e1, e2]) e1
      rw [e1] at t1
      simp [c100_0, hi', bs_size, bs_data, iX, g1, hcc, i256, hor, hT, apart, t1, e2, x0, a1, w0, w11, wn1, w4, -Int.natCast_add]
      exact ⟨⟨i + 1, b2⟩, by show S.length - (i + 1) < S.length - i; omega, ⟨by show i + 1 ≤ S.length; omega, hb2⟩, Heap.Sub.refl hcl, .string, ⟨by show _ = (((fcount (S.take (i + 1))).n : Nat) : Int); rw [f1], .int⟩, ⟨by show _ = (((fcount (S.take (i + 1))).w : Nat) : Int); rw [f2]; rfl, .int⟩, ⟨rfl, .int⟩, rfl, .int⟩
    · obtain ⟨f1, f2⟩ := hfin z.n 1 (by simp [fstep, e1, e2]) e1
      rw [e1] at t1
      simp [c100_0, hi', bs_size, bs_data, iX, g1, hcc, i256, hor, hT, apart, t1, e2, x1, a4, w0, w11, wn, w4, -Int.natCast_add]
      exact ⟨⟨i + 1, b2⟩, by show S.length - (i + 1) < S.length - i; omega, ⟨by show i + 1 ≤ S.length; omega, hb2⟩, Heap.Sub.refl hcl, .string, ⟨by show _ = (((fcount (S.take (i + 1))).n : Nat) : Int); rw [f1], .int⟩, ⟨by show _ = (((fcount (S.take (i + 1))).w : Nat) : Int); rw [f2]; rfl, .int⟩, ⟨rfl, .int⟩, rfl, .int⟩
    · obtain ⟨f1, f2⟩ := hfin z.n 1 (by simp [fstep, e1, e2]) e1
      rw [e1] at t1
      simp [c100_0, hi', bs_size, bs_data, iX, g1, hcc, i256, hor, hT, apart, t1, e2, x1, a2, w0, w11, wn, w4, -Int.natCast_add]
      exact ⟨⟨i + 1, b2⟩, by show S.length - (i + 1) < S.length - i; omega, ⟨by show i + 1 ≤ S.length; omega, hb2⟩, Heap.Sub.refl hcl, .string, ⟨by show _ = (((fcount (S.take (i + 1))).n : Nat) : Int); rw [f1], .int⟩, ⟨by show _ = (((fcount (S.take (i + 1))).w : Nat) : Int); rw [f2]; rfl, .int⟩, ⟨rfl, .int⟩, rfl, .int⟩
  · have hie : i = S.length := by omega
    subst hie
    have hi' : ¬ (S.length : Int) < (S.length : Int) := by omega
    have hfc : fcount (S.take S.length) = ⟨W.length, 0⟩ := by rw [List.take_of_length_le (Nat.le_refl _)]; exact hfw
    rw [hfc]
    have hb' : ¬ (128 : Int) ≤ (b : Int) := by omega
    have hb'' : ¬ 128 ≤ b := by omega
    have hm1 : W.length * 17 ≤ 1099511627776 := by omega
    have hm2 : (W.length : Int) * 17 ≤ 1099511627776 := by omega
    have hW1 : 0 < W.length := by cases W with | nil => exact absurd rfl hW | cons a b => simp
    have hfl : (List.replicate W.length [Value.string (bs [])]).flatten = cellsK W 0 := by
      unfold cellsK
      simp
    have hne : ∀ k (hk : k < W.length), 0 < W[k].length := fun k hk => by
      have := (hl W[k] (List.getElem_mem hk)).1
      cases hx : W[k] with
      | nil => exact absurd hx this
      | cons a b => simp
    have hc0 : ∀ k, (h.push (.cells (cellsK W k) .ex 1)).Closed := fun k => closed_push hcl cellsK_bel
    have fK : ∀ k, (h.push (.cells (cellsK W k) .ex 1)).cellsOf h.n = some (cellsK W k, .ex, 1) := fun k => cellsOf_new _ _ _ _
    have hlow : ∀ k (hk : k < W.length) j (hj : j < W[k].length), T[W[k][j].toNat]? = some (.int .u8 0) ∧ W[k][j].toNat < 128 := fun k hk j hj => by
      have q := (hl W[k] (List.getElem_mem hk)).2 W[k][j] (List.getElem_mem hj)
      have := tabS _ (.inl q)
      rw [sp1_low q] at this
      exact this
    simp [c100_0, bs_size, hb', hb'', hm1, hm2, bs_lit, hfl]
    refine awp_loop_of (α := F1S) (fun z => z.i = 0) (fun z => [(0, .string (bs S)), (9, .slice (some ⟨h.n, 0, none⟩) W.length W.length), (10, .int .i64 0), (12, .int .i64 0)]) (fun _ => h.push (.cells (cellsK W 0) .ex 1)) (fun z => 0) ⟨0, 0⟩
      rfl ⟨by show h.n ≤ h.n + 1; omega, Nat.le_refl _, fun _ _ e => e, hc0 0⟩ (by simp; exact ⟨.string, vb_slice (by show h.n < h.n + 1; omega), .int⟩) ?_
    rintro ⟨_, _⟩ _
    have hS0 : 0 < S.length := by have := hoff 0 hW1; have := hne 0 hW1; omega
    have hS0' : (0 : Int) < (S.length : Int) := by omega
    have i0 : aidx (.int .i64 0) S.length = some 0 := aidx_of (i := 0) hS0
    obtain ⟨a0, _, _, _⟩ := hat 0 hW1
    have g0 : S[0]? = some (W[0][0]'(hne 0 hW1)) := by
      have := a0 0 (hne 0 hW1)
      simpa [offW] using this
    obtain ⟨u0, u1⟩ := hlow 0 hW1 0 (hne 0 hW1)
    generalize hcc : W[0][0]'(hne 0 hW1) = c at *
    have i256 : aidx (.int .u8 (c.toNat : Int)) 256 = some c.toNat := aidx_of (by omega)
    have hS00 : S ≠ [] := fun q => by rw [q] at hS0; simp at hS0
    have hga : S[0]'hS0 = c := by have := List.getElem?_eq_getElem hS0; rw [g0] at this; exact (Option.some.inj this).symm
    simp [c100_2, hS0', hS00, hS0, hga, bs_size, bs_data, i0, g0, i256, hT, apart, u0, -Int.natCast_add]
    refine awp_loop_of (α := F2S) (fun z => ∃ hk : z.k < W.length, z.j ≤ W[z.k].length) (fun z => [(0, .string (bs S)), (9, .slice (some ⟨h.n, 0, none⟩) W.length W.length), (10, .int .i64 z.k), (11, .int .i64 (offW W z.k)), (12, .int .i64 (offW W z.k + z.j : Nat))])
      (fun z => h.push (.cells (cellsK W z.k) .ex 1)) (fun z => S.length + 1 - (offW W z.k + z.j)) ⟨0, 0⟩
      ⟨hW1, Nat.zero_le _⟩ ⟨by show h.n ≤ h.n + 1; omega, Nat.le_refl _, fun _ _ e => e, hc0 0⟩ (by simp [offW]; exact ⟨.string, vb_slice (by show h.n < h.n + 1; omega), .int⟩) ?_
    rintro ⟨k, j⟩ ⟨hk, hj⟩
    dsimp only at hk hj ⊢
    have hok := hoff k hk
    obtain ⟨q1, q2, q3, q4⟩ := hat k hk
    by_cases hjl : j < W[k].length
    · have hi' : ((offW W k + j : Nat) : Int) < (S.length : Int) := by omega
      have iX : aidx (.int .i64 ((offW W k + j : Nat) : Int)) S.length = some (offW W k + j) := aidx_of (by omega)
      have w4 : IntKind.i64.wrap (((offW W k + j : Nat) : Int) + 1) = ((offW W k + j + 1 : Nat) : Int) := w1 _ (by omega)
      obtain ⟨u2, u3⟩ := hlow k hk j hjl
      have g2 := q1 j hjl
      generalize W[k][j] = d at *
      have i256' : aidx (.int .u8 (d.toNat : Int)) 256 = some d.toNat := aidx_of (by omega)
      have hgd : S[offW W k + j]'(by omega) = d := by have := List.getElem?_eq_getElem (l := S) (i := offW W k + j) (by omega); rw [g2] at this; exact (Option.some.inj this).symm
      simp [c100_4, hi', bs_size, bs_data, iX, g2, hgd, i256', hT, apart, u2, w4, -Int.natCast_add]
      exact ⟨⟨k, j + 1⟩, by show S.length + 1 - (offW W k + (j + 1)) < S.length + 1 - (offW W k + j); omega, ⟨hk, by show j + 1 ≤ W[k].length; omega⟩, ⟨by show h.n ≤ h.n + 1; omega, Nat.le_refl _, fun _ _ e => e, hc0 k⟩, .string, vb_slice (by show h.n < h.n + 1; omega), ⟨rfl, .int⟩, ⟨rfl, .int⟩, rfl, .int⟩
    · have hje : j = W[k].length := by omega
      subst hje
      by_cases hlast : k + 1 = W.length
      · have hSl := q3 hlast
        have hi' : ¬ ((offW W k + W[k].length : Nat) : Int) < (S.length : Int) := by omega
        have hfs : ((offW W k : Nat) : Int) < (S.length : Int) := by have := hne k hk; omega
        have b1 : abounds S.length S.length (some (.int .i64 (offW W k : Int))) none none = some (offW W k, S.length, S.length) := abounds_lo (by omega) (Nat.le_refl _)
        have x1 : (bs S).extract (offW W k) S.length = bs W[k] := by
          rw [bs_extract, List.take_of_length_le (Nat.le_refl _)]
          congr 1
          rw [← q4, List.take_of_length_le (by rw [List.length_drop]; omega)]
        have iK : aidx (.int .i64 (k : Int)) W.length = some k := aidx_of hk
        have hput := cellsK_put W k hk
        have hcl' := cellsK_len W k (by omega)
        have hkk : k + 1 ≤ W.length := by omega
        have hall := cellsK_all W
        rw [← hlast] at hall
        simp [c100_4, hi', hfs, bs_size, b1, x1, iK, fK, set_push, hput, hcl', hkk, mcells, -Int.natCast_add]
        rw [hall]
      · have hk1 : k + 1 < W.length := by omega
        have g2 := q2 hk1
        have hlt := getI' g2
        have hi' : ((offW W k + W[k].length : Nat) : Int) < (S.length : Int) := by omega
        have iX : aidx (.int .i64 ((offW W k + W[k].length : Nat) : Int)) S.length = some (offW W k + W[k].length) := aidx_of hlt
        have w4 : IntKind.i64.wrap (((offW W k + W[k].length : Nat) : Int) + 1) = ((offW W k + W[k].length + 1 : Nat) : Int) := w1 _ (by omega)
        have wk : IntKind.i64.wrap ((k : Int) + 1) = ((k + 1 : Nat) : Int) := w1 _ (by omega)
        have hgd : S[offW W k + W[k].length]'hlt = 32 := by have := List.getElem?_eq_getElem hlt; rw [g2] at this; exact (Option.some.inj this).symm
        have i32 : aidx (.int .u8 32) 256 = some 32 := aidx_of (i := 32) (by omega)
        have b1 : abounds S.length S.length (some (.int .i64 (offW W k : Int))) (some (.int .i64 ((offW W k + W[k].length : Nat) : Int))) none = some (offW W k, offW W k + W[k].length, S.length) := abounds_lohi (by omega) (by omega)
        have x1 : (bs S).extract (offW W k) (offW W k + W[k].length) = bs W[k] := by
          rw [bs_extract, List.drop_take, Nat.add_sub_cancel_left]
          congr 1
        have iK : aidx (.int .i64 (k : Int)) W.length = some k := aidx_of hk
        have hput := cellsK_put W k hk
        have hcl' := cellsK_len W k (by omega)
        have hos := offW_succ W k hk
        have hkk : k + 1 ≤ W.length := by omega
        simp [c100_4, hi', bs_size, bs_data, iX, g2, hgd, i32, hT, hT1, apart, w4, wk, b1, x1, iK, fK, set_push, hput, hcl', hkk, mcells, -Int.natCast_add]
        refine awp_loop_of (α := F1S) (fun z => True) (fun z => [(0, .string (bs S)), (9, .slice (some ⟨h.n, 0, none⟩) W.length W.length), (10, .int .i64 (k + 1 : Nat)), (12, .int .i64 (offW W (k + 1)))]) (fun _ => h.push (.cells (cellsK W (k + 1)) .ex 1)) (fun z => 0) ⟨0, 0⟩
          trivial ⟨by show h.n ≤ h.n + 1; omega, Nat.le_refl _, fun _ _ e => e, hc0 _⟩ (by simp [hos, -Int.natCast_add]; exact ⟨.string, vb_slice (by show h.n < h.n + 1; omega), .int, .int⟩) ?_
        rintro ⟨_, _⟩ _
        have hok1 := hoff (k + 1) hk1
        have hn1 := hne (k + 1) hk1
        have hS1 : offW W (k + 1) < S.length := by omega
        have hS1' : (offW W (k + 1) : Int) < (S.length : Int) := by omega
        have i1 : aidx (.int .i64 (offW W (k + 1) : Int)) S.length = some (offW W (k + 1)) := aidx_of hS1
        obtain ⟨a1, _, _, _⟩ := hat (k + 1) hk1
        have g1 := a1 0 hn1
        rw [Nat.add_zero] at g1
        obtain ⟨v0, v1⟩ := hlow (k + 1) hk1 0 hn1
        generalize W[k + 1][0]'hn1 = d at *
        have i257 : aidx (.int .u8 (d.toNat : Int)) 256 = some d.toNat := aidx_of (by omega)
        have hgd1 : S[offW W (k + 1)]'hS1 = d := by have := List.getElem?_eq_getElem hS1; rw [g1] at this; exact (Option.some.inj this).symm
        simp [c100_6, hS1', hS1, hgd1, bs_size, bs_data, i1, g1, i257, hT, apart, v0, -Int.natCast_add]
        exact ⟨⟨k + 1, 0⟩, by show S.length + 1 - (offW W (k + 1) + 0) < S.length + 1 - (offW W k + W[k].length); omega, ⟨hk1, Nat.zero_le _⟩, ⟨by show h.n ≤ h.n + 1; omega, Nat.le_refl _, fun _ _ e => e, hc0 _⟩, .string, vb_slice (by show h.n < h.n + 1; omega), ⟨rfl, .int⟩, ⟨rfl, .int⟩, rfl, .int⟩
def c79 : AC := .seq (.ops [⟨ some 0, none, .mv (.const (.slice none 0 0)) ⟩]) (.seq (.ops [⟨ some 1, none, .call 100 [.const (.string ⟨ ⟨[103, 111, 108, 100, 101, 110, 32, 97, 32, 98] ⟩ ⟩)] ⟩, ⟨ some 0, none, .mv (.tmp 1) ⟩]) .ret)
theorem k79 : compF Tryd.prog Tryd.f79 = some (c79, [0]) := by kernel_rfl
theorem n79 : Tryd.f79.ntmps = 2 := by kernel_rfl
def c52_0 : AC := .seq (.ops [⟨ some 11, none, .bin .lss (.tmp 10) (.tmp 9) ⟩]) (.seq (.cond (.tmp 11) .skip (.exit 0)) (.seq (.block 1 (.seq (.ops [⟨ some 12, none, .iAddrS 1 (.tmp 8) (.tmp 10) ⟩, ⟨ some 13, none, .load none (.tmp 12) ⟩, ⟨ some 7, none, .mv (.tmp 13) ⟩]) (.ops [⟨ some 14, none, .mv (.tmp 5) ⟩, ⟨ some 15, none, .mv (.tmp 7) ⟩, ⟨ some 16, none, .call 54 [.tmp 15] ⟩, ⟨ some 17, none, .buildS 1 [.string ⟨ ⟨[] ⟩ ⟩] [(0, 1, .tmp 16)] ⟩, ⟨ some 18, none, .app 1 16 9 (.tmp 14) (.tmp 17) ⟩, ⟨ some 5, none, .mv (.tmp 18) ⟩]))) (.ops [⟨ some 19, none, .bin .add (.tmp 10) (.const (.int .i64 1)) ⟩, ⟨ some 10, none, .mv (.tmp 19) ⟩])))
def c52 : AC := .seq (.ops [⟨ some 4, none, .mv (.const (.string ⟨ ⟨[] ⟩ ⟩)) ⟩]) (.seq (.ops [⟨ some 5, none, .mv (.const (.slice none 0 0)) ⟩]) (.seq (.seq (.ops [⟨ some 8, none, .mv (.tmp 1) ⟩, ⟨ some 9, none, .lenS false (.tmp 8) ⟩, ⟨ some 10, none, .mv (.const (.int .i64 0)) ⟩]) (.block 0 (.loop c52_0))) (.seq (.ops [⟨ some 20, none, .mv (.tmp 5) ⟩, ⟨ some 21, none, .mv (.tmp 0) ⟩, ⟨ some 22, none, .call 55 [.tmp 20, .tmp 21] ⟩, ⟨ some 4, none, .mv (.tmp 22) ⟩]) .ret)))
theorem k52 : compF Tryd.prog Tryd.f52 = some (c52, [4]) := by kernel_rfl
theorem n52 : Tryd.f52.ntmps = 23 := by kernel_rfl
def c50 : AC := .seq (.ops [⟨ some 4, none, .box (.tmp 0) ⟩, ⟨ some 8, none, .mv (.const (.string ⟨ ⟨[] ⟩ ⟩)) ⟩]) (.seq (.ops [⟨ some 10, none, .mv (.tmp 3) ⟩, ⟨ some 11, none, .call 54 [.tmp 10] ⟩, ⟨ some 12, none, .bin .add (.const (.string ⟨ ⟨[100] ⟩ ⟩)) (.tmp 11) ⟩, ⟨ some 9, none, .mv (.tmp 12) ⟩]) (.seq (.seq (.ops [⟨ some 13, none, .mv (.tmp 3) ⟩, ⟨ some 14, none, .fAddr 0 (.tmp 4) ⟩, ⟨ some 15, none, .load none (.tmp 14) ⟩, ⟨ some 16, none, .bin .geq (.tmp 13) (.tmp 15) ⟩]) (.cond (.tmp 16) (.ops [⟨ some 17, none, .mv (.tmp 3) ⟩, ⟨ some 18, none, .fAddr 0 (.tmp 4) ⟩, ⟨ some 19, none, .load none (.tmp 18) ⟩, ⟨ some 20, none, .bin .sub (.tmp 17) (.tmp 19) ⟩, ⟨ some 21, none, .call 54 [.tmp 20] ⟩, ⟨ some 22, none, .bin .add (.const (.string ⟨ ⟨[112] ⟩ ⟩)) (.tmp 21) ⟩, ⟨ some 9, none, .mv (.tmp 22) ⟩]) .skip)) (.seq (.draw [([⟨ some 24, none, .mv (.tmp 1) ⟩, ⟨ some 28, none, .mv (.tmp 2) ⟩, ⟨ some 31, none, .mv (.tmp 9) ⟩], [⟨ some 23, none, .call 79 [] ⟩], []), ([⟨ some 25, none, .iAddrS 1 (.tmp 23) (.tmp 24) ⟩, ⟨ some 26, none, .load none (.tmp 25) ⟩, ⟨ some 27, none, .bin .add (.tmp 26) (.const (.string ⟨ ⟨[32] ⟩ ⟩)) ⟩], [⟨ some 29, none, .call 54 [.tmp 28] ⟩], [⟨ some 26, none, .load none (.tmp 25) ⟩]), ([⟨ some 30, none, .bin .add (.tmp 27) (.tmp 29) ⟩, ⟨ some 32, none, .bin .add (.tmp 30) (.tmp 31) ⟩, ⟨ some 8, none, .mv (.tmp 32) ⟩], [], [])]) .ret)))
theorem k50 : compF Tryd.prog Tryd.f50 = some (c50, [8]) := by kernel_rfl
theorem n50 : Tryd.f50.ntmps = 33 := by kernel_rfl
/-! words of the map -/
variable [Nonempty GA]
def gN : List (List UInt8) := [[103, 111, 108, 100, 101, 110], [97], [98]]
theorem gN_low : ∀ w ∈ gN, lowL w := by
  intro w hw
  simp only [gN, List.mem_cons, List.not_mem_nil, or_false] at hw
  rcases hw with rfl | rfl | rfl
  · exact ⟨by simp, by unfold isLow; decide⟩
  · exact ⟨by simp, by unfold isLow; decide⟩
  · exact ⟨by simp, by unfold isLow; decide⟩
theorem gnames_ok (h : Heap) : ACalls Tryd.prog 79 [] h fun v h' => v = .slice (some ⟨h.n, 0, none⟩) 3 3 ∧ h' = h.push (.cells (gN.map sv) .ex 1) := by
  refine acalls_of mix Tryd.func79 k79 n79 (by simp) fun hcl hb => ?_
  simp [c79, bs_lit]
  refine (fields_ok gN (by simp [gN]) gN_low (by decide) h).mono ?_
  rintro _ h9 ⟨rfl, rfl⟩
  simp
  rfl
structure DTS where
  i : Nat
  v : Value
  H : Heap
theorem dotted_ok (b k : Nat) (X : List Int) (hX0 : X ≠ []) (hk : X.length = k) (hk9 : k ≤ 100) (hr : ∀ x ∈ X, -1000000 ≤ x ∧ x ≤ 1000000) (h : Heap) {m : BMode} {e : Nat} (hc : h.cellsOf b = some (X.map cI, m, e)) :
    ACalls Tryd.prog 52 [.string (bs [46]), .slice (some ⟨b, 0, none⟩) k k] h fun v h' => v = sv (joinB [46] (X.map itoaB)) ∧ h' = h := by
  subst hk
  refine ACalls.same .string (acalls_of mix Tryd.func52 k52 n52 (by simp) fun hcl hb => ?_)
  have hbn := cellsOf_lt hcl hc
  simp only [c52, s_seq, s_ops]
  simp [bs_lit]
  refine awp_loop_of (α := DTS) (fun z => z.i ≤ X.length ∧ Own h 1 z.i (((X.map itoaB).take z.i).map sv) z.v z.H)
    (fun z => [(0, .string (bs [46])), (5, z.v), (8, .slice (some ⟨b, 0, none⟩) X.length X.length), (9, .int .i64 X.length), (10, .int .i64 z.i)]) (fun z => z.H) (fun z => X.length - z.i) ⟨0, .slice none 0 0, h⟩
    ⟨Nat.zero_le _, Own.start h 1⟩ (Heap.Sub.refl hcl) (by simp; exact ⟨.string, .snil, vb_slice hbn, .int, .int⟩) ?_
  rintro ⟨i, v, H⟩ ⟨hi, hO⟩
  dsimp only at hi hO ⊢
  have hsvb : ∀ x ∈ ((X.map itoaB).take i).map sv, VBelow h.n x := fun x hx => by obtain ⟨y, _, rfl⟩ := List.mem_map.1 hx; exact .string
  have hcH := hO.closed hcl hsvb
  have hsub := hO.1
  by_cases hi3 : i < X.length
  · have hi' : (i : Int) < (X.length : Int) := by omega
    have hx := hr X[i] (List.getElem_mem _)
    have w4 : IntKind.i64.wrap ((i : Int) + 1) = ((i + 1 : Nat) : Int) := w1 i (by omega)
    have hcH2 : H.cellsOf b = some (X.map cI, m, e) := by
      unfold Heap.cellsOf at hc ⊢
      rw [hO.old hbn]; exact hc
    have gX : (X.map cI)[i]? = some (.int .i64 X[i]) := by rw [List.getElem?_map, List.getElem?_eq_getElem hi3]; rfl
    have htk : (X.map itoaB).take (i + 1) = (X.map itoaB).take i ++ [itoaB X[i]] := by
      rw [List.take_succ_eq_append_getElem (by rw [List.length_map]; omega)]
      simp
    generalize hxx : X[i] = x at *
    simp [c52_0, hi', aidx_of hi3, hcH2, gX, hxx, apart]
    refine (itoa_ok x (by omega) (by omega) H).mono ?_
    rintro _ h9 ⟨rfl, e⟩
    rw [e]; clear e h9
    obtain ⟨a', cc, rfl, v2, H2, H3, happ, hown3, hn3, hin3⟩ := hO.app (H' := H.push (.cells [sv (itoaB x)] .ex 1)) (t := 9) (bytes := 16) (k := 1) (new := [sv (itoaB x)]) hcl
      (by show H.n ≤ H.n + 1; omega) (fun b hb => by rw [push_m, if_neg (by omega)]) (by omega) rfl (by omega)
    have hn1 := hown3.1
    have fil : afill [.string (bs [])] [(0, 1, .string (bs (itoaB x)))] = some [sv (itoaB x)] := rfl
    have hfst : afirst (H.push (.cells [sv (itoaB x)] .ex 1)) 1 1 (.slice (some ⟨H.n, 0, none⟩) 1 1) = some [sv (itoaB x)] := by simp [afirst, cellsOf_new, acut]
    simp [bs_lit, fil, alen, hfst, happ, w4, -Int.natCast_add]
    refine ⟨⟨i + 1, v2, H3⟩, by show X.length - (i + 1) < X.length - i; omega, ⟨by show i + 1 ≤ X.length; omega, ?_⟩, ⟨by show h.n ≤ H3.n; omega, by show H3.n ≤ H2.n; omega, hin3, hown3.closed hcl ?_⟩, .string, ⟨rfl, hown3.below⟩, vb_slice (by show b < H3.n; omega), .int, rfl, .int⟩
    · have e9 : List.take (i + 1) (List.map (sv ∘ itoaB) X) = ((X.map itoaB).take i).map sv ++ [sv (itoaB x)] := by
        rw [← List.map_map, ← List.map_take, htk, List.map_append]
        rfl
      show Own h 1 (i + 1) (List.take (i + 1) (List.map (sv ∘ itoaB) X)) v2 H3
      rw [e9]
      exact hown3
    · intro y hy
      rcases List.mem_append.1 hy with hy | hy
      · exact hsvb y hy
      · rw [List.mem_singleton.1 hy]; exact .string
  · have hie : i = X.length := by omega
    subst hie
    have htk : (X.map itoaB).take X.length = X.map itoaB := List.take_of_length_le (by rw [List.length_map]; omega)
    rw [htk] at hO
    have hlm : (X.map itoaB).length = X.length := by rw [List.length_map]
    have hne : X.map itoaB ≠ [] := fun q => hX0 (List.map_eq_nil_iff.1 q)
    rw [← hlm] at hO
    have hj := own_slj hO hne
    have hsum : sumL (X.map itoaB) ≤ X.length * 18 := by
      unfold sumL
      clear hO hj htk hi3 hi hsvb hcH hc hb hbn hlm hne hX0 hk9
      induction X with
      | nil => simp
      | cons a r ih =>
        have ha := hr a (by simp)
        have := (itoaB_len a (by omega) (by omega)).2
        have := ih fun x hx => hr x (by simp [hx])
        simp only [List.map_cons, List.sum_cons, List.length_cons] at this ⊢
        omega
    simp [c52_0]
    refine (join_ok v (X.map itoaB) [46] H hj hne (by simp) (by simp; omega)).mono ?_
    rintro _ h9 ⟨rfl, e⟩
    rw [e]; clear e h9
    simp [sv]
    exact ⟨hO.1, fun y ob q => by rw [hO.old (hcl y ob q).1]; exact q⟩
def partB (d i : Int) : List UInt8 := if d ≤ i then 112 :: itoaB (i - d) else 100 :: itoaB i
def secB (d a k i : Int) : List UInt8 := gN.getD a.toNat [] ++ 32 :: (itoaB k ++ partB d i)
theorem partB_len {d i : Int} (h1 : -1000000 ≤ d ∧ d ≤ 1000000) (h2 : -1000000 ≤ i ∧ i ≤ 1000000) : (partB d i).length ≤ 19 := by
  unfold partB
  split
  · have := (itoaB_len (i - d) (by omega) (by omega)).2
    simp; omega
  · have := (itoaB_len i (by omega) (by omega)).2
    simp; omega
theorem szif9 {α : Type} {a b : Nat} {x y : Option α} (h : a ≤ b) : (if a ≤ b then x else y) = x := if_pos h
theorem gsector_ok (d p s a k i : Int) (hd : 1 ≤ d ∧ d ≤ 8) (ha : 0 ≤ a ∧ a ≤ 2) (hk : 0 ≤ k ∧ k ≤ 1000) (hi : 0 ≤ i ∧ i ≤ 1000) (h : Heap) :
    ACalls Tryd.prog 50 [gv d p s, .int .i64 a, .int .i64 k, .int .i64 i] h fun v h' => v = sv (secB d a k i) ∧ h' = h := by
  refine ACalls.same .string (acalls_of mix Tryd.func50 k50 n50 (by simp) fun hcl hb => ?_)
  have hm : mcells (gv d p s) = some [.int .i64 d, .int .i64 p, .int .i64 s] := rfl
  have f0 := cellsOf_new h [.int .i64 d, .int .i64 p, .int .i64 s] .ex 1
  have hbl : ∀ n, ∀ x ∈ [Value.int .i64 d, .int .i64 p, .int .i64 s], VBelow n x := fun n x hx => by
    simp at hx; rcases hx with rfl | rfl | rfl <;> exact .int
  have c0 : (h.push (.cells [.int .i64 d, .int .i64 p, .int .i64 s] .ex 1)).Closed := closed_push hcl (hbl _)
  have e0 := (Heap.Ext.refl h).push hcl (.cells [.int .i64 d, .int .i64 p, .int .i64 s] .ex 1)
  have n0 : (h.push (.cells [.int .i64 d, .int .i64 p, .int .i64 s] .ex 1)).n = h.n + 1 := rfl
  have L1 := partB_len (d := d) (i := i) (by omega) (by omega)
  have L2 := (itoaB_len i (by omega) (by omega)).2
  have L3 := (itoaB_len k (by omega) (by omega)).2
  have L4 := (itoaB_len (i - d) (by omega) (by omega)).2
  simp only [c50, s_seq, s_ops]
  simp [hm]
  generalize h.push (.cells [.int .i64 d, .int .i64 p, .int .i64 s] .ex 1) = H at *
  refine (itoa_ok i (by omega) (by omega) H).mono ?_
  rintro _ h9 ⟨rfl, e⟩
  rw [e]; clear e h9
  simp (disch := first | exact trivial | (simp; done) | (simp; omega) | omega) [szif9, bs_size, bs_append, bs_lit, f0, apart]
  refine cond_join (fun f H' => f 1 = .int .i64 a ∧ f 2 = .int .i64 k ∧ f 9 = sv (partB d i) ∧ H' = H) ?_ ?_ ?_
  · intro hb1
    have hdi : d ≤ i := of_decide_eq_true hb1
    have hp : partB d i = 112 :: itoaB (i - d) := by unfold partB; rw [if_pos hdi]
    have w : IntKind.i64.wrap (i - d) = i - d := IntWalk.i64_in _ (by omega)
    simp [f0, apart, w]
    refine (itoa_ok (i - d) (by omega) (by omega) H).mono ?_
    rintro _ h9 ⟨rfl, e⟩
    rw [e]; clear e h9
    simp (disch := first | exact trivial | (simp; done) | (simp; omega) | omega) [szif9, bs_size, bs_append, bs_lit, sv]
    rw [hp]
  · intro hb1
    have hdi : ¬ d ≤ i := of_decide_eq_false hb1
    have hp : partB d i = 100 :: itoaB i := by unfold partB; rw [if_neg hdi]
    simp [sv]
    rw [hp]
  · rintro f H' ⟨k1, k2, k9, rfl⟩
    have f1 := cellsOf_new H' (gN.map sv) .ex 1
    have e1 := e0.push hcl (.cells (gN.map sv) .ex 1)
    have ia : aidx (.int .i64 a) 3 = some a.toNat := by
      obtain ⟨m, rfl⟩ : ∃ m : Nat, a = m := ⟨a.toNat, by omega⟩
      exact aidx_of (by omega)
    have ga : (gN.map sv)[a.toNat]? = some (.string (bs (gN.getD a.toNat []))) := by
      have : ∀ j : Fin 3, (gN.map sv)[j.val]? = some (.string (bs (gN.getD j.val []))) := fun j => by
        match j with
        | 0 => rfl
        | 1 => rfl
        | 2 => rfl
      exact this ⟨a.toNat, by omega⟩
    have lg : (gN.getD a.toNat []).length ≤ 6 := by
      have : ∀ j : Fin 3, (gN.getD j.val []).length ≤ 6 := by decide
      exact this ⟨a.toNat, by omega⟩
    have hsec : secB d a k i = gN.getD a.toNat [] ++ 32 :: (itoaB k ++ partB d i) := rfl
    generalize gN.getD a.toNat [] = G at *
    simp [k1, k2, k9]
    refine (gnames_ok H').mono ?_
    rintro _ h9 ⟨rfl, e⟩
    rw [e]; clear e h9
    simp (disch := first | exact trivial | (simp; done) | (simp; omega) | omega) [szif9, bs_size, bs_append, bs_lit, sv, k1, k2, k9, ia, f1, ga, apart]
    refine (itoa_ok k (by omega) (by omega) _).mono ?_
    rintro _ h9 ⟨rfl, e⟩
    rw [e]; clear e h9
    simp (disch := first | exact trivial | (simp; done) | (simp; omega) | omega) [szif9, bs_size, bs_append, bs_lit, sv, k1, k2, k9, ia, f1, ga, apart]
    exact ⟨by rw [hsec], e1⟩
def c13_6 : AC := .seq (.ops [⟨ some 62, none, .bin .lss (.tmp 61) (.const (.int .i64 4)) ⟩]) (.seq (.cond (.tmp 62) .skip (.exit 6)) (.seq (.block 7 (.seq (.ops [⟨ some 63, none, .mv (.tmp 61) ⟩, ⟨ some 13, none, .mv (.tmp 63) ⟩]) (.ops [⟨ some 64, none, .mv (.tmp 3) ⟩, ⟨ some 65, none, .mv (.tmp 11) ⟩, ⟨ some 66, none, .mv (.tmp 13) ⟩, ⟨ some 67, none, .bin .add (.tmp 65) (.tmp 66) ⟩, ⟨ some 68, none, .mv (.tmp 9) ⟩, ⟨ some 69, none, .mv (.tmp 10) ⟩, ⟨ some 70, none, .mv (.tmp 13) ⟩, ⟨ some 71, none, .buildS 3 [.int .i64 0, .int .i64 0, .int .i64 0] [(0, 1, .tmp 68), (1, 1, .tmp 69), (2, 1, .tmp 70)] ⟩, ⟨ some 72, none, .call 52 [.const (.string ⟨ ⟨[46] ⟩ ⟩), .tmp 71] ⟩, ⟨ some 73, none, .bin .add (.const (.string ⟨ ⟨[108, 111, 103, 32] ⟩ ⟩)) (.tmp 72) ⟩, ⟨ some 74, none, .iAddrS 1 (.tmp 64) (.tmp 67) ⟩, ⟨ none, none, .store 1 (.tmp 74) (.tmp 73) ⟩]))) (.ops [⟨ some 75, none, .bin .add (.tmp 61) (.const (.int .i64 1)) ⟩, ⟨ some 61, none, .mv (.tmp 75) ⟩])))
def c13_4 : AC := .seq (.ops [⟨ some 52, none, .bin .lss (.tmp 51) (.const (.int .i64 2)) ⟩]) (.seq (.cond (.tmp 52) .skip (.exit 4)) (.seq (.block 5 (.seq (.ops [⟨ some 53, none, .mv (.tmp 51) ⟩, ⟨ some 10, none, .mv (.tmp 53) ⟩]) (.seq (.ops [⟨ some 55, none, .load (some 3) (.tmp 1) ⟩, ⟨ some 56, none, .mv (.tmp 9) ⟩, ⟨ some 57, none, .mv (.tmp 10) ⟩, ⟨ some 58, none, .call 51 [.tmp 55, .tmp 56, .tmp 57] ⟩, ⟨ some 54, none, .mv (.tmp 58) ⟩, ⟨ some 59, none, .extr (.tmp 54) 0 ⟩, ⟨ some 60, none, .extr (.tmp 54) 1 ⟩, ⟨ some 11, none, .mv (.tmp 59) ⟩, ⟨ some 12, none, .mv (.tmp 60) ⟩]) (.seq (.ops [⟨ some 61, none, .mv (.const (.int .i64 0)) ⟩]) (.block 6 (.loop c13_6)))))) (.ops [⟨ some 76, none, .bin .add (.tmp 51) (.const (.int .i64 1)) ⟩, ⟨ some 51, none, .mv (.tmp 76) ⟩])))
def c13_2 : AC := .seq (.seq (.ops [⟨ some 42, none, .mv (.tmp 9) ⟩, ⟨ some 43, none, .bin .lss (.tmp 42) (.const (.int .i64 2)) ⟩, ⟨ some 44, none, .mv (.tmp 43) ⟩, ⟨ some 45, some (44, true), .mv (.tmp 3) ⟩, ⟨ some 46, some (44, true), .lenS false (.tmp 45) ⟩, ⟨ some 47, some (44, true), .bin .gtr (.tmp 46) (.const (.int .i64 0)) ⟩, ⟨ some 48, none, .pick (.tmp 44) (.tmp 47) (.const (.bool false)) ⟩]) (.cond (.tmp 48) .skip (.exit 2))) (.seq (.block 3 (.seq (.seq (.ops [⟨ some 51, none, .mv (.const (.int .i64 0)) ⟩]) (.block 4 (.loop c13_4))) (.seq (.ops [⟨ some 78, none, .load (some 3) (.tmp 1) ⟩, ⟨ some 79, none, .mv (.tmp 9) ⟩, ⟨ some 80, none, .call 53 [.tmp 78, .tmp 79] ⟩, ⟨ some 77, none, .mv (.tmp 80) ⟩, ⟨ some 81, none, .extr (.tmp 77) 0 ⟩, ⟨ some 82, none, .extr (.tmp 77) 1 ⟩, ⟨ some 14, none, .mv (.tmp 81) ⟩, ⟨ some 15, none, .mv (.tmp 82) ⟩]) (.seq (.ops [⟨ some 83, none, .mv (.tmp 15) ⟩, ⟨ some 84, none, .bin .eql (.tmp 83) (.const (.int .i64 0)) ⟩]) (.cond (.tmp 84) (.ops [⟨ some 85, none, .mv (.tmp 3) ⟩, ⟨ some 86, none, .mv (.tmp 14) ⟩, ⟨ some 87, none, .mv (.tmp 9) ⟩, ⟨ some 88, none, .call 54 [.tmp 87] ⟩, ⟨ some 89, none, .bin .add (.const (.string ⟨ ⟨[116, 97, 108, 108, 121, 32] ⟩ ⟩)) (.tmp 88) ⟩, ⟨ some 90, none, .iAddrS 1 (.tmp 85) (.tmp 86) ⟩, ⟨ none, none, .store 1 (.tmp 90) (.tmp 89) ⟩]) .skip))))) (.ops [⟨ some 49, none, .mv (.tmp 9) ⟩, ⟨ some 50, none, .bin .add (.tmp 49) (.const (.int .i64 1)) ⟩, ⟨ some 9, none, .mv (.tmp 50) ⟩]))
def c13_0 : AC := .seq (.ops [⟨ some 22, none, .bin .lss (.tmp 21) (.tmp 20) ⟩]) (.seq (.cond (.tmp 22) .skip (.exit 0)) (.seq (.block 1 (.seq (.ops [⟨ some 23, none, .mv (.tmp 21) ⟩, ⟨ some 4, none, .mv (.tmp 23) ⟩]) (.seq (.ops [⟨ some 25, none, .load (some 3) (.tmp 1) ⟩, ⟨ some 26, none, .mv (.tmp 4) ⟩, ⟨ some 27, none, .call 49 [.tmp 25, .tmp 26] ⟩, ⟨ some 24, none, .mv (.tmp 27) ⟩, ⟨ some 28, none, .extr (.tmp 24) 0 ⟩, ⟨ some 29, none, .extr (.tmp 24) 1 ⟩, ⟨ some 30, none, .extr (.tmp 24) 2 ⟩, ⟨ some 31, none, .extr (.tmp 24) 3 ⟩, ⟨ some 5, none, .mv (.tmp 28) ⟩, ⟨ some 6, none, .mv (.tmp 29) ⟩, ⟨ some 7, none, .mv (.tmp 30) ⟩, ⟨ some 8, none, .mv (.tmp 31) ⟩]) (.seq (.ops [⟨ some 32, none, .mv (.tmp 8) ⟩]) (.cond (.tmp 32) (.ops [⟨ some 33, none, .mv (.tmp 3) ⟩, ⟨ some 34, none, .mv (.tmp 4) ⟩, ⟨ some 35, none, .load (some 3) (.tmp 1) ⟩, ⟨ some 36, none, .mv (.tmp 5) ⟩, ⟨ some 37, none, .mv (.tmp 6) ⟩, ⟨ some 38, none, .mv (.tmp 7) ⟩, ⟨ some 39, none, .call 50 [.tmp 35, .tmp 36, .tmp 37, .tmp 38] ⟩, ⟨ some 40, none, .iAddrS 1 (.tmp 33) (.tmp 34) ⟩, ⟨ none, none, .store 1 (.tmp 40) (.tmp 39) ⟩]) .skip))))) (.ops [⟨ some 41, none, .bin .add (.tmp 21) (.const (.int .i64 1)) ⟩, ⟨ some 21, none, .mv (.tmp 41) ⟩])))
def c13 : AC := .seq (.ops [⟨ some 1, none, .box (.tmp 0) ⟩, ⟨ some 2, none, .mv (.const (.slice none 0 0)) ⟩]) (.seq (.ops [⟨ some 16, none, .load (some 3) (.tmp 1) ⟩, ⟨ some 17, none, .call 48 [.tmp 16] ⟩, ⟨ some 18, none, .mkSl [.string ⟨ ⟨[] ⟩ ⟩] 16 (.tmp 17) (.tmp 17) ⟩, ⟨ some 3, none, .mv (.tmp 18) ⟩]) (.seq (.seq (.ops [⟨ some 19, none, .mv (.tmp 3) ⟩, ⟨ some 20, none, .lenS false (.tmp 19) ⟩, ⟨ some 21, none, .mv (.const (.int .i64 0)) ⟩]) (.block 0 (.loop c13_0))) (.seq (.seq (.ops [⟨ some 9, none, .mv (.const (.int .i64 0)) ⟩]) (.block 2 (.loop c13_2))) (.seq (.ops [⟨ some 91, none, .mv (.tmp 3) ⟩, ⟨ some 2, none, .mv (.tmp 91) ⟩]) .ret))))
theorem k13 : compF Tryd.prog Tryd.f13 = some (c13, [2]) := by kernel_rfl
theorem n13 : Tryd.f13.ntmps = 92 := by kernel_rfl
/-! the map -/
variable [Nonempty GA]
def lineP (d : Int) (q : Pl) : List UInt8 := if q.1 = 0 then secB d q.2.1 q.2.2.1 q.2.2.2 else if q.1 = 1 then 108 :: 111 :: 103 :: 32 :: joinB [46] [itoaB q.2.1, itoaB q.2.2.1, itoaB q.2.2.2] else 116 :: 97 :: 108 :: 108 :: 121 :: 32 :: itoaB q.2.1
def outC (d p s : Int) (f : Nat → Bool) (N : Nat) : List Value := (List.range N).map fun n => if f n then sv (lineP d (place d p s n)) else sv []
theorem outC_len (d p s : Int) (f : Nat → Bool) (N : Nat) : (outC d p s f N).length = N := by simp [outC]
theorem outC_get (d p s : Int) (f : Nat → Bool) (N i : Nat) : (outC d p s f N)[i]? = if i < N then some (if f i then sv (lineP d (place d p s i)) else sv []) else none := by
  unfold outC
  rw [List.getElem?_map]
  by_cases h : i < N
  · rw [if_pos h, List.getElem?_range h]; rfl
  · rw [if_neg h, List.getElem?_eq_none (by simp; omega)]; rfl
theorem aput_set (l : List Value) (k : Nat) (v : Value) (h : k < l.length) : aput l k [v] = l.set k v := by
  unfold aput
  rw [List.set_eq_take_append_cons_drop, if_pos h]
  simp
theorem outC_put (d p s : Int) (f : Nat → Bool) (N k : Nat) (h : k < N) : aput (outC d p s f N) k [sv (lineP d (place d p s k))] = outC d p s (fun n => f n || decide (n = k)) N := by
  rw [aput_set _ _ _ (by rw [outC_len]; exact h)]
  apply List.ext_getElem?
  intro i
  rw [List.getElem?_set, outC_get, outC_get, outC_len]
  by_cases q : k = i
  · subst q
    simp [h]
  · have h3 : decide (i = k) = false := by simp; omega
    rw [if_neg q, h3, Bool.or_false]
theorem outC_congr {d p s : Int} {f g : Nat → Bool} {N : Nat} (h : ∀ n, n < N → f n = g n) : outC d p s f N = outC d p s g N := by
  unfold outC
  refine List.map_congr_left fun n hn => ?_
  rw [h n (List.mem_range.1 hn)]
theorem outC_bel {n : Nat} {d p s : Int} {f : Nat → Bool} {N : Nat} : ∀ x ∈ outC d p s f N, VBelow n x := fun x hx => by
  obtain ⟨y, _, rfl⟩ := List.mem_map.1 hx
  split <;> exact .string
theorem outC_zero (d p s : Int) (N : Nat) : (List.replicate N [Value.string (bs [])]).flatten = outC d p s (fun _ => false) N := by
  unfold outC
  simp
  apply List.ext_getElem
  · simp
  · intro i h1 h2; simp [sv]
/-- which lines are there -/
def fM (S M a : Nat) (n : Nat) : Bool := decide (n < M) || (decide (3 * S + 16 ≤ n) && decide (n < 3 * S + 16 + a))
theorem fM_next {S M a : Nat} (h : M < 3 * S + 16) (n : Nat) : (fM S M a n || decide (n = M)) = fM S (M + 1) a n := by
  rw [Bool.eq_iff_iff]
  simp [fM]
  omega
theorem fM_tally {S M a : Nat} (n : Nat) : (fM S M a n || decide (n = 3 * S + 16 + a)) = fM S M (a + 1) n := by
  rw [Bool.eq_iff_iff]
  simp [fM]
  omega
theorem sub_ps {H0 : Heap} {n0 : Nat} {o g o' : AObj} (hc : (H0.push o').Closed) (hn : n0 ≤ H0.n + 1) : (H0.push o').Sub n0 (((H0.push o).push g).set H0.n o') :=
  ⟨hn, Nat.le_succ _, fun b ob e => by
    have hlt := (hc b ob e).1
    rw [push_m] at e
    rw [set_m]
    split at e
    · rename_i hb; rw [if_pos hb]; exact e
    · rename_i hb
      rw [if_neg hb, push_m, if_neg (by show ¬ b = H0.n + 1; simp at hlt; omega), push_m, if_neg hb]; exact e, hc⟩
structure MSt where
  n : Nat
structure MS2 where
  a : Nat
def MapV (d p s : Int) (h : Heap) (v : Value) (h' : Heap) : Prop := h.Ext h' ∧ ∃ b, v = .slice (some ⟨b, 0, none⟩) (allS d p s).toNat (allS d p s).toNat ∧ h'.cellsOf b = some (outC d p s (fun _ => true) (allS d p s).toNat, .ex, 1)
theorem map_ok (d p s : Int) (h : Heap) : ACalls Tryd.prog 13 [gv d p s] h fun v h' => MapV d p s h v h' := by
  refine acalls_of mix Tryd.func13 k13 n13 (by simp) fun hcl hb => ?_
  have hm : mcells (gv d p s) = some [.int .i64 d, .int .i64 p, .int .i64 s] := rfl
  have f0 := cellsOf_new h [.int .i64 d, .int .i64 p, .int .i64 s] .ex 1
  have hbl : ∀ n, ∀ x ∈ [Value.int .i64 d, .int .i64 p, .int .i64 s], VBelow n x := fun n x hx => by
    simp at hx; rcases hx with rfl | rfl | rfl <;> exact .int
  have c0 : (h.push (.cells [.int .i64 d, .int .i64 p, .int .i64 s] .ex 1)).Closed := closed_push hcl (hbl _)
  have e0 := (Heap.Ext.refl h).push hcl (.cells [.int .i64 d, .int .i64 p, .int .i64 s] .ex 1)
  have n0 : (h.push (.cells [.int .i64 d, .int .i64 p, .int .i64 s] .ex 1)).n = h.n + 1 := rfl
  have hac : acut [Value.int .i64 d, .int .i64 p, .int .i64 s] 0 3 = some [.int .i64 d, .int .i64 p, .int .i64 s] := rfl
  have hgv : Value.agg #[.int .i64 d, .int .i64 p, .int .i64 s] = gv d p s := rfl
  simp only [c13, s_seq, s_ops]
  simp [hm, f0, hac, apart, hgv]
  generalize h.push (.cells [.int .i64 d, .int .i64 p, .int .i64 s] .ex 1) = H0 at *
  refine (all_ok d p s H0).mono ?_
  rintro _ h9 ⟨rfl, e⟩
  rw [e]; clear e h9
  have hall0 : 0 ≤ allS d p s ∧ allS d p s ≤ 400 := by
    have := slot_bound (d := d) (p := p) (s := s)
    unfold allS; split <;> omega
  obtain ⟨N, hN⟩ : ∃ N : Nat, allS d p s = N := ⟨(allS d p s).toNat, by omega⟩
  have hNt : (allS d p s).toNat = N := by omega
  unfold MapV
  rw [hNt, hN]
  have hm1 : N * 17 ≤ 1099511627776 := by omega
  have hm2 : (N : Int) * 17 ≤ 1099511627776 := by omega
  have hz := outC_zero d p s N
  have cC : ∀ f, (H0.push (.cells (outC d p s f N) .ex 1)).Closed := fun f => closed_push c0 outC_bel
  have fC : ∀ f, (H0.push (.cells (outC d p s f N) .ex 1)).cellsOf (h.n + 1) = some (outC d p s f N, .ex, 1) := fun f => by rw [← n0]; exact cellsOf_new _ _ _ _
  have fG : ∀ o, (H0.push o).cellsOf h.n = some ([.int .i64 d, .int .i64 p, .int .i64 s], .ex, 1) := fun o => by rw [cellsOf_ne (by omega)]; exact f0
  have sp : ∀ o o', (H0.push o).set (h.n + 1) o' = H0.push o' := fun o o' => by rw [← n0]; exact set_push _ _ _
  have eC : ∀ f, h.Ext (H0.push (.cells (outC d p s f N) .ex 1)) := fun f => e0.push hcl _
  simp [hm1, hm2, bs_lit, hz]
  rw [n0]
  obtain ⟨S, hS⟩ : ∃ S : Nat, slot d p s = S := ⟨(slot d p s).toNat, by have := slot_bound (d := d) (p := p) (s := s); omega⟩
  have hS112 : S ≤ 112 := by have := slot_bound (d := d) (p := p) (s := s); omega
  have hNr : 0 < N → right d p s = true ∧ N = 3 * S + 18 := fun q => by
    unfold allS at hN
    split at hN
    · rename_i hr; exact ⟨hr, by omega⟩
    · omega
  have hf0 : outC d p s (fun _ => false) N = outC d p s (fM S (min 0 (3 * S)) 0) N := outC_congr fun n hn => by
    rw [Bool.eq_iff_iff]; simp [fM]
  rw [hf0]
  refine awp_loop_of (α := MSt) (fun z => z.n ≤ N) (fun z => [(1, .pointer (some ⟨h.n, 0, none⟩)), (3, .slice (some ⟨h.n + 1, 0, none⟩) N N), (20, .int .i64 N), (21, .int .i64 z.n)]) (fun z => H0.push (.cells (outC d p s (fM S (min z.n (3 * S)) 0) N) .ex 1)) (fun z => N - z.n) ⟨0⟩
    (Nat.zero_le _) ⟨by show h.n ≤ H0.n + 1; omega, Nat.le_refl _, fun _ _ e => e, cC _⟩ (by simp; exact ⟨.ptr (by show h.n < H0.n + 1; omega), vb_slice (by show h.n + 1 < H0.n + 1; omega), .int, .int⟩) ?_
  rintro ⟨n⟩ hn
  dsimp only at hn ⊢
  by_cases hlt : n < N
  · obtain ⟨hr, hN2⟩ := hNr (by omega)
    obtain ⟨hd, hp, hs⟩ := right_prop.1 hr
    have hlt' : (n : Int) < (N : Int) := by omega
    have w4 : IntKind.i64.wrap ((n : Int) + 1) = ((n + 1 : Nat) : Int) := w1 n (by omega)
    have iN : aidx (.int .i64 (n : Int)) N = some n := aidx_of hlt
    simp [c13_0, hlt', fG, hac, hgv, apart]
    refine (of_ok d p s n _).mono ?_
    rintro _ h9 ⟨rfl, e⟩
    rw [e]; clear e h9
    by_cases h3 : n < 3 * S
    · have hof : ofR d p s n = .tuple #[cI ((n : Int) / slot d p s), cI ((n : Int) % slot d p s % s), cI ((n : Int) % slot d p s / s), .bool true] := by
        unfold ofR; rw [if_pos ⟨hr, by omega, by omega⟩]
      have hpl : place d p s n = (0, (n : Int) / slot d p s, (n : Int) % slot d p s % s, (n : Int) % slot d p s / s) := by
        unfold place; rw [if_pos (by omega)]
      have b1 : 0 ≤ (n : Int) / slot d p s ∧ (n : Int) / slot d p s ≤ 2 := by
        rw [hS]
        refine ⟨Int.ediv_nonneg (by omega) (by omega), ?_⟩
        have : (n : Int) / S < 3 := Int.ediv_lt_of_lt_mul (by omega) (by omega)
        omega
      have b2 : 0 ≤ (n : Int) % slot d p s ∧ (n : Int) % slot d p s < 112 := by
        rw [hS]
        have := Int.emod_nonneg (n : Int) (b := (S : Int)) (by omega)
        have := Int.emod_lt_of_pos (n : Int) (b := (S : Int)) (by omega)
        omega
      generalize (n : Int) % slot d p s = r at *
      have b3 : 0 ≤ r % s ∧ r % s ≤ 1000 := by
        have := Int.emod_nonneg r (b := s) (by omega)
        have := Int.emod_lt_of_pos r (b := s) (by omega)
        omega
      have b4 : 0 ≤ r / s ∧ r / s ≤ 1000 := by
        have h1 := Int.ediv_nonneg (a := r) (b := s) (by omega) (by omega)
        have h2 := Int.ediv_le_self (a := r) s (by omega)
        omega
      have hput := outC_put d p s (fM S (min n (3 * S)) 0) N n hlt
      have hline : lineP d (place d p s n) = secB d ((n : Int) / slot d p s) (r % s) (r / s) := by rw [hpl]; rfl
      rw [hline] at hput
      have hcong : outC d p s (fun m => fM S (min n (3 * S)) 0 m || decide (m = n)) N = outC d p s (fM S (min (n + 1) (3 * S)) 0) N := outC_congr fun m hm => by
        rw [Bool.eq_iff_iff]; simp [fM]; omega
      rw [hcong] at hput
      have hlen := outC_len d p s (fM S (min n (3 * S)) 0) N
      have hle : n + 1 ≤ N := hlt
      rw [hof]
      simp [fG, hac, hgv, apart, cI]
      refine (gsector_ok d p s _ _ _ hd b1 b3 b4 _).mono ?_
      rintro _ h9 ⟨rfl, e⟩
      rw [e]; clear e h9
      have hsv2 : ∀ l, mcells (sv l) = some [sv l] := fun _ => rfl
      simp [iN, fC, sp, hsv2, hput, hlen, hle, w4, -Int.natCast_add]
      exact ⟨⟨n + 1⟩, by show N - (n + 1) < N - n; omega, hlt, ⟨by show h.n ≤ H0.n + 1; omega, Nat.le_refl _, fun _ _ e => e, cC _⟩, .ptr (by show h.n < H0.n + 1; omega), vb_slice (by show h.n + 1 < H0.n + 1; omega), .int, rfl, .int⟩
    · have hof : ofR d p s n = .tuple #[cI 0, cI 0, cI 0, .bool false] := by
        unfold ofR; rw [if_neg (by omega)]
      have hmin : min (n + 1) (3 * S) = min n (3 * S) := by omega
      rw [hof]
      simp [w4, -Int.natCast_add]
      exact ⟨⟨n + 1⟩, by show N - (n + 1) < N - n; omega, hlt, by show (H0.push (.cells (outC d p s (fM S (min (n + 1) (3 * S)) 0) N) .ex 1)).Sub _ _; rw [hmin]; exact ⟨by show h.n ≤ H0.n + 1; omega, Nat.le_refl _, fun _ _ e => e, cC _⟩, .ptr (by show h.n < H0.n + 1; omega), vb_slice (by show h.n + 1 < H0.n + 1; omega), .int, rfl, .int⟩
  · have hne : n = N := by omega
    subst hne
    have hf1 : outC d p s (fM S (min n (3 * S)) 0) n = outC d p s (fM S (3 * S + 8 * 0) 0) n := outC_congr fun m hm => by
      by_cases q : 0 < n
      · have := (hNr q).2
        rw [show min n (3 * S) = 3 * S + 8 * 0 by omega]
      · omega
    rw [hf1]
    simp [c13_0]
    refine awp_loop_of (α := MS2) (fun z => z.a ≤ 2 ∧ (z.a = 0 ∨ 0 < n)) (fun z => [(1, .pointer (some ⟨h.n, 0, none⟩)), (3, .slice (some ⟨h.n + 1, 0, none⟩) n n), (9, .int .i64 z.a)]) (fun z => H0.push (.cells (outC d p s (fM S (3 * S + 8 * z.a) z.a) n) .ex 1)) (fun z => 2 - z.a) ⟨0⟩
      ⟨Nat.zero_le _, .inl rfl⟩ ⟨by show h.n ≤ H0.n + 1; omega, Nat.le_refl _, fun _ _ e => e, cC _⟩ (by simp; exact ⟨.ptr (by show h.n < H0.n + 1; omega), vb_slice (by show h.n + 1 < H0.n + 1; omega), .int⟩) ?_
    rintro ⟨a⟩ ⟨ha, ha0⟩
    dsimp only at ha ha0 ⊢
    by_cases hgo : a < 2 ∧ 0 < n
    · obtain ⟨ha2, hn0⟩ := hgo
      obtain ⟨hr, hN2⟩ := hNr hn0
      have ha2' : (a : Int) < 2 := by omega
      have hn0' : (0 : Int) < (n : Int) := by omega
      simp [c13_2, ha2', hn0', hn0]
      refine awp_loop_of (α := MS2) (fun z => z.a ≤ 2) (fun z => [(1, .pointer (some ⟨h.n, 0, none⟩)), (3, .slice (some ⟨h.n + 1, 0, none⟩) n n), (9, .int .i64 a), (51, .int .i64 z.a)]) (fun z => H0.push (.cells (outC d p s (fM S (3 * S + 8 * a + 4 * z.a) a) n) .ex 1)) (fun z => 2 - z.a) ⟨0⟩
        (Nat.zero_le _) ⟨by show h.n ≤ H0.n + 1; omega, Nat.le_refl _, fun _ _ e => e, cC _⟩ (by simp; exact ⟨.ptr (by show h.n < H0.n + 1; omega), vb_slice (by show h.n + 1 < H0.n + 1; omega), .int, .int⟩) ?_
      rintro ⟨b⟩ hbb
      dsimp only at hbb ⊢
      by_cases hb2 : b < 2
      · have hb2' : (b : Int) < 2 := by omega
        have w4 : IntKind.i64.wrap ((b : Int) + 1) = ((b + 1 : Nat) : Int) := w1 b (by omega)
        simp [c13_4, hb2', fG, hac, hgv, apart]
        refine (half_ok d p s a b _).mono ?_
        rintro _ h9 ⟨rfl, e⟩
        rw [e]; clear e h9
        have hhf : halfR d p s a b = .tuple #[cI (((3 * S + 8 * a + 4 * b : Nat) : Int)), cI 0] := by
          unfold halfR
          rw [if_neg (by simp [hr]), if_pos (by omega)]
          congr 4
          omega
        rw [hhf]
        simp [cI, -Int.natCast_add, -Int.natCast_mul]
        refine awp_loop_of (α := MS2) (fun z => z.a ≤ 4) (fun z => [(1, .pointer (some ⟨h.n, 0, none⟩)), (3, .slice (some ⟨h.n + 1, 0, none⟩) n n), (9, .int .i64 a), (10, .int .i64 b), (11, .int .i64 ((3 * S + 8 * a + 4 * b : Nat) : Int)), (51, .int .i64 b), (61, .int .i64 z.a)]) (fun z => H0.push (.cells (outC d p s (fM S (3 * S + 8 * a + 4 * b + z.a) a) n) .ex 1)) (fun z => 4 - z.a) ⟨0⟩
          (Nat.zero_le _) ⟨by show h.n ≤ H0.n + 1; omega, Nat.le_refl _, fun _ _ e => e, cC _⟩ (by simp [-Int.natCast_add, -Int.natCast_mul]; exact ⟨.ptr (by show h.n < H0.n + 1; omega), vb_slice (by show h.n + 1 < H0.n + 1; omega), .int, .int, .int, .int, .int⟩) ?_
        rintro ⟨i⟩ hii
        dsimp only at hii ⊢
        by_cases hi4 : i < 4
        · have hi4' : (i : Int) < 4 := by omega
          have w5 : IntKind.i64.wrap ((i : Int) + 1) = ((i + 1 : Nat) : Int) := w1 i (by omega)
          have w6 : IntKind.i64.wrap (((3 * S + 8 * a + 4 * b : Nat) : Int) + (i : Int)) = ((3 * S + 8 * a + 4 * b + i : Nat) : Int) := by rw [IntWalk.i64_in _ (by omega)]; omega
          have iM : aidx (.int .i64 ((3 * S + 8 * a + 4 * b + i : Nat) : Int)) n = some (3 * S + 8 * a + 4 * b + i) := aidx_of (by omega)
          have fil : afill [.int .i64 0, .int .i64 0, .int .i64 0] [(0, 1, .int .i64 a), (1, 1, .int .i64 b), (2, 1, .int .i64 i)] = some ([(a : Int), b, i].map cI) := rfl
          have hput := outC_put d p s (fM S (3 * S + 8 * a + 4 * b + i) a) n (3 * S + 8 * a + 4 * b + i) (by omega)
          have hpl : place d p s ((3 * S + 8 * a + 4 * b + i : Nat) : Int) = (1, (a : Int), (b : Int), (i : Int)) := by
            have := place_log (d := d) (p := p) (s := s) (a := a) (c := b) (i := i) (by omega) (by omega) (by omega)
            rw [← this, hS]; congr 1 <;> omega
          have hline : lineP d (place d p s ((3 * S + 8 * a + 4 * b + i : Nat) : Int)) = 108 :: 111 :: 103 :: 32 :: joinB [46] [itoaB a, itoaB b, itoaB i] := by rw [hpl]; rfl
          rw [hline] at hput
          have hcong : outC d p s (fun m => fM S (3 * S + 8 * a + 4 * b + i) a m || decide (m = 3 * S + 8 * a + 4 * b + i)) n = outC d p s (fM S (3 * S + 8 * a + 4 * b + (i + 1)) a) n := outC_congr fun m hm => by
            rw [fM_next (by omega)]; rfl
          rw [hcong] at hput
          have hlen := outC_len d p s (fM S (3 * S + 8 * a + 4 * b + i) a) n
          have hle : 3 * S + 8 * a + 4 * b + i + 1 ≤ n := by omega
          have la := (itoaB_len (a : Int) (by omega) (by omega)).2
          have lb := (itoaB_len (b : Int) (by omega) (by omega)).2
          have li := (itoaB_len (i : Int) (by omega) (by omega)).2
          have hjl : (joinB [46] [itoaB a, itoaB b, itoaB i]).length ≤ 100 := by simp [joinB]; omega
          have hsz : 4 + (joinB [46] [itoaB a, itoaB b, itoaB i]).length ≤ 9223372036854775807 := by omega
          have hsub := fun g => sub_ps (H0 := H0) (n0 := h.n) (o := .cells (outC d p s (fM S (3 * S + 8 * a + 4 * b + i) a) n) .ex 1) (g := g) (cC (fM S (3 * S + 8 * a + 4 * b + (i + 1)) a)) (by omega)
          have hg1 := cellsOf_new (H0.push (.cells (outC d p s (fM S (3 * S + 8 * a + 4 * b + i) a) n) .ex 1)) ([(a : Int), b, i].map cI) .ex 1
          have fC2 : ((H0.push (.cells (outC d p s (fM S (3 * S + 8 * a + 4 * b + i) a) n) .ex 1)).push (.cells ([(a : Int), b, i].map cI) .ex 1)).cellsOf (h.n + 1) = some (outC d p s (fM S (3 * S + 8 * a + 4 * b + i) a) n, .ex, 1) := by rw [cellsOf_ne (by show ¬ h.n + 1 = H0.n + 1; omega)]; exact fC _
          rw [push_n, n0] at hg1
          generalize hX : ([(a : Int), b, i].map cI) = X at *
          simp [c13_6, hi4', w6, fil, iM, n0, bs_lit, -Int.natCast_add, -Int.natCast_mul]
          refine (dotted_ok (h.n + 1 + 1) 3 [(a : Int), b, i] (by simp) rfl (by omega) (by simp; omega) _ (by rw [hX]; exact hg1)).mono ?_
          rintro _ h9 ⟨rfl, e⟩
          rw [e]; clear e h9
          have hsv2 : ∀ l, mcells (.string (bs l)) = some [sv l] := fun _ => rfl
          simp only [List.map_cons, List.map_nil]
          generalize hJ : joinB [46] [itoaB a, itoaB b, itoaB i] = J at *
          have hsvJ : sv J = .string (bs J) := rfl
          simp [hsvJ, bs_size, bs_append, hsz, iM, fC2, hsv2, hput, hlen, hle, w5, -Int.natCast_add, -Int.natCast_mul]
          refine ⟨⟨i + 1⟩, by show 4 - (i + 1) < 4 - i; omega, by show i + 1 ≤ 4; omega, ?_, .ptr (by show h.n < h.n + 1 + 1; omega), vb_slice (by show h.n + 1 < h.n + 1 + 1; omega), .int, .int, .int, .int, rfl, .int⟩
          rw [← n0]; exact hsub _
        · have hie : i = 4 := by omega
          subst hie
          simp [c13_6, w4, -Int.natCast_add, -Int.natCast_mul]
          exact ⟨⟨b + 1⟩, by show 2 - (b + 1) < 2 - b; omega, by show b + 1 ≤ 2; omega, by show (H0.push (.cells (outC d p s (fM S (3 * S + 8 * a + 4 * (b + 1)) a) n) .ex 1)).Sub _ _; rw [show 3 * S + 8 * a + 4 * (b + 1) = 3 * S + 8 * a + 4 * b + 4 by omega]; exact ⟨by show h.n ≤ H0.n + 1; omega, Nat.le_refl _, fun _ _ e => e, cC _⟩, .ptr (by show h.n < H0.n + 1; omega), vb_slice (by show h.n + 1 < H0.n + 1; omega), .int, rfl, .int⟩
      · have hbe : b = 2 := by omega
        subst hbe
        have w5 : IntKind.i64.wrap ((a : Int) + 1) = ((a + 1 : Nat) : Int) := w1 a (by omega)
        simp [c13_4, fG, hac, hgv, apart]
        refine (tally_ok d p s a _).mono ?_
        rintro _ h9 ⟨rfl, e⟩
        rw [e]; clear e h9
        have htl : tallyR d p s a = .tuple #[cI (((3 * S + 16 + a : Nat) : Int)), cI 0] := by
          unfold tallyR
          rw [if_neg (by simp [hr]), if_pos (by omega)]
          congr 4
          omega
        rw [htl]
        simp [cI, -Int.natCast_add, -Int.natCast_mul]
        refine (itoa_ok a (by omega) (by omega) _).mono ?_
        rintro _ h9 ⟨rfl, e⟩
        rw [e]; clear e h9
        have iM : aidx (.int .i64 ((3 * S + 16 + a : Nat) : Int)) n = some (3 * S + 16 + a) := aidx_of (by omega)
        have hput := outC_put d p s (fM S (3 * S + 8 * a + 4 * 2) a) n (3 * S + 16 + a) (by omega)
        have hpl : place d p s ((3 * S + 16 + a : Nat) : Int) = (2, (a : Int), 0, 0) := by
          have := place_tally (d := d) (p := p) (s := s) (a := a) (by omega)
          rw [← this, hS]; congr 1 <;> omega
        have hline : lineP d (place d p s ((3 * S + 16 + a : Nat) : Int)) = 116 :: 97 :: 108 :: 108 :: 121 :: 32 :: itoaB a := by rw [hpl]; rfl
        rw [hline] at hput
        have hcong : outC d p s (fun m => fM S (3 * S + 8 * a + 4 * 2) a m || decide (m = 3 * S + 16 + a)) n = outC d p s (fM S (3 * S + 8 * (a + 1)) (a + 1)) n := outC_congr fun m hm => by
          rw [fM_tally, show 3 * S + 8 * a + 4 * 2 = 3 * S + 8 * (a + 1) by omega]
        rw [hcong] at hput
        have hlen := outC_len d p s (fM S (3 * S + 8 * a + 4 * 2) a) n
        have hle : 3 * S + 16 + a + 1 ≤ n := by omega
        have la := (itoaB_len (a : Int) (by omega) (by omega)).2
        have hsz : 6 + (itoaB a).length ≤ 9223372036854775807 := by omega
        have hsv2 : ∀ l, mcells (.string (bs l)) = some [sv l] := fun _ => rfl
        have fC2 := fC (fM S (3 * S + 8 * a + 4 * 2) a)
        simp [bs_lit, bs_size, bs_append, hsz, iM, fC2, sp, hsv2, hput, hlen, hle, w5, -Int.natCast_add, -Int.natCast_mul]
        exact ⟨⟨a + 1⟩, by show 2 - (a + 1) < 2 - a; omega, by show a + 1 ≤ 2; omega, ⟨by show h.n ≤ H0.n + 1; omega, Nat.le_refl _, fun _ _ e => e, cC _⟩, .ptr (by show h.n < H0.n + 1; omega), vb_slice (by show h.n + 1 < H0.n + 1; omega), rfl, .int⟩
    · have hfin : outC d p s (fM S (3 * S + 8 * a) a) n = outC d p s (fun _ => true) n := outC_congr fun m hm => by
        obtain ⟨_, hN2⟩ := hNr (by omega)
        have : a = 2 := by omega
        subst this
        rw [Bool.eq_iff_iff]; simp [fM]; omega
      rw [hfin]
      by_cases ha2 : a < 2
      · have hn0 : n = 0 := by omega
        have ha2' : (a : Int) < 2 := by omega
        subst hn0
        simp [c13_2, ha2']
        exact ⟨eC _, fC _⟩
      · have ha2' : ¬ (a : Int) < 2 := by omega
        simp [c13_2, ha2']
        exact ⟨eC _, fC _⟩
def c16 : AC := .seq (.ops [⟨ some 2, none, .mv (.const (.string ⟨ ⟨[] ⟩ ⟩)) ⟩]) (.seq (.ops [⟨ some 3, none, .mv (.tmp 0) ⟩, ⟨ some 4, none, .bin .quo (.tmp 3) (.const (.int .i64 10)) ⟩, ⟨ some 5, none, .bin .add (.const (.int .i64 48)) (.tmp 4) ⟩, ⟨ some 6, none, .toInt .u8 (.tmp 5) ⟩, ⟨ some 7, none, .mv (.tmp 0) ⟩, ⟨ some 8, none, .bin .rem (.tmp 7) (.const (.int .i64 10)) ⟩, ⟨ some 9, none, .bin .add (.const (.int .i64 48)) (.tmp 8) ⟩, ⟨ some 10, none, .toInt .u8 (.tmp 9) ⟩, ⟨ some 11, none, .buildS 2 [.int .u8 0, .int .u8 0] [(0, 1, .tmp 6), (1, 1, .tmp 10)] ⟩, ⟨ some 12, none, .toStr (.tmp 11) ⟩, ⟨ some 13, none, .mv (.tmp 0) ⟩, ⟨ some 14, none, .bin .quo (.tmp 13) (.const (.int .i64 10)) ⟩, ⟨ some 15, none, .mn [.tmp 14, .const (.int .i64 1)] ⟩, ⟨ some 16, none, .bin .sub (.const (.int .i64 1)) (.tmp 15) ⟩, ⟨ some 17, none, .slS (.tmp 12) (some (.tmp 16)) none ⟩, ⟨ some 2, none, .mv (.tmp 17) ⟩]) .ret)
theorem k16 : compF Tryd.prog Tryd.f16 = some (c16, [2]) := by kernel_rfl
theorem n16 : Tryd.f16.ntmps = 18 := by kernel_rfl
def c3_0 : AC := .seq (.ops [⟨ some 29, none, .bin .lss (.tmp 28) (.tmp 27) ⟩]) (.seq (.cond (.tmp 29) .skip (.exit 0)) (.seq (.block 1 (.seq (.ops [⟨ some 30, none, .mv (.tmp 28) ⟩, ⟨ some 31, none, .iAddrS 4 (.tmp 26) (.tmp 28) ⟩, ⟨ some 32, none, .load (some 4) (.tmp 31) ⟩, ⟨ some 7, none, .alloc [.int .i64 0, .int .i64 0, .int .i64 0, .int .i64 0] ⟩, ⟨ some 6, none, .mv (.tmp 30) ⟩, ⟨ none, none, .store 4 (.tmp 7) (.tmp 32) ⟩]) (.seq (.ops [⟨ some 33, none, .mv (.tmp 5) ⟩, ⟨ some 34, none, .fAddr 1 (.tmp 7) ⟩, ⟨ some 35, none, .load none (.tmp 34) ⟩, ⟨ some 36, none, .callv (.tmp 33) [.tmp 35] ⟩, ⟨ some 37, none, .bin .add (.const (.string ⟨ ⟨[116, 97, 108, 108, 121, 32] ⟩ ⟩)) (.tmp 36) ⟩, ⟨ some 8, none, .mv (.tmp 37) ⟩]) (.seq (.block 2 (.seq (.ops [⟨ some 39, none, .fAddr 0 (.tmp 7) ⟩, ⟨ some 40, none, .load none (.tmp 39) ⟩, ⟨ some 41, none, .bin .eql (.tmp 40) (.const (.int .i64 1)) ⟩, ⟨ some 38, none, .mv (.tmp 41) ⟩]) (.cond (.tmp 38) (.draw [([⟨ some 42, none, .mv (.tmp 5) ⟩, ⟨ some 43, none, .fAddr 1 (.tmp 7) ⟩, ⟨ some 44, none, .load none (.tmp 43) ⟩, ⟨ some 48, none, .mv (.tmp 5) ⟩, ⟨ some 49, none, .fAddr 2 (.tmp 7) ⟩, ⟨ some 50, none, .load none (.tmp 49) ⟩, ⟨ some 54, none, .mv (.tmp 5) ⟩, ⟨ some 55, none, .fAddr 3 (.tmp 7) ⟩, ⟨ some 56, none, .load none (.tmp 55) ⟩], [⟨ some 45, none, .callv (.tmp 42) [.tmp 44] ⟩], [⟨ some 50, none, .load none (.tmp 49) ⟩, ⟨ some 56, none, .load none (.tmp 55) ⟩]), ([⟨ some 46, none, .bin .add (.const (.string ⟨ ⟨[108, 111, 103, 32] ⟩ ⟩)) (.tmp 45) ⟩, ⟨ some 47, none, .bin .add (.tmp 46) (.const (.string ⟨ ⟨[46] ⟩ ⟩)) ⟩], [⟨ some 51, none, .callv (.tmp 48) [.tmp 50] ⟩], [⟨ some 56, none, .load none (.tmp 55) ⟩]), ([⟨ some 52, none, .bin .add (.tmp 47) (.tmp 51) ⟩, ⟨ some 53, none, .bin .add (.tmp 52) (.const (.string ⟨ ⟨[46] ⟩ ⟩)) ⟩], [⟨ some 57, none, .callv (.tmp 54) [.tmp 56] ⟩], []), ([⟨ some 58, none, .bin .add (.tmp 53) (.tmp 57) ⟩, ⟨ some 8, none, .mv (.tmp 58) ⟩], [], [])]) (.seq (.ops [⟨ some 60, none, .fAddr 0 (.tmp 7) ⟩, ⟨ some 61, none, .load none (.tmp 60) ⟩, ⟨ some 62, none, .bin .eql (.tmp 61) (.const (.int .i64 0)) ⟩, ⟨ some 63, none, .mv (.tmp 62) ⟩, ⟨ some 64, some (63, true), .fAddr 3 (.tmp 7) ⟩, ⟨ some 65, some (63, true), .load none (.tmp 64) ⟩, ⟨ some 66, some (63, true), .fAddr 0 (.tmp 1) ⟩, ⟨ some 67, some (63, true), .load none (.tmp 66) ⟩, ⟨ some 68, some (63, true), .bin .lss (.tmp 65) (.tmp 67) ⟩, ⟨ some 69, none, .pick (.tmp 63) (.tmp 68) (.const (.bool false)) ⟩, ⟨ some 59, none, .mv (.tmp 69) ⟩]) (.cond (.tmp 59) (.drawT [⟨ some 71, none, .fAddr 1 (.tmp 7) ⟩, ⟨ some 72, none, .load none (.tmp 71) ⟩, ⟨ some 76, none, .mv (.tmp 5) ⟩, ⟨ some 77, none, .fAddr 2 (.tmp 7) ⟩, ⟨ some 78, none, .load none (.tmp 77) ⟩, ⟨ some 82, none, .mv (.tmp 5) ⟩, ⟨ some 83, none, .fAddr 3 (.tmp 7) ⟩, ⟨ some 84, none, .load none (.tmp 83) ⟩] (DT.br ⟨ some 70, none, .buildS 3 [.string ⟨ ⟨[] ⟩ ⟩, .string ⟨ ⟨[] ⟩ ⟩, .string ⟨ ⟨[] ⟩ ⟩] [(0, 1, .const (.string ⟨ ⟨[103, 111, 108, 100, 101, 110] ⟩ ⟩)), (1, 1, .const (.string ⟨ ⟨[97] ⟩ ⟩)), (2, 1, .const (.string ⟨ ⟨[98] ⟩ ⟩))] ⟩ [⟨ some 72, none, .load none (.tmp 71) ⟩, ⟨ some 78, none, .load none (.tmp 77) ⟩, ⟨ some 84, none, .load none (.tmp 83) ⟩] [⟨ some 73, none, .iAddrS 1 (.tmp 70) (.tmp 72) ⟩, ⟨ some 74, none, .load none (.tmp 73) ⟩, ⟨ some 75, none, .bin .add (.tmp 74) (.const (.string ⟨ ⟨[32] ⟩ ⟩)) ⟩] (DT.br ⟨ some 79, none, .callv (.tmp 76) [.tmp 78] ⟩ [⟨ some 72, none, .load none (.tmp 71) ⟩, ⟨ some 84, none, .load none (.tmp 83) ⟩, ⟨ some 74, none, .load none (.tmp 73) ⟩] [⟨ some 80, none, .bin .add (.tmp 75) (.tmp 79) ⟩, ⟨ some 81, none, .bin .add (.tmp 80) (.const (.string ⟨ ⟨[100] ⟩ ⟩)) ⟩] (DT.br ⟨ some 85, none, .callv (.tmp 82) [.tmp 84] ⟩ [⟨ some 72, none, .load none (.tmp 71) ⟩, ⟨ some 74, none, .load none (.tmp 73) ⟩] [⟨ some 86, none, .bin .add (.tmp 81) (.tmp 85) ⟩, ⟨ some 8, none, .mv (.tmp 86) ⟩] DT.nil DT.nil) DT.nil) (DT.br ⟨ some 79, none, .callv (.tmp 76) [.tmp 78] ⟩ [⟨ some 72, none, .load none (.tmp 71) ⟩, ⟨ some 84, none, .load none (.tmp 83) ⟩] [] (DT.br ⟨ some 70, none, .buildS 3 [.string ⟨ ⟨[] ⟩ ⟩, .string ⟨ ⟨[] ⟩ ⟩, .string ⟨ ⟨[] ⟩ ⟩] [(0, 1, .const (.string ⟨ ⟨[103, 111, 108, 100, 101, 110] ⟩ ⟩)), (1, 1, .const (.string ⟨ ⟨[97] ⟩ ⟩)), (2, 1, .const (.string ⟨ ⟨[98] ⟩ ⟩))] ⟩ [⟨ some 72, none, .load none (.tmp 71) ⟩, ⟨ some 78, none, .load none (.tmp 77) ⟩, ⟨ some 84, none, .load none (.tmp 83) ⟩] [⟨ some 73, none, .iAddrS 1 (.tmp 70) (.tmp 72) ⟩, ⟨ some 74, none, .load none (.tmp 73) ⟩, ⟨ some 75, none, .bin .add (.tmp 74) (.const (.string ⟨ ⟨[32] ⟩ ⟩)) ⟩, ⟨ some 80, none, .bin .add (.tmp 75) (.tmp 79) ⟩, ⟨ some 81, none, .bin .add (.tmp 80) (.const (.string ⟨ ⟨[100] ⟩ ⟩)) ⟩] (DT.br ⟨ some 85, none, .callv (.tmp 82) [.tmp 84] ⟩ [⟨ some 72, none, .load none (.tmp 71) ⟩, ⟨ some 74, none, .load none (.tmp 73) ⟩] [⟨ some 86, none, .bin .add (.tmp 81) (.tmp 85) ⟩, ⟨ some 8, none, .mv (.tmp 86) ⟩] DT.nil DT.nil) (DT.br ⟨ some 85, none, .callv (.tmp 82) [.tmp 84] ⟩ [⟨ some 72, none, .load none (.tmp 71) ⟩] [] (DT.br ⟨ some 70, none, .buildS 3 [.string ⟨ ⟨[] ⟩ ⟩, .string ⟨ ⟨[] ⟩ ⟩, .string ⟨ ⟨[] ⟩ ⟩] [(0, 1, .const (.string ⟨ ⟨[103, 111, 108, 100, 101, 110] ⟩ ⟩)), (1, 1, .const (.string ⟨ ⟨[97] ⟩ ⟩)), (2, 1, .const (.string ⟨ ⟨[98] ⟩ ⟩))] ⟩ [⟨ some 72, none, .load none (.tmp 71) ⟩, ⟨ some 78, none, .load none (.tmp 77) ⟩, ⟨ some 84, none, .load none (.tmp 83) ⟩] [⟨ some 73, none, .iAddrS 1 (.tmp 70) (.tmp 72) ⟩, ⟨ some 74, none, .load none (.tmp 73) ⟩, ⟨ some 75, none, .bin .add (.tmp 74) (.const (.string ⟨ ⟨[32] ⟩ ⟩)) ⟩, ⟨ some 80, none, .bin .add (.tmp 75) (.tmp 79) ⟩, ⟨ some 81, none, .bin .add (.tmp 80) (.const (.string ⟨ ⟨[100] ⟩ ⟩)) ⟩, ⟨ some 86, none, .bin .add (.tmp 81) (.tmp 85) ⟩, ⟨ some 8, none, .mv (.tmp 86) ⟩] DT.nil DT.nil) DT.nil)) DT.nil))) (.seq (.ops [⟨ some 88, none, .fAddr 0 (.tmp 7) ⟩, ⟨ some 89, none, .load none (.tmp 88) ⟩, ⟨ some 90, none, .bin .eql (.tmp 89) (.const (.int .i64 0)) ⟩, ⟨ some 87, none, .mv (.tmp 90) ⟩]) (.cond (.tmp 87) (.drawT [⟨ some 92, none, .fAddr 1 (.tmp 7) ⟩, ⟨ some 93, none, .load none (.tmp 92) ⟩, ⟨ some 97, none, .mv (.tmp 5) ⟩, ⟨ some 98, none, .fAddr 2 (.tmp 7) ⟩, ⟨ some 99, none, .load none (.tmp 98) ⟩, ⟨ some 103, none, .mv (.tmp 5) ⟩, ⟨ some 104, none, .fAddr 3 (.tmp 7) ⟩, ⟨ some 105, none, .load none (.tmp 104) ⟩, ⟨ some 106, none, .fAddr 0 (.tmp 1) ⟩, ⟨ some 107, none, .load none (.tmp 106) ⟩, ⟨ some 108, none, .bin .sub (.tmp 105) (.tmp 107) ⟩] (DT.br ⟨ some 91, none, .buildS 3 [.string ⟨ ⟨[] ⟩ ⟩, .string ⟨ ⟨[] ⟩ ⟩, .string ⟨ ⟨[] ⟩ ⟩] [(0, 1, .const (.string ⟨ ⟨[103, 111, 108, 100, 101, 110] ⟩ ⟩)), (1, 1, .const (.string ⟨ ⟨[97] ⟩ ⟩)), (2, 1, .const (.string ⟨ ⟨[98] ⟩ ⟩))] ⟩ [⟨ some 93, none, .load none (.tmp 92) ⟩, ⟨ some 99, none, .load none (.tmp 98) ⟩, ⟨ some 105, none, .load none (.tmp 104) ⟩, ⟨ some 107, none, .load none (.tmp 106) ⟩] [⟨ some 94, none, .iAddrS 1 (.tmp 91) (.tmp 93) ⟩, ⟨ some 95, none, .load none (.tmp 94) ⟩, ⟨ some 96, none, .bin .add (.tmp 95) (.const (.string ⟨ ⟨[32] ⟩ ⟩)) ⟩] (DT.br ⟨ some 100, none, .callv (.tmp 97) [.tmp 99] ⟩ [⟨ some 93, none, .load none (.tmp 92) ⟩, ⟨ some 105, none, .load none (.tmp 104) ⟩, ⟨ some 107, none, .load none (.tmp 106) ⟩, ⟨ some 95, none, .load none (.tmp 94) ⟩] [⟨ some 101, none, .bin .add (.tmp 96) (.tmp 100) ⟩, ⟨ some 102, none, .bin .add (.tmp 101) (.const (.string ⟨ ⟨[112] ⟩ ⟩)) ⟩] (DT.br ⟨ some 109, none, .callv (.tmp 103) [.tmp 108] ⟩ [⟨ some 93, none, .load none (.tmp 92) ⟩, ⟨ some 95, none, .load none (.tmp 94) ⟩] [⟨ some 110, none, .bin .add (.tmp 102) (.tmp 109) ⟩, ⟨ some 8, none, .mv (.tmp 110) ⟩] DT.nil DT.nil) DT.nil) (DT.br ⟨ some 100, none, .callv (.tmp 97) [.tmp 99] ⟩ [⟨ some 93, none, .load none (.tmp 92) ⟩, ⟨ some 105, none, .load none (.tmp 104) ⟩, ⟨ some 107, none, .load none (.tmp 106) ⟩] [] (DT.br ⟨ some 91, none, .buildS 3 [.string ⟨ ⟨[] ⟩ ⟩, .string ⟨ ⟨[] ⟩ ⟩, .string ⟨ ⟨[] ⟩ ⟩] [(0, 1, .const (.string ⟨ ⟨[103, 111, 108, 100, 101, 110] ⟩ ⟩)), (1, 1, .const (.string ⟨ ⟨[97] ⟩ ⟩)), (2, 1, .const (.string ⟨ ⟨[98] ⟩ ⟩))] ⟩ [⟨ some 93, none, .load none (.tmp 92) ⟩, ⟨ some 99, none, .load none (.tmp 98) ⟩, ⟨ some 105, none, .load none (.tmp 104) ⟩, ⟨ some 107, none, .load none (.tmp 106) ⟩] [⟨ some 94, none, .iAddrS 1 (.tmp 91) (.tmp 93) ⟩, ⟨ some 95, none, .load none (.tmp 94) ⟩, ⟨ some 96, none, .bin .add (.tmp 95) (.const (.string ⟨ ⟨[32] ⟩ ⟩)) ⟩, ⟨ some 101, none, .bin .add (.tmp 96) (.tmp 100) ⟩, ⟨ some 102, none, .bin .add (.tmp 101) (.const (.string ⟨ ⟨[112] ⟩ ⟩)) ⟩] (DT.br ⟨ some 109, none, .callv (.tmp 103) [.tmp 108] ⟩ [⟨ some 93, none, .load none (.tmp 92) ⟩, ⟨ some 95, none, .load none (.tmp 94) ⟩] [⟨ some 110, none, .bin .add (.tmp 102) (.tmp 109) ⟩, ⟨ some 8, none, .mv (.tmp 110) ⟩] DT.nil DT.nil) (DT.br ⟨ some 109, none, .callv (.tmp 103) [.tmp 108] ⟩ [⟨ some 93, none, .load none (.tmp 92) ⟩] [] (DT.br ⟨ some 91, none, .buildS 3 [.string ⟨ ⟨[] ⟩ ⟩, .string ⟨ ⟨[] ⟩ ⟩, .string ⟨ ⟨[] ⟩ ⟩] [(0, 1, .const (.string ⟨ ⟨[103, 111, 108, 100, 101, 110] ⟩ ⟩)), (1, 1, .const (.string ⟨ ⟨[97] ⟩ ⟩)), (2, 1, .const (.string ⟨ ⟨[98] ⟩ ⟩))] ⟩ [⟨ some 93, none, .load none (.tmp 92) ⟩, ⟨ some 99, none, .load none (.tmp 98) ⟩, ⟨ some 105, none, .load none (.tmp 104) ⟩, ⟨ some 107, none, .load none (.tmp 106) ⟩] [⟨ some 94, none, .iAddrS 1 (.tmp 91) (.tmp 93) ⟩, ⟨ some 95, none, .load none (.tmp 94) ⟩, ⟨ some 96, none, .bin .add (.tmp 95) (.const (.string ⟨ ⟨[32] ⟩ ⟩)) ⟩, ⟨ some 101, none, .bin .add (.tmp 96) (.tmp 100) ⟩, ⟨ some 102, none, .bin .add (.tmp 101) (.const (.string ⟨ ⟨[112] ⟩ ⟩)) ⟩, ⟨ some 110, none, .bin .add (.tmp 102) (.tmp 109) ⟩, ⟨ some 8, none, .mv (.tmp 110) ⟩] DT.nil DT.nil) DT.nil)) DT.nil))) .skip))))))) (.seq (.ops [⟨ some 111, none, .mv (.tmp 3) ⟩, ⟨ some 112, none, .mv (.tmp 6) ⟩, ⟨ some 113, none, .iAddrS 1 (.tmp 111) (.tmp 112) ⟩, ⟨ some 114, none, .load none (.tmp 113) ⟩, ⟨ some 115, none, .mv (.tmp 8) ⟩, ⟨ some 116, none, .bin .neq (.tmp 114) (.tmp 115) ⟩]) (.cond (.tmp 116) (.seq (.ops [⟨ some 2, none, .mv (.const (.bool false)) ⟩]) .ret) .skip)))))) (.ops [⟨ some 117, none, .bin .add (.tmp 28) (.const (.int .i64 1)) ⟩, ⟨ some 28, none, .mv (.tmp 117) ⟩])))
def c3 : AC := .seq (.ops [⟨ some 1, none, .box (.tmp 0) ⟩, ⟨ some 2, none, .mv (.const (.bool false)) ⟩]) (.seq (.seq (.ops [⟨ some 9, none, .call 12 [] ⟩, ⟨ some 10, none, .un .not (.tmp 9) ⟩]) (.cond (.tmp 10) (.seq (.ops [⟨ some 2, none, .mv (.const (.bool false)) ⟩]) .ret) .skip)) (.seq (.ops [⟨ some 11, none, .load (some 3) (.tmp 1) ⟩, ⟨ some 12, none, .call 13 [.tmp 11] ⟩, ⟨ some 3, none, .mv (.tmp 12) ⟩]) (.seq (.seq (.ops [⟨ some 13, none, .load (some 3) (.tmp 1) ⟩, ⟨ some 14, none, .call 14 [.tmp 13] ⟩, ⟨ some 15, none, .un .not (.tmp 14) ⟩]) (.cond (.tmp 15) (.seq (.ops [⟨ some 16, none, .mv (.tmp 3) ⟩, ⟨ some 17, none, .lenS false (.tmp 16) ⟩, ⟨ some 18, none, .bin .eql (.tmp 17) (.const (.int .i64 0)) ⟩, ⟨ some 2, none, .mv (.tmp 18) ⟩]) .ret) .skip)) (.seq (.ops [⟨ some 19, none, .load (some 3) (.tmp 1) ⟩, ⟨ some 20, none, .call 15 [.tmp 19] ⟩, ⟨ some 4, none, .mv (.tmp 20) ⟩]) (.seq (.seq (.ops [⟨ some 21, none, .mv (.tmp 3) ⟩, ⟨ some 22, none, .lenS false (.tmp 21) ⟩, ⟨ some 23, none, .mv (.tmp 4) ⟩, ⟨ some 24, none, .lenS false (.tmp 23) ⟩, ⟨ some 25, none, .bin .neq (.tmp 22) (.tmp 24) ⟩]) (.cond (.tmp 25) (.seq (.ops [⟨ some 2, none, .mv (.const (.bool false)) ⟩]) .ret) .skip)) (.seq (.ops [⟨ some 5, none, .mv (.func 16) ⟩]) (.seq (.seq (.ops [⟨ some 26, none, .mv (.tmp 4) ⟩, ⟨ some 27, none, .lenS false (.tmp 26) ⟩, ⟨ some 28, none, .mv (.const (.int .i64 0)) ⟩]) (.block 0 (.loop c3_0))) (.seq (.ops [⟨ some 2, none, .mv (.const (.bool true)) ⟩]) .ret))))))))
theorem k3 : compF Tryd.prog Tryd.f3 = some (c3, [2]) := by kernel_rfl
theorem n3 : Tryd.f3.ntmps = 118 := by kernel_rfl
/-! GeoMaps -/
variable [Nonempty GA]
theorem dec2 (n : Nat) (h : n < 100) : dec n = if n < 10 then [UInt8.ofNat (48 + n % 10)] else [UInt8.ofNat (48 + n / 10), UInt8.ofNat (48 + n % 10)] := by
  have : ∀ k : Fin 100, dec k.val = if k.val < 10 then [UInt8.ofNat (48 + k.val % 10)] else [UInt8.ofNat (48 + k.val / 10), UInt8.ofNat (48 + k.val % 10)] := by decide +kernel
  exact this ⟨n, h⟩
theorem dig_ok (n : Nat) (hn : n < 100) (h : Heap) : ACalls Tryd.prog 16 [.int .i64 n] h fun v h' => v = sv (itoaB n) ∧ h' = h := by
  refine ACalls.same .string (acalls_of mix Tryd.func16 k16 n16 (by simp) fun hcl hb => ?_)
  have d1 : IntKind.i64.wrap ((n : Int).tdiv 10) = ((n / 10 : Nat) : Int) := by
    have := tdivN n 10
    rw [show (n : Int).tdiv 10 = ((n / 10 : Nat) : Int) from this]; exact i64w _ (by omega)
  have d1' : IntKind.i64.wrap ((n : Int) / 10) = ((n / 10 : Nat) : Int) := by rw [IntWalk.i64_in _ (by omega)]; omega
  have d2 : (n : Int).tmod 10 = ((n % 10 : Nat) : Int) := tmodN n 10
  have s1 : IntKind.i64.wrap (48 + ((n / 10 : Nat) : Int)) = ((48 + n / 10 : Nat) : Int) := by rw [IntWalk.i64_in _ (by omega)]; omega
  have s2 : IntKind.i64.wrap (48 + ((n % 10 : Nat) : Int)) = ((48 + n % 10 : Nat) : Int) := by rw [IntWalk.i64_in _ (by omega)]; omega
  have u : ∀ m : Nat, m < 256 → IntKind.u8.wrap (m : Int) = ((UInt8.ofNat m).toNat : Int) := fun m hm => by
    unfold IntKind.wrap; simp [IntKind.bits, IntKind.signed]
  have u1 := u (48 + n / 10) (by omega)
  have u2 := u (48 + n % 10) (by omega)
  have hit : itoaB (n : Int) = dec n := by unfold itoaB; rw [if_neg (by omega)]; rfl
  have hd := dec2 n hn
  rw [hit]
  generalize UInt8.ofNat (48 + n / 10) = x at *
  generalize UInt8.ofNat (48 + n % 10) = y at *
  have fil : afill [.int .u8 0, .int .u8 0] [(0, 1, .int .u8 (x.toNat : Int)), (1, 1, .int .u8 (y.toNat : Int))] = some (ubs [x, y]) := rfl
  have e0 := (Heap.Ext.refl h).push hcl (.cells (ubs [x, y]) .ex 1)
  have f0 := cellsOf_new h (ubs [x, y]) .ex 1
  have hfst : afirst (h.push (.cells (ubs [x, y]) .ex 1)) 1 2 (.slice (some ⟨h.n, 0, none⟩) 2 2) = some (ubs [x, y]) := by
    simp only [afirst, f0, if_true]; rfl
  have hq0 : (10 : Int) ≠ 0 := by decide
  have b1 : abounds 2 2 (some (.int .i64 1)) none none = some (1, 2, 2) := rfl
  have b0 : abounds 2 2 (some (.int .i64 0)) none none = some (0, 2, 2) := rfl
  have w11 : IntKind.i64.wrap 1 = 1 := rfl
  have w00 : IntKind.i64.wrap 0 = 0 := rfl
  have x1 : (bs [x, y]).extract 1 2 = bs [y] := by rw [bs_extract]; rfl
  have x0 : (bs [x, y]).extract 0 2 = bs [x, y] := by rw [bs_extract]; rfl
  have hsz : (bs [x, y]).size = 2 := rfl
  have hlit : ({ data := #[x, y] } : ByteArray) = bs [x, y] := rfl
  by_cases h10 : n < 10
  · rw [if_pos h10] at hd
    have hmn : afold amin2 (.int .i64 ((n / 10 : Nat) : Int)) [.int .i64 1] = some (.int .i64 0) := by
      rw [show n / 10 = 0 by omega]; rfl
    simp [c16, d1, d1', d2, s1, s2, u1, u2, fil, hfst, abytes_ubs, hmn, hlit, hsz, w11, b1, x1, -Int.natCast_add, -Int.natCast_ediv, -Int.natCast_emod]
    exact ⟨by rw [hd]; rfl, e0⟩
  · rw [if_neg h10] at hd
    have hmn : afold amin2 (.int .i64 ((n / 10 : Nat) : Int)) [.int .i64 1] = some (.int .i64 1) := by
      have : ∀ q : Fin 10, 1 ≤ q.val → afold amin2 (.int .i64 ((q.val : Nat) : Int)) [.int .i64 1] = some (.int .i64 1) := fun q hq => by
        match q, hq with
        | 1, _ => rfl
        | 2, _ => rfl
        | 3, _ => rfl
        | 4, _ => rfl
        | 5, _ => rfl
        | 6, _ => rfl
        | 7, _ => rfl
        | 8, _ => rfl
        | 9, _ => rfl
      exact this ⟨n / 10, by omega⟩ (by show 1 ≤ n / 10; omega)
    simp [c16, d1, d1', d2, s1, s2, u1, u2, fil, hfst, abytes_ubs, hmn, hlit, hsz, w00, b0, x0, -Int.natCast_add, -Int.natCast_ediv, -Int.natCast_emod]
    exact ⟨by rw [hd]; rfl, e0⟩
theorem place_bound {d p s : Int} (hr : right d p s = true) {n : Nat} (hn : n < (allS d p s).toNat) : ∃ A B C : Nat, A ≤ 2 ∧ B < 100 ∧ C < 100 ∧ (place d p s n = (0, (A : Int), (B : Int), (C : Int)) ∨ place d p s n = (1, (A : Int), (B : Int), (C : Int)) ∨ place d p s n = (2, (A : Int), (B : Int), (C : Int))) := by
  obtain ⟨hd, hp, hs⟩ := right_prop.1 hr
  obtain ⟨hsl, hsl2⟩ := slot_right hr
  have h112 := slot_bound (d := d) (p := p) (s := s)
  have hall : allS d p s = 3 * slot d p s + 18 := by unfold allS; rw [if_pos hr]
  unfold place
  generalize slot d p s = S at *
  obtain ⟨S, rfl⟩ : ∃ m : Nat, S = m := ⟨S.toNat, by omega⟩
  obtain ⟨s, rfl⟩ : ∃ m : Nat, s = m := ⟨s.toNat, by omega⟩
  have hS0 : 0 < S := by omega
  have hs0 : 0 < s := by omega
  by_cases h1 : (n : Int) < 3 * (S : Int)
  · rw [if_pos h1]
    have k1 := Nat.div_lt_of_lt_mul (m := n) (n := S) (k := 3) (by omega)
    have k2 := Nat.mod_lt n hS0
    have k3 := Nat.mod_lt (n % S) hs0
    have k4 : n % S / s ≤ n % S := Nat.div_le_self _ _
    have k5 : n % S / s < 15 := by
      apply Nat.div_lt_of_lt_mul
      have : (S : Int) = (d + p) * s := hsl
      have h14 : (d + p) * (s : Int) ≤ 14 * s := Int.mul_le_mul_of_nonneg_right (by omega) (by omega)
      omega
    exact ⟨n / S, n % S % s, n % S / s, by omega, by omega, by omega, .inl (by simp)⟩
  · rw [if_neg h1]
    by_cases h2 : (n : Int) < 3 * (S : Int) + 16
    · rw [if_pos h2]
      obtain ⟨m, hm⟩ : ∃ m : Nat, (n : Int) - 3 * (S : Int) = m := ⟨n - 3 * S, by omega⟩
      rw [hm]
      exact ⟨m / 8, m % 8 / 4, m % 4, by omega, by omega, by omega, .inr (.inl (by simp))⟩
    · rw [if_neg h2]
      obtain ⟨m, hm⟩ : ∃ m : Nat, (n : Int) - 3 * (S : Int) - 16 = m := ⟨n - 3 * S - 16, by omega⟩
      rw [hm]
      exact ⟨m, 0, 0, by omega, by omega, by omega, .inr (.inr rfl)⟩
theorem geoMaps_law (d p s : Int) (h : Heap) : ACalls Tryd.prog 3 [gv d p s] h fun v h' => v = .bool true ∧ h' = h := by
  refine ACalls.same .bool (acalls_of mix Tryd.func3 k3 n3 (by simp) fun hcl hb => ?_)
  have hm : mcells (gv d p s) = some [.int .i64 d, .int .i64 p, .int .i64 s] := rfl
  have f0 := cellsOf_new h [.int .i64 d, .int .i64 p, .int .i64 s] .ex 1
  have hbl : ∀ n, ∀ x ∈ [Value.int .i64 d, .int .i64 p, .int .i64 s], VBelow n x := fun n x hx => by
    simp at hx; rcases hx with rfl | rfl | rfl <;> exact .int
  have c0 : (h.push (.cells [.int .i64 d, .int .i64 p, .int .i64 s] .ex 1)).Closed := closed_push hcl (hbl _)
  have e0 := (Heap.Ext.refl h).push hcl (.cells [.int .i64 d, .int .i64 p, .int .i64 s] .ex 1)
  have n0 : (h.push (.cells [.int .i64 d, .int .i64 p, .int .i64 s] .ex 1)).n = h.n + 1 := rfl
  have hac : acut [Value.int .i64 d, .int .i64 p, .int .i64 s] 0 3 = some [.int .i64 d, .int .i64 p, .int .i64 s] := rfl
  have hgv : Value.agg #[.int .i64 d, .int .i64 p, .int .i64 s] = gv d p s := rfl
  simp only [c3, s_seq, s_ops]
  simp [hm]
  generalize h.push (.cells [.int .i64 d, .int .i64 p, .int .i64 s] .ex 1) = H0 at *
  refine (gawake_ok H0).mono ?_
  rintro _ h9 ⟨rfl, e⟩
  rw [e]; clear e h9
  simp [aun, f0, hac, apart, hgv]
  refine (map_ok d p s H0).mono' ?_
  rintro _ H1 c1 vb1 ⟨e1, b, rfl, hbc⟩
  have f1 : H1.cellsOf h.n = some ([.int .i64 d, .int .i64 p, .int .i64 s], .ex, 1) := cellsOf_keep e1.m f0
  have eH1 : h.Ext H1 := ⟨by have := e0.n; have := e1.n; omega, fun y ob q => e1.m y ob (e0.m y ob q)⟩
  simp [f1, hac, apart, hgv]
  refine (gRefRight_ok d p s H1).mono ?_
  rintro _ h9 ⟨rfl, e⟩
  rw [e]; clear e h9
  have hall0 : 0 ≤ allS d p s ∧ allS d p s ≤ 400 := by
    have := slot_bound (d := d) (p := p) (s := s)
    unfold allS; split <;> omega
  cases hr : right d p s with
  | false =>
    have : allS d p s = 0 := by unfold allS; rw [if_neg (by simp [hr])]
    simp [aun, this]
    exact eH1
  | true =>
    obtain ⟨hd, hp, hs⟩ := right_prop.1 hr
    have hallr : allS d p s = 3 * slot d p s + 18 := by unfold allS; rw [if_pos hr]
    simp [aun, f1, hac, apart, hgv]
    refine (list_ok d p s hr H1).mono' ?_
    rintro _ H2 c2 vb2 ⟨⟨b2, cap, m2, ez, rfl, hb2⟩, hsub⟩
    have hpb := fun n (hn : n < (allS d p s).toNat) => place_bound hr hn
    rw [← hallr] at hb2 vb2 ⊢
    obtain ⟨N, hN⟩ : ∃ N : Nat, (allS d p s).toNat = N := ⟨_, rfl⟩
    have hN4 : N ≤ 400 := by omega
    simp only [hN] at hbc hpb hb2 ⊢
    have hb1 : H2.cellsOf b = some (outC d p s (fun _ => true) N, .ex, 1) := cellsOf_keep hsub.sub hbc
    have f2 : H2.cellsOf h.n = some ([.int .i64 d, .int .i64 p, .int .i64 s], .ex, 1) := cellsOf_keep hsub.sub f1
    have eH2 : h.Ext H2 := ⟨by have := eH1.n; have := hsub.hi; omega, fun y ob q => hsub.sub y ob (eH1.m y ob q)⟩
    have hbn := cellsOf_lt c2 hb1
    have hb2n := cellsOf_lt c2 hb2
    have hhn := cellsOf_lt c2 f2
    have hfb : VBelow H2.n (.func (.func 16) #[] #[]) := .func (fun i hi => absurd hi (by simp)) (fun i hi => absurd hi (by simp))
    simp
    refine awp_loop_of (α := MSt) (fun z => z.n ≤ N) (fun z => [(1, .pointer (some ⟨h.n, 0, none⟩)), (3, .slice (some ⟨b, 0, none⟩) N N), (5, .func (.func 16) #[] #[]), (26, .slice (some ⟨b2, 0, none⟩) N cap), (27, .int .i64 N), (28, .int .i64 z.n)]) (fun z => H2) (fun z => N - z.n) ⟨0⟩
      (Nat.zero_le _) ⟨by have := eH2.n; omega, Nat.le_refl _, fun _ _ e => e, c2⟩ (by simp; exact ⟨.ptr hhn, vb_slice hbn, hfb, vb_slice hb2n, .int, .int⟩) ?_
    rintro ⟨n⟩ hn
    dsimp only at hn ⊢
    by_cases hlt : n < N
    · obtain ⟨A, B, C, hA, hB, hC, hpl⟩ := hpb n hlt
      have hlt' : (n : Int) < (N : Int) := by omega
      have w4 : IntKind.i64.wrap ((n : Int) + 1) = ((n + 1 : Nat) : Int) := w1 n (by omega)
      have iN : aidx (.int .i64 (n : Int)) N = some n := aidx_of hlt
      have gp := places_get d p s N n hlt
      have gO := outC_get d p s (fun _ => true) N n
      rw [if_pos hlt, if_pos rfl] at gO
      have sub1 : ∀ H', H2.Ext H' → H2.Sub h.n H' := fun H' e => ⟨by have := eH2.n; omega, e.n, e.m, c2⟩
      obtain ⟨q, hq⟩ : ∃ q, place d p s n = q := ⟨_, rfl⟩
      rw [hq] at gp gO hpl
      have hql : ((plv q).length = 4) = True := eq_true rfl
      have hmq : ∀ q : Pl, mcells (.agg (plv q).toArray) = some (plv q) := fun _ => rfl
      have hpq : aput [.int .i64 0, .int .i64 0, .int .i64 0, .int .i64 0] 0 (plv q) = plv q := rfl
      have fq := cellsOf_new H2 (plv q) .ex 1
      have fz := cellsOf_new H2 [.int .i64 0, .int .i64 0, .int .i64 0, .int .i64 0] .ex 1
      have f1' : ∀ o, (H2.push o).cellsOf h.n = some ([.int .i64 d, .int .i64 p, .int .i64 s], .ex, 1) := fun o => by rw [cellsOf_ne (by omega)]; exact f2
      have fb' : ∀ o, (H2.push o).cellsOf b = some (outC d p s (fun _ => true) N, .ex, 1) := fun o => by rw [cellsOf_ne (by omega)]; exact hb1
      have eq1 := (Heap.Ext.refl H2).push c2 (.cells (plv q) .ex 1)
      have cq1 : (H2.push (.cells (plv q) .ex 1)).Closed := closed_push c2 (by intro x hx; simp [plv] at hx; rcases hx with rfl | rfl | rfl | rfl <;> exact .int)
      have nq1 : (H2.push (.cells (plv q) .ex 1)).n = H2.n + 1 := rfl
      have la := (itoaB_len (A : Int) (by omega) (by omega)).2
      have lb := (itoaB_len (B : Int) (by omega) (by omega)).2
      have lc := (itoaB_len (C : Int) (by omega) (by omega)).2
      have hA100 : A < 100 := by omega
      have sz1 : 6 + (itoaB (A : Int)).length ≤ 9223372036854775807 := by omega
      simp [c3_0, hlt', iN, hb2, gp, apart, fz, hmq, hql, hpq, set_push, fq]
      clear hql
      rcases hpl with rfl | rfl | rfl
      · have g0 : (plv ((0, (A : Int), (B : Int), (C : Int)) : Pl))[0]? = some (.int .i64 0) := rfl
        have g1 : (plv ((0, (A : Int), (B : Int), (C : Int)) : Pl))[1]? = some (.int .i64 A) := rfl
        have g2 : (plv ((0, (A : Int), (B : Int), (C : Int)) : Pl))[2]? = some (.int .i64 B) := rfl
        have g3 : (plv ((0, (A : Int), (B : Int), (C : Int)) : Pl))[3]? = some (.int .i64 C) := rfl
        simp [g0, g1, g2, g3]
        refine ⟨by kernel_rfl, (dig_ok A hA100 _).mono ?_⟩
        rintro _ h9 ⟨rfl, e⟩
        rw [e]; clear e h9
        have hl : lineP d ((0, (A : Int), (B : Int), (C : Int)) : Pl) = gN.getD A [] ++ 32 :: (itoaB B ++ partB d C) := rfl
        rw [hl] at gO
        have filN : afill [.string (bs []), .string (bs []), .string (bs [])] [(0, 1, .string (bs [103, 111, 108, 100, 101, 110])), (1, 1, .string (bs [97])), (2, 1, .string (bs [98]))] = some (gN.map sv) := rfl
        have hgl : (gN.map sv)[A]? = some (.string (bs (gN.getD A []))) := by
          have : ∀ j : Fin 3, (gN.map sv)[j.val]? = some (.string (bs (gN.getD j.val []))) := fun j => by
            match j with
            | 0 => rfl
            | 1 => rfl
            | 2 => rfl
          exact this ⟨A, by omega⟩
        have lg : (gN.getD A []).length ≤ 6 := by
          have : ∀ j : Fin 3, (gN.getD j.val []).length ≤ 6 := by decide
          exact this ⟨A, by omega⟩
        have iA : aidx (.int .i64 (A : Int)) 3 = some A := aidx_of (by omega)
        have fN := cellsOf_new (H2.push (.cells (plv (0, (A : Int), (B : Int), (C : Int))) .ex 1)) (gN.map sv) .ex 1
        rw [push_n] at fN
        have fq2 : ((H2.push (.cells (plv (0, (A : Int), (B : Int), (C : Int))) .ex 1)).push (.cells (gN.map sv) .ex 1)).cellsOf H2.n = some (plv (0, (A : Int), (B : Int), (C : Int)), .ex, 1) := by rw [cellsOf_ne (by show ¬ H2.n = H2.n + 1; omega)]; exact fq
        have fb2 : ((H2.push (.cells (plv (0, (A : Int), (B : Int), (C : Int))) .ex 1)).push (.cells (gN.map sv) .ex 1)).cellsOf b = some (outC d p s (fun _ => true) N, .ex, 1) := by rw [cellsOf_ne (by show ¬ b = H2.n + 1; omega)]; exact fb' _
        have f12 : ((H2.push (.cells (plv (0, (A : Int), (B : Int), (C : Int))) .ex 1)).push (.cells (gN.map sv) .ex 1)).cellsOf h.n = some ([.int .i64 d, .int .i64 p, .int .i64 s], .ex, 1) := by rw [cellsOf_ne (by show ¬ h.n = H2.n + 1; omega)]; exact f1' _
        have eq2 := eq1.push c2 (.cells (gN.map sv) .ex 1)
        generalize gN.getD A [] = G at *
        by_cases hCd : (C : Int) < d
        · have hpt : partB d C = 100 :: itoaB C := by unfold partB; rw [if_neg (by omega)]
          rw [hpt] at gO
          simp [bs_lit, bs_size, bs_append, sz1, sv, g0, g1, g2, g3, fq, f1', apart, hCd]
          refine ⟨?_, ?_⟩
          · simp (disch := first | exact trivial | (simp; done) | (simp; omega) | omega) [szif9, bs_lit, bs_size, bs_append, sz1, sv, filN, fN, fq2, fb2, f12, iA, hgl, g0, g1, g2, g3, fq, f1', fb', iN, gO, apart, w4, -Int.natCast_add]
            refine ⟨by kernel_rfl, (dig_ok B hB _).mono ?_⟩
            rintro _ h9 ⟨rfl, e⟩
            rw [e]; clear e h9
            simp (disch := first | exact trivial | (simp; done) | (simp; omega) | omega) [szif9, bs_lit, bs_size, bs_append, sz1, sv, filN, fN, fq2, fb2, f12, iA, hgl, g0, g1, g2, g3, fq, f1', fb', iN, gO, apart, w4, -Int.natCast_add]
            refine ⟨by kernel_rfl, (dig_ok C hC _).mono ?_⟩
            rintro _ h9 ⟨rfl, e⟩
            rw [e]; clear e h9
            simp (disch := first | exact trivial | (simp; done) | (simp; omega) | omega) [szif9, bs_lit, bs_size, bs_append, sz1, sv, filN, fN, fq2, fb2, f12, iA, hgl, g0, g1, g2, g3, fq, f1', fb', iN, gO, apart, w4, -Int.natCast_add]
            exact ⟨⟨n + 1⟩, by show N - (n + 1) < N - n; omega, hlt, sub1 _ eq2, .ptr hhn, vb_slice hbn, hfb, vb_slice hb2n, .int, rfl, .int⟩
          · refine ⟨by kernel_rfl, (dig_ok B hB _).mono ?_⟩
            rintro _ h9 ⟨rfl, e⟩
            rw [e]; clear e h9
            simp (disch := first | exact trivial | (simp; done) | (simp; omega) | omega) [szif9, bs_lit, bs_size, bs_append, sz1, sv, filN, fN, fq2, fb2, f12, iA, hgl, g0, g1, g2, g3, fq, f1', fb', iN, gO, apart, w4, -Int.natCast_add]
            refine ⟨?_, ?_⟩
            · refine ⟨by kernel_rfl, (dig_ok C hC _).mono ?_⟩
              rintro _ h9 ⟨rfl, e⟩
              rw [e]; clear e h9
              simp (disch := first | exact trivial | (simp; done) | (simp; omega) | omega) [szif9, bs_lit, bs_size, bs_append, sz1, sv, filN, fN, fq2, fb2, f12, iA, hgl, g0, g1, g2, g3, fq, f1', fb', iN, gO, apart, w4, -Int.natCast_add]
              exact ⟨⟨n + 1⟩, by show N - (n + 1) < N - n; omega, hlt, sub1 _ eq2, .ptr hhn, vb_slice hbn, hfb, vb_slice hb2n, .int, rfl, .int⟩
            · refine ⟨by kernel_rfl, (dig_ok C hC _).mono ?_⟩
              rintro _ h9 ⟨rfl, e⟩
              rw [e]; clear e h9
              simp (disch := first | exact trivial | (simp; done) | (simp; omega) | omega) [szif9, bs_lit, bs_size, bs_append, sz1, sv, filN, fN, fq2, fb2, f12, iA, hgl, g0, g1, g2, g3, fq, f1', fb', iN, gO, apart, w4, -Int.natCast_add]
              exact ⟨⟨n + 1⟩, by show N - (n + 1) < N - n; omega, hlt, sub1 _ eq2, .ptr hhn, vb_slice hbn, hfb, vb_slice hb2n, .int, rfl, .int⟩
        · have hpt : partB d C = 112 :: itoaB (C - d) := by unfold partB; rw [if_pos (by omega)]
          obtain ⟨D, hD⟩ : ∃ D : Nat, (C : Int) - d = D := ⟨((C : Int) - d).toNat, by omega⟩
          have hD100 : D < 100 := by omega
          have wD : IntKind.i64.wrap ((C : Int) - d) = (D : Int) := by rw [hD]; exact i64w _ (by omega)
          have ld := (itoaB_len (D : Int) (by omega) (by omega)).2
          rw [hpt, hD] at gO
          simp [bs_lit, bs_size, bs_append, sz1, sv, g0, g1, g2, g3, fq, f1', apart, hCd, wD]
          refine ⟨?_, ?_⟩
          · simp (disch := first | exact trivial | (simp; done) | (simp; omega) | omega) [szif9, bs_lit, bs_size, bs_append, sz1, sv, filN, fN, fq2, fb2, f12, iA, hgl, g0, g1, g2, g3, fq, f1', fb', iN, gO, apart, w4, wD, -Int.natCast_add]
            refine ⟨by kernel_rfl, (dig_ok B hB _).mono ?_⟩
            rintro _ h9 ⟨rfl, e⟩
            rw [e]; clear e h9
            simp (disch := first | exact trivial | (simp; done) | (simp; omega) | omega) [szif9, bs_lit, bs_size, bs_append, sz1, sv, filN, fN, fq2, fb2, f12, iA, hgl, g0, g1, g2, g3, fq, f1', fb', iN, gO, apart, w4, wD, -Int.natCast_add]
            refine ⟨by kernel_rfl, (dig_ok D hD100 _).mono ?_⟩
            rintro _ h9 ⟨rfl, e⟩
            rw [e]; clear e h9
            simp (disch := first | exact trivial | (simp; done) | (simp; omega) | omega) [szif9, bs_lit, bs_size, bs_append, sz1, sv, filN, fN, fq2, fb2, f12, iA, hgl, g0, g1, g2, g3, fq, f1', fb', iN, gO, apart, w4, wD, -Int.natCast_add]
            exact ⟨⟨n + 1⟩, by show N - (n + 1) < N - n; omega, hlt, sub1 _ eq2, .ptr hhn, vb_slice hbn, hfb, vb_slice hb2n, .int, rfl, .int⟩
          · refine ⟨by kernel_rfl, (dig_ok B hB _).mono ?_⟩
            rintro _ h9 ⟨rfl, e⟩
            rw [e]; clear e h9
            simp (disch := first | exact trivial | (simp; done) | (simp; omega) | omega) [szif9, bs_lit, bs_size, bs_append, sz1, sv, filN, fN, fq2, fb2, f12, iA, hgl, g0, g1, g2, g3, fq, f1', fb', iN, gO, apart, w4, wD, -Int.natCast_add]
            refine ⟨?_, ?_⟩
            · refine ⟨by kernel_rfl, (dig_ok D hD100 _).mono ?_⟩
              rintro _ h9 ⟨rfl, e⟩
              rw [e]; clear e h9
              simp (disch := first | exact trivial | (simp; done) | (simp; omega) | omega) [szif9, bs_lit, bs_size, bs_append, sz1, sv, filN, fN, fq2, fb2, f12, iA, hgl, g0, g1, g2, g3, fq, f1', fb', iN, gO, apart, w4, wD, -Int.natCast_add]
              exact ⟨⟨n + 1⟩, by show N - (n + 1) < N - n; omega, hlt, sub1 _ eq2, .ptr hhn, vb_slice hbn, hfb, vb_slice hb2n, .int, rfl, .int⟩
            · refine ⟨by kernel_rfl, (dig_ok D hD100 _).mono ?_⟩
              rintro _ h9 ⟨rfl, e⟩
              rw [e]; clear e h9
              simp (disch := first | exact trivial | (simp; done) | (simp; omega) | omega) [szif9, bs_lit, bs_size, bs_append, sz1, sv, filN, fN, fq2, fb2, f12, iA, hgl, g0, g1, g2, g3, fq, f1', fb', iN, gO, apart, w4, wD, -Int.natCast_add]
              exact ⟨⟨n + 1⟩, by show N - (n + 1) < N - n; omega, hlt, sub1 _ eq2, .ptr hhn, vb_slice hbn, hfb, vb_slice hb2n, .int, rfl, .int⟩
      · have g0 : (plv ((1, (A : Int), (B : Int), (C : Int)) : Pl))[0]? = some (.int .i64 1) := rfl
        have g1 : (plv ((1, (A : Int), (B : Int), (C : Int)) : Pl))[1]? = some (.int .i64 A) := rfl
        have g2 : (plv ((1, (A : Int), (B : Int), (C : Int)) : Pl))[2]? = some (.int .i64 B) := rfl
        have g3 : (plv ((1, (A : Int), (B : Int), (C : Int)) : Pl))[3]? = some (.int .i64 C) := rfl
        have hl : lineP d ((1, (A : Int), (B : Int), (C : Int)) : Pl) = 108 :: 111 :: 103 :: 32 :: (itoaB A ++ 46 :: (itoaB B ++ 46 :: itoaB C)) := by
          show 108 :: 111 :: 103 :: 32 :: joinB [46] [itoaB A, itoaB B, itoaB C] = _
          simp [joinB]
        rw [hl] at gO
        simp [g0, g1, g2, g3]
        refine ⟨by kernel_rfl, (dig_ok A hA100 _).mono ?_⟩
        rintro _ h9 ⟨rfl, e⟩
        rw [e]; clear e h9
        simp (disch := first | exact trivial | (simp; done) | (simp; omega) | omega) [szif9, bs_lit, bs_size, bs_append, sz1, sv, g0, g1, g2, g3, fq, f1', apart]
        refine ⟨by kernel_rfl, (dig_ok A hA100 _).mono ?_⟩
        rintro _ h9 ⟨rfl, e⟩
        rw [e]; clear e h9
        simp (disch := first | exact trivial | (simp; done) | (simp; omega) | omega) [szif9, bs_lit, bs_size, bs_append, sz1, sv, g0, g1, g2, g3, fq, f1', apart]
        refine ⟨by kernel_rfl, (dig_ok B hB _).mono ?_⟩
        rintro _ h9 ⟨rfl, e⟩
        rw [e]; clear e h9
        simp (disch := first | exact trivial | (simp; done) | (simp; omega) | omega) [szif9, bs_lit, bs_size, bs_append, sz1, sv, g0, g1, g2, g3, fq, f1', apart]
        refine ⟨by kernel_rfl, (dig_ok C hC _).mono ?_⟩
        rintro _ h9 ⟨rfl, e⟩
        rw [e]; clear e h9
        simp (disch := first | exact trivial | (simp; done) | (simp; omega) | omega) [szif9, bs_lit, bs_size, bs_append, sz1, sv, g0, g1, g2, g3, fq, f1', fb', iN, gO, apart, w4, -Int.natCast_add]
        exact ⟨⟨n + 1⟩, by show N - (n + 1) < N - n; omega, hlt, sub1 _ eq1, .ptr hhn, vb_slice hbn, hfb, vb_slice hb2n, .int, rfl, .int⟩
      · have g0 : (plv ((2, (A : Int), (B : Int), (C : Int)) : Pl))[0]? = some (.int .i64 2) := rfl
        have g1 : (plv ((2, (A : Int), (B : Int), (C : Int)) : Pl))[1]? = some (.int .i64 A) := rfl
        have hl : lineP d ((2, (A : Int), (B : Int), (C : Int)) : Pl) = 116 :: 97 :: 108 :: 108 :: 121 :: 32 :: itoaB A := rfl
        rw [hl] at gO
        simp [g0, g1]
        refine ⟨by kernel_rfl, (dig_ok A hA100 _).mono ?_⟩
        rintro _ h9 ⟨rfl, e⟩
        rw [e]; clear e h9
        simp [bs_lit, bs_size, bs_append, sz1, sv, g0, g1, fq, fb', iN, gO, apart, w4, -Int.natCast_add]
        exact ⟨⟨n + 1⟩, by show N - (n + 1) < N - n; omega, hlt, sub1 _ eq1, .ptr hhn, vb_slice hbn, hfb, vb_slice hb2n, .int, rfl, .int⟩
    · have hne : n = N := by omega
      subst hne
      simp [c3_0]
      exact eH2
end Go.Proofs.YtpcnpnddkgdaeaaDoor.geom
