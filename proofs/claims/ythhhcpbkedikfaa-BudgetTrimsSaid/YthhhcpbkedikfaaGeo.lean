/-
  Contracts.
-/
import Derived.Test.YthhhcpbkedikfaaSha
import Derived.Test.YthhhcpbkedikfaaNum
import Derived.Test.YthhhcpbkedikfaaAbEnter
import Derived.Test.YthhhcpbkedikfaaProg
import Derived.IntWalk
import Derived.KernelRfl
set_option linter.unusedSimpArgs false
set_option linter.unusedVariables false
namespace Go.Proofs.Ythhhcpbkedikfaa.geo
open Go Go.Ab Go.Proofs Go.RowKit Go.Proofs.Ythhhcpbkedikfaa.num Go.Proofs.Ythhhcpbkedikfaa.sha
set_option maxRecDepth 100000
attribute [local simp] s_ops s_seq s_cond s_cond_t s_cond_f s_block s_exit s_ret s_skip s_then_n s_then_n' s_then_e s_then_e' s_then_r s_then_r' s_block_n s_block_r s_block_e s_post_r s_post_n s_res0 s_res1 s_res2 s_res3 s_res4 s_nil s_cons s_guard s_guard_tt s_guard_ff s_guard_tf s_guard_ft s_guard_u s_call s_kL s_put s_put0 s_set s_tmp s_const s_func s_init s_mkF s_mkF0 s_mv s_bin s_pick s_op aop oK_some oK_none bK_some bK_none b_add b_sub b_mul b_quo b_rem b_and b_or b_xor b_andNot b_shl b_shr b_eql b_neq b_lss b_leq b_gtr b_geq b_sadd b_seql b_sneq b_slss b_sleq b_sgtr b_sgeq s_draw s_drawT s_tK s_tT s_tF s_tB s_tR s_stage s_stage0 s_kW s_kR s_rc0 s_rc s_rcg rK_some rK_none rG_b rG_u s_callv s_callv_f s_nextM s_postR_r s_postR_n s_resA0 s_resAt s_resAc s_resC s_tup0 s_tup1 s_tup2 s_tup3
def c99 : AC := .seq (.ops [⟨ some 2, none, .mv (.const (.bool false)) ⟩]) (.seq (.block 0 (.loop (.seq (.seq (.ops [⟨ some 3, none, .mv (.tmp 0) ⟩, ⟨ some 4, none, .lenS false (.tmp 3) ⟩, ⟨ some 5, none, .bin .gtr (.tmp 4) (.const (.int .i64 0)) ⟩]) (.cond (.tmp 5) .skip (.exit 0))) (.seq (.block 1 (.seq (.draw [([⟨ some 8, none, .mv (.tmp 0) ⟩, ⟨ some 9, none, .iAddrS 1 (.tmp 8) (.const (.int .i64 1)) ⟩, ⟨ some 10, none, .load none (.tmp 9) ⟩, ⟨ some 11, none, .mv (.tmp 0) ⟩, ⟨ some 12, none, .iAddrS 1 (.tmp 11) (.const (.int .i64 0)) ⟩, ⟨ some 13, none, .load none (.tmp 12) ⟩, ⟨ some 14, none, .bin .lss (.tmp 10) (.tmp 13) ⟩, ⟨ some 15, none, .mv (.tmp 14) ⟩, ⟨ some 16, some (15, false), .mv (.tmp 0) ⟩, ⟨ some 17, some (15, false), .iAddrS 1 (.tmp 16) (.const (.int .i64 1)) ⟩, ⟨ some 18, some (15, false), .load none (.tmp 17) ⟩, ⟨ some 19, some (15, false), .mv (.tmp 0) ⟩, ⟨ some 20, some (15, false), .iAddrS 1 (.tmp 19) (.const (.int .i64 2)) ⟩, ⟨ some 21, some (15, false), .load none (.tmp 20) ⟩, ⟨ some 22, some (15, false), .bin .gtr (.tmp 18) (.tmp 21) ⟩, ⟨ some 23, none, .pick (.tmp 15) (.const (.bool true)) (.tmp 22) ⟩], [], [])]) (.cond (.tmp 23) (.seq (.ops [⟨ some 2, none, .mv (.const (.bool false)) ⟩]) .ret) .skip))) (.ops [⟨ some 6, none, .mv (.tmp 0) ⟩, ⟨ some 7, none, .slV 1 (.tmp 6) (some (.const (.int .i64 3))) none none ⟩, ⟨ some 0, none, .mv (.tmp 7) ⟩]))))) (.seq (.ops [⟨ some 2, none, .mv (.const (.bool true)) ⟩]) .ret))
theorem k99 : compF Try.prog Try.f99 = some (c99, [2]) := by kernel_rfl
theorem n99 : Try.f99.ntmps = 24 := by kernel_rfl
def c40 : AC := .seq (.ops [⟨ some 1, none, .box (.tmp 0) ⟩, ⟨ some 2, none, .mv (.const (.bool false)) ⟩]) (.seq (.ops [⟨ some 3, none, .fAddr 0 (.tmp 1) ⟩, ⟨ some 4, none, .load none (.tmp 3) ⟩, ⟨ some 5, none, .fAddr 1 (.tmp 1) ⟩, ⟨ some 6, none, .load none (.tmp 5) ⟩, ⟨ some 7, none, .fAddr 2 (.tmp 1) ⟩, ⟨ some 8, none, .load none (.tmp 7) ⟩, ⟨ some 9, none, .buildS 9 [.int .i64 0, .int .i64 0, .int .i64 0, .int .i64 0, .int .i64 0, .int .i64 0, .int .i64 0, .int .i64 0, .int .i64 0] [(0, 1, .const (.int .i64 1)), (1, 1, .tmp 4), (2, 1, .const (.int .i64 8)), (3, 1, .const (.int .i64 2)), (4, 1, .tmp 6), (5, 1, .const (.int .i64 6)), (6, 1, .const (.int .i64 1)), (7, 1, .tmp 8), (8, 1, .const (.int .i64 8))] ⟩, ⟨ some 10, none, .call 99 [.tmp 9] ⟩, ⟨ some 2, none, .mv (.tmp 10) ⟩]) .ret)
theorem k40 : compF Try.prog Try.f40 = some (c40, [2]) := by kernel_rfl
theorem n40 : Try.f40.ntmps = 11 := by kernel_rfl
def c34 : AC := .seq (.ops [⟨ some 1, none, .box (.tmp 0) ⟩, ⟨ some 2, none, .mv (.const (.int .i64 0)) ⟩]) (.seq (.seq (.ops [⟨ some 3, none, .load (some 3) (.tmp 1) ⟩, ⟨ some 4, none, .call 40 [.tmp 3] ⟩, ⟨ some 5, none, .un .not (.tmp 4) ⟩]) (.cond (.tmp 5) (.seq (.ops [⟨ some 2, none, .mv (.const (.int .i64 0)) ⟩]) .ret) .skip)) (.seq (.ops [⟨ some 6, none, .fAddr 0 (.tmp 1) ⟩, ⟨ some 7, none, .load none (.tmp 6) ⟩, ⟨ some 8, none, .fAddr 1 (.tmp 1) ⟩, ⟨ some 9, none, .load none (.tmp 8) ⟩, ⟨ some 10, none, .bin .add (.tmp 7) (.tmp 9) ⟩, ⟨ some 2, none, .mv (.tmp 10) ⟩]) .ret))
theorem k34 : compF Try.prog Try.f34 = some (c34, [2]) := by kernel_rfl
theorem n34 : Try.f34.ntmps = 11 := by kernel_rfl
def c27 : AC := .seq (.ops [⟨ some 1, none, .box (.tmp 0) ⟩, ⟨ some 2, none, .mv (.const (.int .i64 0)) ⟩]) (.seq (.draw [([⟨ some 3, none, .load (some 3) (.tmp 1) ⟩, ⟨ some 5, none, .fAddr 2 (.tmp 1) ⟩, ⟨ some 6, none, .load none (.tmp 5) ⟩, ⟨ some 7, none, .mx [.tmp 6, .const (.int .i64 0)] ⟩], [⟨ some 4, none, .call 34 [.tmp 3] ⟩], [⟨ some 6, none, .load none (.tmp 5) ⟩]), ([⟨ some 8, none, .bin .mul (.tmp 4) (.tmp 7) ⟩, ⟨ some 2, none, .mv (.tmp 8) ⟩], [], [])]) .ret)
theorem k27 : compF Try.prog Try.f27 = some (c27, [2]) := by kernel_rfl
theorem n27 : Try.f27.ntmps = 9 := by kernel_rfl
def c100 : AC := .seq (.ops [⟨ some 1, none, .box (.tmp 0) ⟩, ⟨ some 2, none, .mv (.const (.int .i64 0)) ⟩]) (.seq (.ops [⟨ some 3, none, .load (some 3) (.tmp 1) ⟩, ⟨ some 4, none, .call 27 [.tmp 3] ⟩, ⟨ some 5, none, .bin .mul (.const (.int .i64 3)) (.tmp 4) ⟩, ⟨ some 2, none, .mv (.tmp 5) ⟩]) .ret)
theorem k100 : compF Try.prog Try.f100 = some (c100, [2]) := by kernel_rfl
theorem n100 : Try.f100.ntmps = 6 := by kernel_rfl
def c38 : AC := .seq (.ops [⟨ some 1, none, .box (.tmp 0) ⟩, ⟨ some 2, none, .mv (.const (.int .i64 0)) ⟩]) (.seq (.seq (.ops [⟨ some 3, none, .load (some 3) (.tmp 1) ⟩, ⟨ some 4, none, .call 40 [.tmp 3] ⟩, ⟨ some 5, none, .un .not (.tmp 4) ⟩]) (.cond (.tmp 5) (.seq (.ops [⟨ some 2, none, .mv (.const (.int .i64 0)) ⟩]) .ret) .skip)) (.seq (.ops [⟨ some 6, none, .load (some 3) (.tmp 1) ⟩, ⟨ some 7, none, .call 100 [.tmp 6] ⟩, ⟨ some 8, none, .bin .add (.tmp 7) (.const (.int .i64 16)) ⟩, ⟨ some 9, none, .bin .add (.tmp 8) (.const (.int .i64 2)) ⟩, ⟨ some 2, none, .mv (.tmp 9) ⟩]) .ret))
theorem k38 : compF Try.prog Try.f38 = some (c38, [2]) := by kernel_rfl
theorem n38 : Try.f38.ntmps = 10 := by kernel_rfl
def c35 : AC := .seq (.ops [⟨ some 4, none, .box (.tmp 0) ⟩, ⟨ some 8, none, .mv (.const (.int .i64 0)) ⟩, ⟨ some 9, none, .mv (.const (.int .i64 0)) ⟩]) (.seq (.block 0 (.seq (.ops [⟨ some 11, none, .load (some 3) (.tmp 4) ⟩, ⟨ some 12, none, .call 40 [.tmp 11] ⟩, ⟨ some 13, none, .un .not (.tmp 12) ⟩, ⟨ some 10, none, .mv (.tmp 13) ⟩]) (.cond (.tmp 10) (.seq (.ops [⟨ some 8, none, .mv (.const (.int .i64 0)) ⟩, ⟨ some 9, none, .mv (.const (.int .i64 1)) ⟩]) .ret) (.seq (.draw [([⟨ some 15, none, .mv (.tmp 1) ⟩, ⟨ some 16, none, .mv (.tmp 2) ⟩, ⟨ some 17, none, .fAddr 2 (.tmp 4) ⟩, ⟨ some 18, none, .load none (.tmp 17) ⟩, ⟨ some 19, none, .bin .sub (.tmp 18) (.const (.int .i64 1)) ⟩, ⟨ some 20, none, .mv (.tmp 3) ⟩, ⟨ some 21, none, .load (some 3) (.tmp 4) ⟩], [⟨ some 22, none, .call 34 [.tmp 21] ⟩], [⟨ some 18, none, .load none (.tmp 17) ⟩]), ([⟨ some 23, none, .bin .sub (.tmp 22) (.const (.int .i64 1)) ⟩], [⟨ some 24, none, .buildS 9 [.int .i64 0, .int .i64 0, .int .i64 0, .int .i64 0, .int .i64 0, .int .i64 0, .int .i64 0, .int .i64 0, .int .i64 0] [(0, 1, .const (.int .i64 0)), (1, 1, .tmp 15), (2, 1, .const (.int .i64 2)), (3, 1, .const (.int .i64 0)), (4, 1, .tmp 16), (5, 1, .tmp 19), (6, 1, .const (.int .i64 0)), (7, 1, .tmp 20), (8, 1, .tmp 23)] ⟩], []), ([], [⟨ some 25, none, .call 99 [.tmp 24] ⟩], []), ([⟨ some 26, none, .un .not (.tmp 25) ⟩, ⟨ some 14, none, .mv (.tmp 26) ⟩], [], [])]) (.cond (.tmp 14) (.seq (.ops [⟨ some 8, none, .mv (.const (.int .i64 0)) ⟩, ⟨ some 9, none, .mv (.const (.int .i64 2)) ⟩]) .ret) .skip))))) (.seq (.draw [([⟨ some 27, none, .mv (.tmp 1) ⟩, ⟨ some 28, none, .load (some 3) (.tmp 4) ⟩, ⟨ some 31, none, .mv (.tmp 3) ⟩, ⟨ some 32, none, .fAddr 2 (.tmp 4) ⟩, ⟨ some 33, none, .load none (.tmp 32) ⟩, ⟨ some 34, none, .bin .mul (.tmp 31) (.tmp 33) ⟩, ⟨ some 36, none, .mv (.tmp 2) ⟩], [⟨ some 29, none, .call 27 [.tmp 28] ⟩], [⟨ some 33, none, .load none (.tmp 32) ⟩]), ([⟨ some 30, none, .bin .mul (.tmp 27) (.tmp 29) ⟩, ⟨ some 35, none, .bin .add (.tmp 30) (.tmp 34) ⟩, ⟨ some 37, none, .bin .add (.tmp 35) (.tmp 36) ⟩, ⟨ some 8, none, .mv (.tmp 37) ⟩, ⟨ some 9, none, .mv (.const (.int .i64 0)) ⟩], [], [])]) .ret))
theorem k35 : compF Try.prog Try.f35 = some (c35, [8, 9]) := by kernel_rfl
theorem n35 : Try.f35.ntmps = 38 := by kernel_rfl
def c28 : AC := .seq (.ops [⟨ some 2, none, .box (.tmp 0) ⟩, ⟨ some 4, none, .mv (.const (.int .i64 0)) ⟩, ⟨ some 5, none, .mv (.const (.int .i64 0)) ⟩, ⟨ some 6, none, .mv (.const (.int .i64 0)) ⟩, ⟨ some 7, none, .mv (.const (.bool false)) ⟩]) (.seq (.seq (.ops [⟨ some 9, none, .load (some 3) (.tmp 2) ⟩, ⟨ some 10, none, .call 40 [.tmp 9] ⟩, ⟨ some 11, none, .un .not (.tmp 10) ⟩, ⟨ some 12, none, .mv (.tmp 11) ⟩, ⟨ some 13, some (12, false), .mv (.tmp 1) ⟩, ⟨ some 14, some (12, false), .load (some 3) (.tmp 2) ⟩, ⟨ some 15, some (12, false), .call 100 [.tmp 14] ⟩, ⟨ some 16, some (12, false), .bin .sub (.tmp 15) (.const (.int .i64 1)) ⟩, ⟨ some 17, some (12, false), .buildS 3 [.int .i64 0, .int .i64 0, .int .i64 0] [(0, 1, .const (.int .i64 0)), (1, 1, .tmp 13), (2, 1, .tmp 16)] ⟩, ⟨ some 18, some (12, false), .call 99 [.tmp 17] ⟩, ⟨ some 19, some (12, false), .un .not (.tmp 18) ⟩, ⟨ some 20, none, .pick (.tmp 12) (.const (.bool true)) (.tmp 19) ⟩]) (.cond (.tmp 20) (.seq (.ops [⟨ some 4, none, .mv (.const (.int .i64 0)) ⟩, ⟨ some 5, none, .mv (.const (.int .i64 0)) ⟩, ⟨ some 6, none, .mv (.const (.int .i64 0)) ⟩, ⟨ some 7, none, .mv (.const (.bool false)) ⟩]) .ret) .skip)) (.seq (.ops [⟨ some 21, none, .mv (.tmp 1) ⟩, ⟨ some 22, none, .load (some 3) (.tmp 2) ⟩, ⟨ some 23, none, .call 27 [.tmp 22] ⟩, ⟨ some 24, none, .bin .rem (.tmp 21) (.tmp 23) ⟩, ⟨ some 8, none, .mv (.tmp 24) ⟩]) (.seq (.draw [([⟨ some 25, none, .mv (.tmp 1) ⟩, ⟨ some 26, none, .load (some 3) (.tmp 2) ⟩, ⟨ some 29, none, .mv (.tmp 8) ⟩, ⟨ some 30, none, .fAddr 2 (.tmp 2) ⟩, ⟨ some 31, none, .load none (.tmp 30) ⟩, ⟨ some 32, none, .bin .rem (.tmp 29) (.tmp 31) ⟩, ⟨ some 33, none, .mv (.tmp 8) ⟩, ⟨ some 34, none, .fAddr 2 (.tmp 2) ⟩, ⟨ some 35, none, .load none (.tmp 34) ⟩, ⟨ some 36, none, .bin .quo (.tmp 33) (.tmp 35) ⟩], [⟨ some 27, none, .call 27 [.tmp 26] ⟩], [⟨ some 31, none, .load none (.tmp 30) ⟩, ⟨ some 35, none, .load none (.tmp 34) ⟩]), ([⟨ some 28, none, .bin .quo (.tmp 25) (.tmp 27) ⟩, ⟨ some 4, none, .mv (.tmp 28) ⟩, ⟨ some 5, none, .mv (.tmp 32) ⟩, ⟨ some 6, none, .mv (.tmp 36) ⟩, ⟨ some 7, none, .mv (.const (.bool true)) ⟩], [], [])]) .ret)))
theorem k28 : compF Try.prog Try.f28 = some (c28, [4, 5, 6, 7]) := by kernel_rfl
theorem n28 : Try.f28.ntmps = 37 := by kernel_rfl
def c36 : AC := .seq (.ops [⟨ some 3, none, .box (.tmp 0) ⟩, ⟨ some 6, none, .mv (.const (.int .i64 0)) ⟩, ⟨ some 7, none, .mv (.const (.int .i64 0)) ⟩]) (.seq (.block 0 (.seq (.ops [⟨ some 9, none, .load (some 3) (.tmp 3) ⟩, ⟨ some 10, none, .call 40 [.tmp 9] ⟩, ⟨ some 11, none, .un .not (.tmp 10) ⟩, ⟨ some 8, none, .mv (.tmp 11) ⟩]) (.cond (.tmp 8) (.seq (.ops [⟨ some 6, none, .mv (.const (.int .i64 0)) ⟩, ⟨ some 7, none, .mv (.const (.int .i64 1)) ⟩]) .ret) (.seq (.ops [⟨ some 13, none, .mv (.tmp 1) ⟩, ⟨ some 14, none, .mv (.tmp 2) ⟩, ⟨ some 15, none, .buildS 6 [.int .i64 0, .int .i64 0, .int .i64 0, .int .i64 0, .int .i64 0, .int .i64 0] [(0, 1, .const (.int .i64 0)), (1, 1, .tmp 13), (2, 1, .const (.int .i64 1)), (3, 1, .const (.int .i64 0)), (4, 1, .tmp 14), (5, 1, .const (.int .i64 1))] ⟩, ⟨ some 16, none, .call 99 [.tmp 15] ⟩, ⟨ some 17, none, .un .not (.tmp 16) ⟩, ⟨ some 12, none, .mv (.tmp 17) ⟩]) (.cond (.tmp 12) (.seq (.ops [⟨ some 6, none, .mv (.const (.int .i64 0)) ⟩, ⟨ some 7, none, .mv (.const (.int .i64 2)) ⟩]) .ret) .skip))))) (.seq (.ops [⟨ some 18, none, .load (some 3) (.tmp 3) ⟩, ⟨ some 19, none, .call 100 [.tmp 18] ⟩, ⟨ some 20, none, .mv (.tmp 1) ⟩, ⟨ some 21, none, .bin .mul (.tmp 20) (.const (.int .i64 2)) ⟩, ⟨ some 22, none, .mv (.tmp 2) ⟩, ⟨ some 23, none, .bin .add (.tmp 21) (.tmp 22) ⟩, ⟨ some 24, none, .bin .mul (.tmp 23) (.const (.int .i64 4)) ⟩, ⟨ some 25, none, .bin .add (.tmp 19) (.tmp 24) ⟩, ⟨ some 6, none, .mv (.tmp 25) ⟩, ⟨ some 7, none, .mv (.const (.int .i64 0)) ⟩]) .ret))
theorem k36 : compF Try.prog Try.f36 = some (c36, [6, 7]) := by kernel_rfl
theorem n36 : Try.f36.ntmps = 26 := by kernel_rfl
def c37 : AC := .seq (.ops [⟨ some 2, none, .box (.tmp 0) ⟩, ⟨ some 4, none, .mv (.const (.int .i64 0)) ⟩, ⟨ some 5, none, .mv (.const (.int .i64 0)) ⟩]) (.seq (.block 0 (.seq (.ops [⟨ some 7, none, .load (some 3) (.tmp 2) ⟩, ⟨ some 8, none, .call 40 [.tmp 7] ⟩, ⟨ some 9, none, .un .not (.tmp 8) ⟩, ⟨ some 6, none, .mv (.tmp 9) ⟩]) (.cond (.tmp 6) (.seq (.ops [⟨ some 4, none, .mv (.const (.int .i64 0)) ⟩, ⟨ some 5, none, .mv (.const (.int .i64 1)) ⟩]) .ret) (.seq (.ops [⟨ some 11, none, .mv (.tmp 1) ⟩, ⟨ some 12, none, .buildS 3 [.int .i64 0, .int .i64 0, .int .i64 0] [(0, 1, .const (.int .i64 0)), (1, 1, .tmp 11), (2, 1, .const (.int .i64 1))] ⟩, ⟨ some 13, none, .call 99 [.tmp 12] ⟩, ⟨ some 14, none, .un .not (.tmp 13) ⟩, ⟨ some 10, none, .mv (.tmp 14) ⟩]) (.cond (.tmp 10) (.seq (.ops [⟨ some 4, none, .mv (.const (.int .i64 0)) ⟩, ⟨ some 5, none, .mv (.const (.int .i64 2)) ⟩]) .ret) .skip))))) (.seq (.ops [⟨ some 15, none, .load (some 3) (.tmp 2) ⟩, ⟨ some 16, none, .call 38 [.tmp 15] ⟩, ⟨ some 17, none, .bin .sub (.tmp 16) (.const (.int .i64 2)) ⟩, ⟨ some 18, none, .mv (.tmp 1) ⟩, ⟨ some 19, none, .bin .add (.tmp 17) (.tmp 18) ⟩, ⟨ some 4, none, .mv (.tmp 19) ⟩, ⟨ some 5, none, .mv (.const (.int .i64 0)) ⟩]) .ret))
theorem k37 : compF Try.prog Try.f37 = some (c37, [4, 5]) := by kernel_rfl
theorem n37 : Try.f37.ntmps = 20 := by kernel_rfl
def c39 : AC := .seq (.ops [⟨ some 1, none, .box (.tmp 0) ⟩, ⟨ some 2, none, .mv (.const (.int .i64 0)) ⟩, ⟨ some 3, none, .mv (.const (.int .i64 0)) ⟩]) (.seq (.ops [⟨ some 4, none, .load (some 3) (.tmp 1) ⟩, ⟨ some 5, none, .call 27 [.tmp 4] ⟩, ⟨ some 2, none, .mv (.const (.int .i64 0)) ⟩, ⟨ some 3, none, .mv (.tmp 5) ⟩]) .ret)
theorem k39 : compF Try.prog Try.f39 = some (c39, [2, 3]) := by kernel_rfl
theorem n39 : Try.f39.ntmps = 6 := by kernel_rfl
def c41 : AC := .seq (.ops [⟨ some 1, none, .box (.tmp 0) ⟩, ⟨ some 2, none, .mv (.const (.int .i64 0)) ⟩]) (.seq (.seq (.ops [⟨ some 3, none, .load (some 3) (.tmp 1) ⟩, ⟨ some 4, none, .call 40 [.tmp 3] ⟩, ⟨ some 5, none, .un .not (.tmp 4) ⟩]) (.cond (.tmp 5) (.seq (.ops [⟨ some 2, none, .mv (.const (.int .i64 0)) ⟩]) .ret) .skip)) (.seq (.ops [⟨ some 6, none, .fAddr 0 (.tmp 1) ⟩, ⟨ some 7, none, .load none (.tmp 6) ⟩, ⟨ some 8, none, .bin .mul (.const (.int .i64 60)) (.tmp 7) ⟩, ⟨ some 9, none, .fAddr 2 (.tmp 1) ⟩, ⟨ some 10, none, .load none (.tmp 9) ⟩, ⟨ some 11, none, .bin .mul (.tmp 8) (.tmp 10) ⟩, ⟨ some 12, none, .bin .sub (.tmp 11) (.const (.int .i64 48)) ⟩, ⟨ some 13, none, .mx [.tmp 12, .const (.int .i64 0)] ⟩, ⟨ some 2, none, .mv (.tmp 13) ⟩]) .ret))
theorem k41 : compF Try.prog Try.f41 = some (c41, [2]) := by kernel_rfl
theorem n41 : Try.f41.ntmps = 14 := by kernel_rfl
def c25 : AC := .seq (.ops [⟨ some 0, none, .mv (.const (.bool false)) ⟩]) (.seq (.ops [⟨ some 4, none, .build [.int .i64 0, .int .i64 0, .int .i64 0] [(0, 1, .const (.int .i64 2)), (1, 1, .const (.int .i64 2)), (2, 1, .const (.int .i64 3))] ⟩, ⟨ some 1, none, .alloc [.int .i64 0, .int .i64 0, .int .i64 0] ⟩, ⟨ none, none, .store 3 (.tmp 1) (.tmp 4) ⟩]) (.seq (.ops [⟨ some 6, none, .load (some 3) (.tmp 1) ⟩, ⟨ some 7, none, .call 35 [.tmp 6, .const (.int .i64 1), .const (.int .i64 2), .const (.int .i64 1)] ⟩, ⟨ some 5, none, .mv (.tmp 7) ⟩, ⟨ some 8, none, .extr (.tmp 5) 0 ⟩, ⟨ some 9, none, .extr (.tmp 5) 1 ⟩, ⟨ some 2, none, .mv (.tmp 8) ⟩, ⟨ some 3, none, .mv (.tmp 9) ⟩]) (.seq (.ops [⟨ some 10, none, .load (some 3) (.tmp 1) ⟩, ⟨ some 11, none, .call 40 [.tmp 10] ⟩, ⟨ some 12, none, .mv (.tmp 11) ⟩, ⟨ some 13, some (12, true), .load (some 3) (.tmp 1) ⟩, ⟨ some 14, some (12, true), .call 27 [.tmp 13] ⟩, ⟨ some 15, some (12, true), .bin .eql (.tmp 14) (.const (.int .i64 12)) ⟩, ⟨ some 16, none, .pick (.tmp 12) (.tmp 15) (.const (.bool false)) ⟩, ⟨ some 17, none, .mv (.tmp 16) ⟩, ⟨ some 18, some (17, true), .mv (.tmp 2) ⟩, ⟨ some 19, some (17, true), .bin .eql (.tmp 18) (.const (.int .i64 17)) ⟩, ⟨ some 20, none, .pick (.tmp 17) (.tmp 19) (.const (.bool false)) ⟩, ⟨ some 21, none, .mv (.tmp 20) ⟩, ⟨ some 22, some (21, true), .mv (.tmp 3) ⟩, ⟨ some 23, some (21, true), .bin .eql (.tmp 22) (.const (.int .i64 0)) ⟩, ⟨ some 24, none, .pick (.tmp 21) (.tmp 23) (.const (.bool false)) ⟩, ⟨ some 0, none, .mv (.tmp 24) ⟩]) .ret)))
theorem k25 : compF Try.prog Try.f25 = some (c25, [0]) := by kernel_rfl
theorem n25 : Try.f25.ntmps = 25 := by kernel_rfl
def c26 : AC := .seq (.ops [⟨ some 1, none, .box (.tmp 0) ⟩, ⟨ some 2, none, .mv (.const (.bool false)) ⟩]) (.seq (.ops [⟨ some 3, none, .fAddr 0 (.tmp 1) ⟩, ⟨ some 4, none, .load none (.tmp 3) ⟩, ⟨ some 5, none, .bin .geq (.tmp 4) (.const (.int .i64 1)) ⟩, ⟨ some 6, none, .mv (.tmp 5) ⟩, ⟨ some 7, some (6, true), .fAddr 0 (.tmp 1) ⟩, ⟨ some 8, some (6, true), .load none (.tmp 7) ⟩, ⟨ some 9, some (6, true), .bin .leq (.tmp 8) (.const (.int .i64 8)) ⟩, ⟨ some 10, none, .pick (.tmp 6) (.tmp 9) (.const (.bool false)) ⟩, ⟨ some 11, none, .mv (.tmp 10) ⟩, ⟨ some 12, some (11, true), .fAddr 1 (.tmp 1) ⟩, ⟨ some 13, some (11, true), .load none (.tmp 12) ⟩, ⟨ some 14, some (11, true), .bin .geq (.tmp 13) (.const (.int .i64 2)) ⟩, ⟨ some 15, none, .pick (.tmp 11) (.tmp 14) (.const (.bool false)) ⟩, ⟨ some 16, none, .mv (.tmp 15) ⟩, ⟨ some 17, some (16, true), .fAddr 1 (.tmp 1) ⟩, ⟨ some 18, some (16, true), .load none (.tmp 17) ⟩, ⟨ some 19, some (16, true), .bin .leq (.tmp 18) (.const (.int .i64 6)) ⟩, ⟨ some 20, none, .pick (.tmp 16) (.tmp 19) (.const (.bool false)) ⟩, ⟨ some 21, none, .mv (.tmp 20) ⟩, ⟨ some 22, some (21, true), .fAddr 2 (.tmp 1) ⟩, ⟨ some 23, some (21, true), .load none (.tmp 22) ⟩, ⟨ some 24, some (21, true), .bin .geq (.tmp 23) (.const (.int .i64 1)) ⟩, ⟨ some 25, none, .pick (.tmp 21) (.tmp 24) (.const (.bool false)) ⟩, ⟨ some 26, none, .mv (.tmp 25) ⟩, ⟨ some 27, some (26, true), .fAddr 2 (.tmp 1) ⟩, ⟨ some 28, some (26, true), .load none (.tmp 27) ⟩, ⟨ some 29, some (26, true), .bin .leq (.tmp 28) (.const (.int .i64 8)) ⟩, ⟨ some 30, none, .pick (.tmp 26) (.tmp 29) (.const (.bool false)) ⟩, ⟨ some 2, none, .mv (.tmp 30) ⟩]) .ret)
theorem k26 : compF Try.prog Try.f26 = some (c26, [2]) := by kernel_rfl
theorem n26 : Try.f26.ntmps = 31 := by kernel_rfl
def c42 : AC := .seq (.ops [⟨ some 1, none, .box (.tmp 0) ⟩, ⟨ some 2, none, .mv (.const (.slice none 0 0)) ⟩]) (.seq (.ops [⟨ some 11, none, .buildS 0 [] [] ⟩, ⟨ some 3, none, .mv (.tmp 11) ⟩]) (.seq (.seq (.ops [⟨ some 4, none, .mv (.const (.int .i64 0)) ⟩]) (.block 0 (.loop (.seq (.seq (.ops [⟨ some 12, none, .mv (.tmp 4) ⟩, ⟨ some 13, none, .bin .lss (.tmp 12) (.const (.int .i64 3)) ⟩]) (.cond (.tmp 13) .skip (.exit 0))) (.seq (.block 1 (.seq (.ops [⟨ some 5, none, .mv (.const (.int .i64 0)) ⟩]) (.block 2 (.loop (.seq (.seq (.ops [⟨ some 16, none, .mv (.tmp 5) ⟩, ⟨ some 17, none, .fAddr 0 (.tmp 1) ⟩, ⟨ some 18, none, .load none (.tmp 17) ⟩, ⟨ some 19, none, .fAddr 1 (.tmp 1) ⟩, ⟨ some 20, none, .load none (.tmp 19) ⟩, ⟨ some 21, none, .bin .add (.tmp 18) (.tmp 20) ⟩, ⟨ some 22, none, .bin .lss (.tmp 16) (.tmp 21) ⟩]) (.cond (.tmp 22) .skip (.exit 2))) (.seq (.block 3 (.seq (.ops [⟨ some 6, none, .mv (.const (.int .i64 0)) ⟩]) (.block 4 (.loop (.seq (.seq (.ops [⟨ some 25, none, .mv (.tmp 6) ⟩, ⟨ some 26, none, .fAddr 2 (.tmp 1) ⟩, ⟨ some 27, none, .load none (.tmp 26) ⟩, ⟨ some 28, none, .bin .lss (.tmp 25) (.tmp 27) ⟩]) (.cond (.tmp 28) .skip (.exit 4))) (.seq (.block 5 (.ops [⟨ some 31, none, .mv (.tmp 3) ⟩, ⟨ some 32, none, .mv (.tmp 4) ⟩, ⟨ some 33, none, .mv (.tmp 6) ⟩, ⟨ some 34, none, .mv (.tmp 5) ⟩, ⟨ some 35, none, .build [.int .i64 0, .int .i64 0, .int .i64 0, .int .i64 0] [(0, 1, .const (.int .i64 0)), (1, 1, .tmp 32), (2, 1, .tmp 33), (3, 1, .tmp 34)] ⟩, ⟨ some 36, none, .buildS 1 [.int .i64 0, .int .i64 0, .int .i64 0, .int .i64 0] [(0, 4, .tmp 35)] ⟩, ⟨ some 37, none, .app 4 32 64 (.tmp 31) (.tmp 36) ⟩, ⟨ some 3, none, .mv (.tmp 37) ⟩])) (.ops [⟨ some 29, none, .mv (.tmp 6) ⟩, ⟨ some 30, none, .bin .add (.tmp 29) (.const (.int .i64 1)) ⟩, ⟨ some 6, none, .mv (.tmp 30) ⟩]))))))) (.ops [⟨ some 23, none, .mv (.tmp 5) ⟩, ⟨ some 24, none, .bin .add (.tmp 23) (.const (.int .i64 1)) ⟩, ⟨ some 5, none, .mv (.tmp 24) ⟩]))))))) (.ops [⟨ some 14, none, .mv (.tmp 4) ⟩, ⟨ some 15, none, .bin .add (.tmp 14) (.const (.int .i64 1)) ⟩, ⟨ some 4, none, .mv (.tmp 15) ⟩])))))) (.seq (.seq (.ops [⟨ some 7, none, .mv (.const (.int .i64 0)) ⟩]) (.block 6 (.loop (.seq (.seq (.ops [⟨ some 38, none, .mv (.tmp 7) ⟩, ⟨ some 39, none, .bin .lss (.tmp 38) (.const (.int .i64 2)) ⟩]) (.cond (.tmp 39) .skip (.exit 6))) (.seq (.block 7 (.seq (.ops [⟨ some 8, none, .mv (.const (.int .i64 0)) ⟩]) (.block 8 (.loop (.seq (.seq (.ops [⟨ some 42, none, .mv (.tmp 8) ⟩, ⟨ some 43, none, .bin .lss (.tmp 42) (.const (.int .i64 2)) ⟩]) (.cond (.tmp 43) .skip (.exit 8))) (.seq (.block 9 (.seq (.ops [⟨ some 9, none, .mv (.const (.int .i64 0)) ⟩]) (.block 10 (.loop (.seq (.seq (.ops [⟨ some 46, none, .mv (.tmp 9) ⟩, ⟨ some 47, none, .bin .lss (.tmp 46) (.const (.int .i64 4)) ⟩]) (.cond (.tmp 47) .skip (.exit 10))) (.seq (.block 11 (.ops [⟨ some 50, none, .mv (.tmp 3) ⟩, ⟨ some 51, none, .mv (.tmp 7) ⟩, ⟨ some 52, none, .mv (.tmp 8) ⟩, ⟨ some 53, none, .mv (.tmp 9) ⟩, ⟨ some 54, none, .build [.int .i64 0, .int .i64 0, .int .i64 0, .int .i64 0] [(0, 1, .const (.int .i64 1)), (1, 1, .tmp 51), (2, 1, .tmp 52), (3, 1, .tmp 53)] ⟩, ⟨ some 55, none, .buildS 1 [.int .i64 0, .int .i64 0, .int .i64 0, .int .i64 0] [(0, 4, .tmp 54)] ⟩, ⟨ some 56, none, .app 4 32 64 (.tmp 50) (.tmp 55) ⟩, ⟨ some 3, none, .mv (.tmp 56) ⟩])) (.ops [⟨ some 48, none, .mv (.tmp 9) ⟩, ⟨ some 49, none, .bin .add (.tmp 48) (.const (.int .i64 1)) ⟩, ⟨ some 9, none, .mv (.tmp 49) ⟩]))))))) (.ops [⟨ some 44, none, .mv (.tmp 8) ⟩, ⟨ some 45, none, .bin .add (.tmp 44) (.const (.int .i64 1)) ⟩, ⟨ some 8, none, .mv (.tmp 45) ⟩]))))))) (.ops [⟨ some 40, none, .mv (.tmp 7) ⟩, ⟨ some 41, none, .bin .add (.tmp 40) (.const (.int .i64 1)) ⟩, ⟨ some 7, none, .mv (.tmp 41) ⟩])))))) (.seq (.seq (.ops [⟨ some 10, none, .mv (.const (.int .i64 0)) ⟩]) (.block 12 (.loop (.seq (.seq (.ops [⟨ some 57, none, .mv (.tmp 10) ⟩, ⟨ some 58, none, .bin .lss (.tmp 57) (.const (.int .i64 2)) ⟩]) (.cond (.tmp 58) .skip (.exit 12))) (.seq (.block 13 (.ops [⟨ some 61, none, .mv (.tmp 3) ⟩, ⟨ some 62, none, .mv (.tmp 10) ⟩, ⟨ some 63, none, .build [.int .i64 0, .int .i64 0, .int .i64 0, .int .i64 0] [(0, 1, .const (.int .i64 2)), (1, 1, .tmp 62), (2, 1, .const (.int .i64 0)), (3, 1, .const (.int .i64 0))] ⟩, ⟨ some 64, none, .buildS 1 [.int .i64 0, .int .i64 0, .int .i64 0, .int .i64 0] [(0, 4, .tmp 63)] ⟩, ⟨ some 65, none, .app 4 32 64 (.tmp 61) (.tmp 64) ⟩, ⟨ some 3, none, .mv (.tmp 65) ⟩])) (.ops [⟨ some 59, none, .mv (.tmp 10) ⟩, ⟨ some 60, none, .bin .add (.tmp 59) (.const (.int .i64 1)) ⟩, ⟨ some 10, none, .mv (.tmp 60) ⟩])))))) (.seq (.ops [⟨ some 66, none, .mv (.tmp 3) ⟩, ⟨ some 2, none, .mv (.tmp 66) ⟩]) .ret)))))
theorem k42 : compF Try.prog Try.f42 = some (c42, [2]) := by kernel_rfl
theorem n42 : Try.f42.ntmps = 67 := by kernel_rfl
def c43 : AC := .seq (.ops [⟨ some 1, none, .box (.tmp 0) ⟩, ⟨ some 2, none, .mv (.const (.int .i64 0)) ⟩]) (.seq (.ops [⟨ some 4, none, .fAddr 0 (.tmp 1) ⟩, ⟨ some 5, none, .load none (.tmp 4) ⟩, ⟨ some 6, none, .bin .mul (.const (.int .i64 60)) (.tmp 5) ⟩, ⟨ some 7, none, .fAddr 2 (.tmp 1) ⟩, ⟨ some 8, none, .load none (.tmp 7) ⟩, ⟨ some 9, none, .bin .mul (.tmp 6) (.tmp 8) ⟩, ⟨ some 10, none, .bin .sub (.tmp 9) (.const (.int .i64 48)) ⟩, ⟨ some 3, none, .mv (.tmp 10) ⟩]) (.seq (.seq (.ops [⟨ some 11, none, .mv (.tmp 3) ⟩, ⟨ some 12, none, .bin .lss (.tmp 11) (.const (.int .i64 0)) ⟩]) (.cond (.tmp 12) (.seq (.ops [⟨ some 2, none, .mv (.const (.int .i64 0)) ⟩]) .ret) .skip)) (.seq (.ops [⟨ some 13, none, .mv (.tmp 3) ⟩, ⟨ some 2, none, .mv (.tmp 13) ⟩]) .ret)))
theorem k43 : compF Try.prog Try.f43 = some (c43, [2]) := by kernel_rfl
theorem n43 : Try.f43.ntmps = 14 := by kernel_rfl
def c44 : AC := .seq (.ops [⟨ some 6, none, .mv (.const (.bool false)) ⟩]) (.seq (.seq (.ops [⟨ some 7, none, .mv (.tmp 2) ⟩, ⟨ some 8, none, .bin .lss (.tmp 7) (.const (.int .i64 0)) ⟩]) (.cond (.tmp 8) (.seq (.ops [⟨ some 9, none, .mv (.tmp 0) ⟩, ⟨ some 10, none, .bin .eql (.tmp 9) (.const (.int .i64 0)) ⟩, ⟨ some 11, none, .mv (.tmp 10) ⟩, ⟨ some 12, some (11, true), .mv (.tmp 1) ⟩, ⟨ some 13, some (11, true), .bin .eql (.tmp 12) (.const (.int .i64 2)) ⟩, ⟨ some 14, none, .pick (.tmp 11) (.tmp 13) (.const (.bool false)) ⟩, ⟨ some 6, none, .mv (.tmp 14) ⟩]) .ret) .skip)) (.seq (.ops [⟨ some 15, none, .mv (.tmp 0) ⟩, ⟨ some 16, none, .mv (.tmp 2) ⟩, ⟨ some 17, none, .bin .eql (.tmp 15) (.tmp 16) ⟩, ⟨ some 18, none, .mv (.tmp 17) ⟩, ⟨ some 19, some (18, true), .mv (.tmp 1) ⟩, ⟨ some 20, some (18, true), .bin .eql (.tmp 19) (.const (.int .i64 0)) ⟩, ⟨ some 21, none, .pick (.tmp 18) (.tmp 20) (.const (.bool false)) ⟩, ⟨ some 6, none, .mv (.tmp 21) ⟩]) .ret))
theorem k44 : compF Try.prog Try.f44 = some (c44, [6]) := by kernel_rfl
theorem n44 : Try.f44.ntmps = 22 := by kernel_rfl
def c45 : AC := .seq (.ops [⟨ some 3, none, .box (.tmp 1) ⟩, ⟨ some 4, none, .mv (.const (.int .i64 0)) ⟩]) (.seq (.seq (.ops [⟨ some 5, none, .mv (.const (.int .i64 0)) ⟩]) (.block 0 (.loop (.seq (.seq (.ops [⟨ some 6, none, .mv (.tmp 5) ⟩, ⟨ some 7, none, .mv (.tmp 0) ⟩, ⟨ some 8, none, .lenS false (.tmp 7) ⟩, ⟨ some 9, none, .bin .lss (.tmp 6) (.tmp 8) ⟩]) (.cond (.tmp 9) .skip (.exit 0))) (.seq (.block 1 (.seq (.draw [([⟨ some 12, none, .mv (.tmp 0) ⟩, ⟨ some 13, none, .mv (.tmp 5) ⟩, ⟨ some 14, none, .iAddrS 4 (.tmp 12) (.tmp 13) ⟩, ⟨ some 15, none, .load (some 4) (.tmp 14) ⟩, ⟨ some 16, none, .load (some 4) (.tmp 3) ⟩, ⟨ some 17, none, .eqa false [.i, .i, .i, .i] (.tmp 15) (.tmp 16) ⟩], [], [])]) (.cond (.tmp 17) (.seq (.ops [⟨ some 18, none, .mv (.tmp 5) ⟩, ⟨ some 4, none, .mv (.tmp 18) ⟩]) .ret) .skip))) (.ops [⟨ some 10, none, .mv (.tmp 5) ⟩, ⟨ some 11, none, .bin .add (.tmp 10) (.const (.int .i64 1)) ⟩, ⟨ some 5, none, .mv (.tmp 11) ⟩])))))) (.seq (.ops [⟨ some 4, none, .mv (.const (.int .i64 (-1))) ⟩]) .ret))
theorem k45 : compF Try.prog Try.f45 = some (c45, [4]) := by kernel_rfl
theorem n45 : Try.f45.ntmps = 19 := by kernel_rfl
def c46 : AC := .seq (.ops [⟨ some 6, none, .box (.tmp 2) ⟩, ⟨ some 8, none, .mv (.const (.bool false)) ⟩]) (.seq (.seq (.ops [⟨ some 9, none, .mv (.tmp 0) ⟩, ⟨ some 10, none, .bin .lss (.tmp 9) (.const (.int .i64 0)) ⟩, ⟨ some 11, none, .mv (.tmp 10) ⟩, ⟨ some 12, some (11, false), .mv (.tmp 0) ⟩, ⟨ some 13, some (11, false), .mv (.tmp 1) ⟩, ⟨ some 14, some (11, false), .lenS false (.tmp 13) ⟩, ⟨ some 15, some (11, false), .bin .geq (.tmp 12) (.tmp 14) ⟩, ⟨ some 16, none, .pick (.tmp 11) (.const (.bool true)) (.tmp 15) ⟩, ⟨ some 17, none, .mv (.tmp 16) ⟩, ⟨ some 18, some (17, false), .mv (.tmp 1) ⟩, ⟨ some 19, some (17, false), .mv (.tmp 0) ⟩, ⟨ some 20, some (17, false), .iAddrS 4 (.tmp 18) (.tmp 19) ⟩, ⟨ some 21, some (17, false), .fAddr 0 (.tmp 20) ⟩, ⟨ some 22, some (17, false), .load none (.tmp 21) ⟩, ⟨ some 23, some (17, false), .bin .neq (.tmp 22) (.const (.int .i64 0)) ⟩, ⟨ some 24, none, .pick (.tmp 17) (.const (.bool true)) (.tmp 23) ⟩]) (.cond (.tmp 24) (.seq (.ops [⟨ some 25, none, .mv (.tmp 3) ⟩, ⟨ some 26, none, .un .not (.tmp 25) ⟩, ⟨ some 27, none, .mv (.tmp 26) ⟩, ⟨ some 28, some (27, true), .load (some 4) (.tmp 6) ⟩, ⟨ some 29, some (27, true), .build [.int .i64 0, .int .i64 0, .int .i64 0, .int .i64 0] [] ⟩, ⟨ some 30, some (27, true), .eqa false [.i, .i, .i, .i] (.tmp 28) (.tmp 29) ⟩, ⟨ some 31, none, .pick (.tmp 27) (.tmp 30) (.const (.bool false)) ⟩, ⟨ some 8, none, .mv (.tmp 31) ⟩]) .ret) .skip)) (.seq (.draw [([⟨ some 32, none, .mv (.tmp 3) ⟩, ⟨ some 33, none, .mv (.tmp 32) ⟩, ⟨ some 34, some (33, true), .load (some 4) (.tmp 6) ⟩, ⟨ some 35, some (33, true), .mv (.tmp 1) ⟩, ⟨ some 36, some (33, true), .mv (.tmp 0) ⟩, ⟨ some 37, some (33, true), .iAddrS 4 (.tmp 35) (.tmp 36) ⟩, ⟨ some 38, some (33, true), .load (some 4) (.tmp 37) ⟩, ⟨ some 39, some (33, true), .eqa false [.i, .i, .i, .i] (.tmp 34) (.tmp 38) ⟩, ⟨ some 40, none, .pick (.tmp 33) (.tmp 39) (.const (.bool false)) ⟩, ⟨ some 8, none, .mv (.tmp 40) ⟩], [], [])]) .ret))
theorem k46 : compF Try.prog Try.f46 = some (c46, [8]) := by kernel_rfl
theorem n46 : Try.f46.ntmps = 41 := by kernel_rfl
def c4 : AC := .seq (.ops [⟨ some 2, none, .box (.tmp 0) ⟩, ⟨ some 4, none, .mv (.const (.bool false)) ⟩]) (.seq (.seq (.ops [⟨ some 11, none, .call 25 [] ⟩, ⟨ some 12, none, .un .not (.tmp 11) ⟩]) (.cond (.tmp 12) (.seq (.ops [⟨ some 4, none, .mv (.const (.bool false)) ⟩]) .ret) .skip)) (.seq (.seq (.draw [([⟨ some 13, none, .load (some 3) (.tmp 2) ⟩], [⟨ some 14, none, .call 26 [.tmp 13] ⟩], []), ([⟨ some 15, none, .un .not (.tmp 14) ⟩, ⟨ some 16, none, .mv (.tmp 15) ⟩, ⟨ some 17, some (16, false), .mv (.tmp 1) ⟩, ⟨ some 18, some (16, false), .bin .lss (.tmp 17) (.const (.int .i64 0)) ⟩, ⟨ some 19, none, .pick (.tmp 16) (.const (.bool true)) (.tmp 18) ⟩, ⟨ some 20, none, .mv (.tmp 19) ⟩, ⟨ some 21, some (20, false), .mv (.tmp 1) ⟩, ⟨ some 22, some (20, false), .load (some 3) (.tmp 2) ⟩, ⟨ some 25, some (20, false), .load (some 3) (.tmp 2) ⟩, ⟨ some 28, some (20, false), .fAddr 2 (.tmp 2) ⟩, ⟨ some 29, some (20, false), .load none (.tmp 28) ⟩], [⟨ some 23, some (20, false), .call 27 [.tmp 22] ⟩], [⟨ some 25, some (20, false), .load (some 3) (.tmp 2) ⟩, ⟨ some 29, some (20, false), .load none (.tmp 28) ⟩]), ([⟨ some 24, some (20, false), .bin .mul (.const (.int .i64 2)) (.tmp 23) ⟩], [⟨ some 26, some (20, false), .call 27 [.tmp 25] ⟩], [⟨ some 29, some (20, false), .load none (.tmp 28) ⟩]), ([⟨ some 27, some (20, false), .bin .add (.tmp 24) (.tmp 26) ⟩, ⟨ some 30, some (20, false), .bin .sub (.tmp 27) (.tmp 29) ⟩, ⟨ some 31, some (20, false), .bin .gtr (.tmp 21) (.tmp 30) ⟩, ⟨ some 32, none, .pick (.tmp 20) (.const (.bool true)) (.tmp 31) ⟩], [], [])]) (.cond (.tmp 32) (.seq (.ops [⟨ some 4, none, .mv (.const (.bool true)) ⟩]) .ret) .skip)) (.seq (.ops [⟨ some 33, none, .mkMap ⟩, ⟨ some 5, none, .mv (.tmp 33) ⟩]) (.seq (.seq (.ops [⟨ some 34, none, .mv (.tmp 1) ⟩, ⟨ some 6, none, .mv (.tmp 34) ⟩]) (.block 0 (.loop (.seq (.seq (.ops [⟨ some 35, none, .mv (.tmp 6) ⟩, ⟨ some 36, none, .mv (.tmp 1) ⟩, ⟨ some 37, none, .fAddr 2 (.tmp 2) ⟩, ⟨ some 38, none, .load none (.tmp 37) ⟩, ⟨ some 39, none, .bin .add (.tmp 36) (.tmp 38) ⟩, ⟨ some 40, none, .bin .lss (.tmp 35) (.tmp 39) ⟩]) (.cond (.tmp 40) .skip (.exit 0))) (.seq (.block 1 (.seq (.ops [⟨ some 44, none, .load (some 3) (.tmp 2) ⟩, ⟨ some 45, none, .mv (.tmp 6) ⟩, ⟨ some 46, none, .call 28 [.tmp 44, .tmp 45] ⟩, ⟨ some 43, none, .mv (.tmp 46) ⟩, ⟨ some 47, none, .extr (.tmp 43) 0 ⟩, ⟨ some 48, none, .extr (.tmp 43) 1 ⟩, ⟨ some 49, none, .extr (.tmp 43) 2 ⟩, ⟨ some 50, none, .extr (.tmp 43) 3 ⟩, ⟨ some 7, none, .mv (.tmp 47) ⟩, ⟨ some 8, none, .mv (.tmp 48) ⟩, ⟨ some 9, none, .mv (.tmp 49) ⟩, ⟨ some 10, none, .mv (.tmp 50) ⟩]) (.seq (.seq (.ops [⟨ some 51, none, .mv (.tmp 10) ⟩, ⟨ some 52, none, .un .not (.tmp 51) ⟩, ⟨ some 53, none, .mv (.tmp 52) ⟩, ⟨ some 54, some (53, false), .mv (.tmp 5) ⟩, ⟨ some 55, some (53, false), .mv (.tmp 7) ⟩, ⟨ some 56, some (53, false), .mv (.tmp 8) ⟩, ⟨ some 57, some (53, false), .build [.int .i64 0, .int .i64 0] [(0, 1, .tmp 55), (1, 1, .tmp 56)] ⟩, ⟨ some 58, some (53, false), .look ⟨ true, [.i, .i] ⟩ (.bool false) (.tmp 54) (.tmp 57) false ⟩, ⟨ some 59, none, .pick (.tmp 53) (.const (.bool true)) (.tmp 58) ⟩]) (.cond (.tmp 59) (.seq (.ops [⟨ some 4, none, .mv (.const (.bool false)) ⟩]) .ret) .skip)) (.ops [⟨ some 60, none, .mv (.tmp 5) ⟩, ⟨ some 61, none, .mv (.tmp 7) ⟩, ⟨ some 62, none, .mv (.tmp 8) ⟩, ⟨ some 63, none, .build [.int .i64 0, .int .i64 0] [(0, 1, .tmp 61), (1, 1, .tmp 62)] ⟩, ⟨ none, none, .mupd ⟨ true, [.i, .i] ⟩ (.tmp 60) (.tmp 63) (.const (.bool true)) ⟩])))) (.ops [⟨ some 41, none, .mv (.tmp 6) ⟩, ⟨ some 42, none, .bin .add (.tmp 41) (.const (.int .i64 1)) ⟩, ⟨ some 6, none, .mv (.tmp 42) ⟩])))))) (.seq (.ops [⟨ some 4, none, .mv (.const (.bool true)) ⟩]) .ret)))))
theorem k4 : compF Try.prog Try.f4 = some (c4, [4]) := by kernel_rfl
theorem n4 : Try.f4.ntmps = 64 := by kernel_rfl
def c7 : AC := .seq (.ops [⟨ some 6, none, .mv (.const (.bool false)) ⟩]) (.seq (.seq (.ops [⟨ some 26, none, .call 25 [] ⟩, ⟨ some 27, none, .un .not (.tmp 26) ⟩]) (.cond (.tmp 27) (.seq (.ops [⟨ some 6, none, .mv (.const (.bool false)) ⟩]) .ret) .skip)) (.seq (.ops [⟨ some 28, none, .mv (.tmp 0) ⟩, ⟨ some 29, none, .toInt .i64 (.tmp 28) ⟩, ⟨ some 30, none, .bin .rem (.tmp 29) (.const (.int .i64 8)) ⟩, ⟨ some 31, none, .bin .add (.const (.int .i64 1)) (.tmp 30) ⟩, ⟨ some 32, none, .mv (.tmp 1) ⟩, ⟨ some 33, none, .toInt .i64 (.tmp 32) ⟩, ⟨ some 34, none, .bin .rem (.tmp 33) (.const (.int .i64 5)) ⟩, ⟨ some 35, none, .bin .add (.const (.int .i64 2)) (.tmp 34) ⟩, ⟨ some 36, none, .mv (.tmp 2) ⟩, ⟨ some 37, none, .toInt .i64 (.tmp 36) ⟩, ⟨ some 38, none, .bin .rem (.tmp 37) (.const (.int .i64 8)) ⟩, ⟨ some 39, none, .bin .add (.const (.int .i64 1)) (.tmp 38) ⟩, ⟨ some 40, none, .build [.int .i64 0, .int .i64 0, .int .i64 0] [(0, 1, .tmp 31), (1, 1, .tmp 35), (2, 1, .tmp 39)] ⟩, ⟨ some 7, none, .alloc [.int .i64 0, .int .i64 0, .int .i64 0] ⟩, ⟨ none, none, .store 3 (.tmp 7) (.tmp 40) ⟩]) (.seq (.ops [⟨ some 41, none, .mkMap ⟩, ⟨ some 8, none, .mv (.tmp 41) ⟩]) (.seq (.seq (.ops [⟨ some 9, none, .mv (.const (.int .i64 0)) ⟩]) (.block 0 (.loop (.seq (.seq (.ops [⟨ some 42, none, .mv (.tmp 9) ⟩, ⟨ some 43, none, .bin .lss (.tmp 42) (.const (.int .i64 3)) ⟩]) (.cond (.tmp 43) .skip (.exit 0))) (.seq (.block 1 (.seq (.ops [⟨ some 10, none, .mv (.const (.int .i64 0)) ⟩]) (.block 2 (.loop (.seq (.seq (.ops [⟨ some 46, none, .mv (.tmp 10) ⟩, ⟨ some 47, none, .fAddr 2 (.tmp 7) ⟩, ⟨ some 48, none, .load none (.tmp 47) ⟩, ⟨ some 49, none, .bin .lss (.tmp 46) (.tmp 48) ⟩]) (.cond (.tmp 49) .skip (.exit 2))) (.seq (.block 3 (.seq (.ops [⟨ some 11, none, .mv (.const (.int .i64 0)) ⟩]) (.block 4 (.loop (.seq (.seq (.ops [⟨ some 52, none, .mv (.tmp 11) ⟩, ⟨ some 53, none, .load (some 3) (.tmp 7) ⟩, ⟨ some 54, none, .call 34 [.tmp 53] ⟩, ⟨ some 55, none, .bin .lss (.tmp 52) (.tmp 54) ⟩]) (.cond (.tmp 55) .skip (.exit 4))) (.seq (.block 5 (.seq (.ops [⟨ some 59, none, .load (some 3) (.tmp 7) ⟩, ⟨ some 60, none, .mv (.tmp 9) ⟩, ⟨ some 61, none, .mv (.tmp 10) ⟩, ⟨ some 62, none, .mv (.tmp 11) ⟩, ⟨ some 63, none, .call 35 [.tmp 59, .tmp 60, .tmp 61, .tmp 62] ⟩, ⟨ some 58, none, .mv (.tmp 63) ⟩, ⟨ some 64, none, .extr (.tmp 58) 0 ⟩, ⟨ some 65, none, .extr (.tmp 58) 1 ⟩, ⟨ some 12, none, .mv (.tmp 64) ⟩, ⟨ some 13, none, .mv (.tmp 65) ⟩]) (.seq (.ops [⟨ some 67, none, .load (some 3) (.tmp 7) ⟩, ⟨ some 68, none, .mv (.tmp 12) ⟩, ⟨ some 69, none, .call 28 [.tmp 67, .tmp 68] ⟩, ⟨ some 66, none, .mv (.tmp 69) ⟩, ⟨ some 70, none, .extr (.tmp 66) 0 ⟩, ⟨ some 71, none, .extr (.tmp 66) 1 ⟩, ⟨ some 72, none, .extr (.tmp 66) 2 ⟩, ⟨ some 73, none, .extr (.tmp 66) 3 ⟩, ⟨ some 14, none, .mv (.tmp 70) ⟩, ⟨ some 15, none, .mv (.tmp 71) ⟩, ⟨ some 16, none, .mv (.tmp 72) ⟩, ⟨ some 17, none, .mv (.tmp 73) ⟩]) (.seq (.seq (.ops [⟨ some 74, none, .mv (.tmp 13) ⟩, ⟨ some 75, none, .bin .neq (.tmp 74) (.const (.int .i64 0)) ⟩, ⟨ some 76, none, .mv (.tmp 75) ⟩, ⟨ some 77, some (76, false), .mv (.tmp 8) ⟩, ⟨ some 78, some (76, false), .mv (.tmp 12) ⟩, ⟨ some 79, some (76, false), .look ⟨ false, [.i] ⟩ (.bool false) (.tmp 77) (.tmp 78) false ⟩, ⟨ some 80, none, .pick (.tmp 76) (.const (.bool true)) (.tmp 79) ⟩, ⟨ some 81, none, .mv (.tmp 80) ⟩, ⟨ some 82, some (81, false), .mv (.tmp 17) ⟩, ⟨ some 83, some (81, false), .un .not (.tmp 82) ⟩, ⟨ some 84, none, .pick (.tmp 81) (.const (.bool true)) (.tmp 83) ⟩, ⟨ some 85, none, .mv (.tmp 84) ⟩, ⟨ some 86, some (85, false), .mv (.tmp 14) ⟩, ⟨ some 87, some (85, false), .mv (.tmp 9) ⟩, ⟨ some 88, some (85, false), .bin .neq (.tmp 86) (.tmp 87) ⟩, ⟨ some 89, none, .pick (.tmp 85) (.const (.bool true)) (.tmp 88) ⟩, ⟨ some 90, none, .mv (.tmp 89) ⟩, ⟨ some 91, some (90, false), .mv (.tmp 15) ⟩, ⟨ some 92, some (90, false), .mv (.tmp 10) ⟩, ⟨ some 93, some (90, false), .bin .neq (.tmp 91) (.tmp 92) ⟩, ⟨ some 94, none, .pick (.tmp 90) (.const (.bool true)) (.tmp 93) ⟩, ⟨ some 95, none, .mv (.tmp 94) ⟩, ⟨ some 96, some (95, false), .mv (.tmp 16) ⟩, ⟨ some 97, some (95, false), .mv (.tmp 11) ⟩, ⟨ some 98, some (95, false), .bin .neq (.tmp 96) (.tmp 97) ⟩, ⟨ some 99, none, .pick (.tmp 95) (.const (.bool true)) (.tmp 98) ⟩]) (.cond (.tmp 99) (.seq (.ops [⟨ some 6, none, .mv (.const (.bool false)) ⟩]) .ret) .skip)) (.ops [⟨ some 100, none, .mv (.tmp 8) ⟩, ⟨ some 101, none, .mv (.tmp 12) ⟩, ⟨ none, none, .mupd ⟨ false, [.i] ⟩ (.tmp 100) (.tmp 101) (.const (.bool true)) ⟩]))))) (.ops [⟨ some 56, none, .mv (.tmp 11) ⟩, ⟨ some 57, none, .bin .add (.tmp 56) (.const (.int .i64 1)) ⟩, ⟨ some 11, none, .mv (.tmp 57) ⟩]))))))) (.ops [⟨ some 50, none, .mv (.tmp 10) ⟩, ⟨ some 51, none, .bin .add (.tmp 50) (.const (.int .i64 1)) ⟩, ⟨ some 10, none, .mv (.tmp 51) ⟩]))))))) (.ops [⟨ some 44, none, .mv (.tmp 9) ⟩, ⟨ some 45, none, .bin .add (.tmp 44) (.const (.int .i64 1)) ⟩, ⟨ some 9, none, .mv (.tmp 45) ⟩])))))) (.seq (.seq (.ops [⟨ some 18, none, .mv (.const (.int .i64 0)) ⟩]) (.block 6 (.loop (.seq (.seq (.ops [⟨ some 102, none, .mv (.tmp 18) ⟩, ⟨ some 103, none, .bin .lss (.tmp 102) (.const (.int .i64 2)) ⟩]) (.cond (.tmp 103) .skip (.exit 6))) (.seq (.block 7 (.seq (.seq (.ops [⟨ some 19, none, .mv (.const (.int .i64 0)) ⟩]) (.block 8 (.loop (.seq (.seq (.ops [⟨ some 106, none, .mv (.tmp 19) ⟩, ⟨ some 107, none, .bin .lss (.tmp 106) (.const (.int .i64 2)) ⟩]) (.cond (.tmp 107) .skip (.exit 8))) (.seq (.block 9 (.seq (.ops [⟨ some 111, none, .load (some 3) (.tmp 7) ⟩, ⟨ some 112, none, .mv (.tmp 18) ⟩, ⟨ some 113, none, .mv (.tmp 19) ⟩, ⟨ some 114, none, .call 36 [.tmp 111, .tmp 112, .tmp 113] ⟩, ⟨ some 110, none, .mv (.tmp 114) ⟩, ⟨ some 115, none, .extr (.tmp 110) 0 ⟩, ⟨ some 116, none, .extr (.tmp 110) 1 ⟩, ⟨ some 20, none, .mv (.tmp 115) ⟩, ⟨ some 21, none, .mv (.tmp 116) ⟩]) (.seq (.ops [⟨ some 22, none, .mv (.const (.int .i64 0)) ⟩]) (.block 10 (.loop (.seq (.seq (.ops [⟨ some 117, none, .mv (.tmp 22) ⟩, ⟨ some 118, none, .bin .lss (.tmp 117) (.const (.int .i64 4)) ⟩]) (.cond (.tmp 118) .skip (.exit 10))) (.seq (.block 11 (.seq (.seq (.ops [⟨ some 121, none, .mv (.tmp 21) ⟩, ⟨ some 122, none, .bin .neq (.tmp 121) (.const (.int .i64 0)) ⟩, ⟨ some 123, none, .mv (.tmp 122) ⟩, ⟨ some 124, some (123, false), .mv (.tmp 8) ⟩, ⟨ some 125, some (123, false), .mv (.tmp 20) ⟩, ⟨ some 126, some (123, false), .mv (.tmp 22) ⟩, ⟨ some 127, some (123, false), .bin .add (.tmp 125) (.tmp 126) ⟩, ⟨ some 128, some (123, false), .look ⟨ false, [.i] ⟩ (.bool false) (.tmp 124) (.tmp 127) false ⟩, ⟨ some 129, none, .pick (.tmp 123) (.const (.bool true)) (.tmp 128) ⟩]) (.cond (.tmp 129) (.seq (.ops [⟨ some 6, none, .mv (.const (.bool false)) ⟩]) .ret) .skip)) (.ops [⟨ some 130, none, .mv (.tmp 8) ⟩, ⟨ some 131, none, .mv (.tmp 20) ⟩, ⟨ some 132, none, .mv (.tmp 22) ⟩, ⟨ some 133, none, .bin .add (.tmp 131) (.tmp 132) ⟩, ⟨ none, none, .mupd ⟨ false, [.i] ⟩ (.tmp 130) (.tmp 133) (.const (.bool true)) ⟩]))) (.ops [⟨ some 119, none, .mv (.tmp 22) ⟩, ⟨ some 120, none, .bin .add (.tmp 119) (.const (.int .i64 1)) ⟩, ⟨ some 22, none, .mv (.tmp 120) ⟩])))))))) (.ops [⟨ some 108, none, .mv (.tmp 19) ⟩, ⟨ some 109, none, .bin .add (.tmp 108) (.const (.int .i64 1)) ⟩, ⟨ some 19, none, .mv (.tmp 109) ⟩])))))) (.seq (.ops [⟨ some 135, none, .load (some 3) (.tmp 7) ⟩, ⟨ some 136, none, .mv (.tmp 18) ⟩, ⟨ some 137, none, .call 37 [.tmp 135, .tmp 136] ⟩, ⟨ some 134, none, .mv (.tmp 137) ⟩, ⟨ some 138, none, .extr (.tmp 134) 0 ⟩, ⟨ some 139, none, .extr (.tmp 134) 1 ⟩, ⟨ some 23, none, .mv (.tmp 138) ⟩, ⟨ some 24, none, .mv (.tmp 139) ⟩]) (.seq (.seq (.ops [⟨ some 140, none, .mv (.tmp 24) ⟩, ⟨ some 141, none, .bin .neq (.tmp 140) (.const (.int .i64 0)) ⟩, ⟨ some 142, none, .mv (.tmp 141) ⟩, ⟨ some 143, some (142, false), .mv (.tmp 8) ⟩, ⟨ some 144, some (142, false), .mv (.tmp 23) ⟩, ⟨ some 145, some (142, false), .look ⟨ false, [.i] ⟩ (.bool false) (.tmp 143) (.tmp 144) false ⟩, ⟨ some 146, none, .pick (.tmp 142) (.const (.bool true)) (.tmp 145) ⟩]) (.cond (.tmp 146) (.seq (.ops [⟨ some 6, none, .mv (.const (.bool false)) ⟩]) .ret) .skip)) (.ops [⟨ some 147, none, .mv (.tmp 8) ⟩, ⟨ some 148, none, .mv (.tmp 23) ⟩, ⟨ none, none, .mupd ⟨ false, [.i] ⟩ (.tmp 147) (.tmp 148) (.const (.bool true)) ⟩]))))) (.ops [⟨ some 104, none, .mv (.tmp 18) ⟩, ⟨ some 105, none, .bin .add (.tmp 104) (.const (.int .i64 1)) ⟩, ⟨ some 18, none, .mv (.tmp 105) ⟩])))))) (.seq (.seq (.ops [⟨ some 25, none, .mv (.const (.int .i64 0)) ⟩]) (.block 12 (.loop (.seq (.seq (.ops [⟨ some 149, none, .mv (.tmp 25) ⟩, ⟨ some 150, none, .load (some 3) (.tmp 7) ⟩, ⟨ some 151, none, .call 38 [.tmp 150] ⟩, ⟨ some 152, none, .bin .lss (.tmp 149) (.tmp 151) ⟩]) (.cond (.tmp 152) .skip (.exit 12))) (.seq (.block 13 (.seq (.ops [⟨ some 155, none, .mv (.tmp 8) ⟩, ⟨ some 156, none, .mv (.tmp 25) ⟩, ⟨ some 157, none, .look ⟨ false, [.i] ⟩ (.bool false) (.tmp 155) (.tmp 156) false ⟩, ⟨ some 158, none, .un .not (.tmp 157) ⟩]) (.cond (.tmp 158) (.seq (.ops [⟨ some 6, none, .mv (.const (.bool false)) ⟩]) .ret) .skip))) (.ops [⟨ some 153, none, .mv (.tmp 25) ⟩, ⟨ some 154, none, .bin .add (.tmp 153) (.const (.int .i64 1)) ⟩, ⟨ some 25, none, .mv (.tmp 154) ⟩])))))) (.seq (.ops [⟨ some 159, none, .mv (.tmp 8) ⟩, ⟨ some 160, none, .lenM (.tmp 159) ⟩, ⟨ some 161, none, .load (some 3) (.tmp 7) ⟩, ⟨ some 162, none, .call 38 [.tmp 161] ⟩, ⟨ some 163, none, .bin .eql (.tmp 160) (.tmp 162) ⟩, ⟨ some 164, none, .mv (.tmp 163) ⟩, ⟨ some 165, some (164, true), .load (some 3) (.tmp 7) ⟩, ⟨ some 166, some (164, true), .call 38 [.tmp 165] ⟩, ⟨ some 167, some (164, true), .bin .leq (.tmp 166) (.const (.int .i64 512)) ⟩, ⟨ some 168, none, .pick (.tmp 164) (.tmp 167) (.const (.bool false)) ⟩, ⟨ some 6, none, .mv (.tmp 168) ⟩]) .ret)))))))
theorem k7 : compF Try.prog Try.f7 = some (c7, [6]) := by kernel_rfl
theorem n7 : Try.f7.ntmps = 169 := by kernel_rfl
def c8 : AC := .seq (.ops [⟨ some 3, none, .box (.tmp 0) ⟩, ⟨ some 4, none, .box (.tmp 1) ⟩, ⟨ some 5, none, .box (.tmp 2) ⟩, ⟨ some 6, none, .mv (.const (.bool false)) ⟩]) (.seq (.seq (.ops [⟨ some 21, none, .call 25 [] ⟩, ⟨ some 22, none, .un .not (.tmp 21) ⟩]) (.cond (.tmp 22) (.seq (.ops [⟨ some 6, none, .mv (.const (.bool false)) ⟩]) .ret) .skip)) (.seq (.ops [⟨ some 23, none, .load (some 3) (.tmp 3) ⟩, ⟨ some 7, none, .alloc [.int .i64 0, .int .i64 0, .int .i64 0] ⟩, ⟨ none, none, .store 3 (.tmp 7) (.tmp 23) ⟩]) (.seq (.ops [⟨ some 25, none, .load (some 3) (.tmp 3) ⟩, ⟨ some 26, none, .iAddrA 3 1 (.tmp 4) (.const (.int .i64 0)) ⟩, ⟨ some 27, none, .load none (.tmp 26) ⟩, ⟨ some 28, none, .iAddrA 3 1 (.tmp 4) (.const (.int .i64 1)) ⟩, ⟨ some 29, none, .load none (.tmp 28) ⟩, ⟨ some 30, none, .iAddrA 3 1 (.tmp 4) (.const (.int .i64 2)) ⟩, ⟨ some 31, none, .load none (.tmp 30) ⟩, ⟨ some 32, none, .call 35 [.tmp 25, .tmp 27, .tmp 29, .tmp 31] ⟩, ⟨ some 24, none, .mv (.tmp 32) ⟩, ⟨ some 33, none, .extr (.tmp 24) 0 ⟩, ⟨ some 34, none, .extr (.tmp 24) 1 ⟩, ⟨ some 8, none, .mv (.tmp 33) ⟩, ⟨ some 9, none, .mv (.tmp 34) ⟩]) (.seq (.ops [⟨ some 36, none, .load (some 3) (.tmp 3) ⟩, ⟨ some 37, none, .iAddrA 3 1 (.tmp 4) (.const (.int .i64 0)) ⟩, ⟨ some 38, none, .load none (.tmp 37) ⟩, ⟨ some 39, none, .iAddrA 3 1 (.tmp 4) (.const (.int .i64 1)) ⟩, ⟨ some 40, none, .load none (.tmp 39) ⟩, ⟨ some 41, none, .call 36 [.tmp 36, .tmp 38, .tmp 40] ⟩, ⟨ some 35, none, .mv (.tmp 41) ⟩, ⟨ some 42, none, .extr (.tmp 35) 0 ⟩, ⟨ some 43, none, .extr (.tmp 35) 1 ⟩, ⟨ some 10, none, .mv (.tmp 42) ⟩, ⟨ some 11, none, .mv (.tmp 43) ⟩]) (.seq (.ops [⟨ some 45, none, .load (some 3) (.tmp 3) ⟩, ⟨ some 46, none, .iAddrA 3 1 (.tmp 4) (.const (.int .i64 0)) ⟩, ⟨ some 47, none, .load none (.tmp 46) ⟩, ⟨ some 48, none, .call 37 [.tmp 45, .tmp 47] ⟩, ⟨ some 44, none, .mv (.tmp 48) ⟩, ⟨ some 49, none, .extr (.tmp 44) 0 ⟩, ⟨ some 50, none, .extr (.tmp 44) 1 ⟩, ⟨ some 12, none, .mv (.tmp 49) ⟩, ⟨ some 13, none, .mv (.tmp 50) ⟩]) (.seq (.ops [⟨ some 52, none, .load (some 3) (.tmp 3) ⟩, ⟨ some 53, none, .iAddrA 3 1 (.tmp 5) (.const (.int .i64 0)) ⟩, ⟨ some 54, none, .load none (.tmp 53) ⟩, ⟨ some 55, none, .call 28 [.tmp 52, .tmp 54] ⟩, ⟨ some 51, none, .mv (.tmp 55) ⟩, ⟨ some 56, none, .extr (.tmp 51) 0 ⟩, ⟨ some 57, none, .extr (.tmp 51) 1 ⟩, ⟨ some 58, none, .extr (.tmp 51) 2 ⟩, ⟨ some 59, none, .extr (.tmp 51) 3 ⟩, ⟨ some 14, none, .mv (.tmp 56) ⟩, ⟨ some 15, none, .mv (.tmp 57) ⟩, ⟨ some 16, none, .mv (.tmp 58) ⟩, ⟨ some 17, none, .mv (.tmp 59) ⟩]) (.seq (.ops [⟨ some 61, none, .load (some 3) (.tmp 3) ⟩, ⟨ some 62, none, .call 39 [.tmp 61] ⟩, ⟨ some 60, none, .mv (.tmp 62) ⟩, ⟨ some 63, none, .extr (.tmp 60) 0 ⟩, ⟨ some 64, none, .extr (.tmp 60) 1 ⟩, ⟨ some 18, none, .mv (.tmp 63) ⟩, ⟨ some 19, none, .mv (.tmp 64) ⟩]) (.seq (.seq (.ops [⟨ some 65, none, .load (some 3) (.tmp 7) ⟩, ⟨ some 66, none, .call 26 [.tmp 65] ⟩, ⟨ some 67, none, .un .not (.tmp 66) ⟩]) (.cond (.tmp 67) (.seq (.draw [([⟨ some 68, none, .load (some 3) (.tmp 3) ⟩], [⟨ some 69, none, .call 40 [.tmp 68] ⟩], []), ([⟨ some 70, none, .un .not (.tmp 69) ⟩, ⟨ some 71, none, .mv (.tmp 70) ⟩, ⟨ some 72, some (71, true), .mv (.tmp 8) ⟩, ⟨ some 73, some (71, true), .mv (.tmp 10) ⟩, ⟨ some 74, some (71, true), .bin .add (.tmp 72) (.tmp 73) ⟩, ⟨ some 75, some (71, true), .mv (.tmp 12) ⟩, ⟨ some 76, some (71, true), .bin .add (.tmp 74) (.tmp 75) ⟩, ⟨ some 77, some (71, true), .mv (.tmp 14) ⟩, ⟨ some 78, some (71, true), .bin .add (.tmp 76) (.tmp 77) ⟩, ⟨ some 79, some (71, true), .mv (.tmp 15) ⟩, ⟨ some 80, some (71, true), .bin .add (.tmp 78) (.tmp 79) ⟩, ⟨ some 81, some (71, true), .mv (.tmp 16) ⟩, ⟨ some 82, some (71, true), .bin .add (.tmp 80) (.tmp 81) ⟩, ⟨ some 83, some (71, true), .mv (.tmp 18) ⟩, ⟨ some 84, some (71, true), .bin .add (.tmp 82) (.tmp 83) ⟩, ⟨ some 85, some (71, true), .mv (.tmp 19) ⟩, ⟨ some 86, some (71, true), .bin .add (.tmp 84) (.tmp 85) ⟩, ⟨ some 87, some (71, true), .load (some 3) (.tmp 3) ⟩, ⟨ some 90, some (71, true), .load (some 3) (.tmp 3) ⟩, ⟨ some 93, some (71, true), .load (some 3) (.tmp 3) ⟩, ⟨ some 96, some (71, true), .load (some 3) (.tmp 3) ⟩], [⟨ some 88, some (71, true), .call 27 [.tmp 87] ⟩], [⟨ some 90, some (71, true), .load (some 3) (.tmp 3) ⟩, ⟨ some 93, some (71, true), .load (some 3) (.tmp 3) ⟩, ⟨ some 96, some (71, true), .load (some 3) (.tmp 3) ⟩]), ([⟨ some 89, some (71, true), .bin .add (.tmp 86) (.tmp 88) ⟩], [⟨ some 91, some (71, true), .call 38 [.tmp 90] ⟩], [⟨ some 93, some (71, true), .load (some 3) (.tmp 3) ⟩, ⟨ some 96, some (71, true), .load (some 3) (.tmp 3) ⟩]), ([⟨ some 92, some (71, true), .bin .add (.tmp 89) (.tmp 91) ⟩], [⟨ some 94, some (71, true), .call 41 [.tmp 93] ⟩], [⟨ some 96, some (71, true), .load (some 3) (.tmp 3) ⟩]), ([⟨ some 95, some (71, true), .bin .add (.tmp 92) (.tmp 94) ⟩], [⟨ some 97, some (71, true), .call 34 [.tmp 96] ⟩], []), ([⟨ some 98, some (71, true), .bin .add (.tmp 95) (.tmp 97) ⟩, ⟨ some 99, some (71, true), .bin .eql (.tmp 98) (.const (.int .i64 0)) ⟩, ⟨ some 100, none, .pick (.tmp 71) (.tmp 99) (.const (.bool false)) ⟩, ⟨ some 101, none, .mv (.tmp 100) ⟩, ⟨ some 102, some (101, true), .mv (.tmp 9) ⟩, ⟨ some 103, some (101, true), .bin .eql (.tmp 102) (.const (.int .i64 1)) ⟩, ⟨ some 104, none, .pick (.tmp 101) (.tmp 103) (.const (.bool false)) ⟩, ⟨ some 105, none, .mv (.tmp 104) ⟩, ⟨ some 106, some (105, true), .mv (.tmp 11) ⟩, ⟨ some 107, some (105, true), .bin .eql (.tmp 106) (.const (.int .i64 1)) ⟩, ⟨ some 108, none, .pick (.tmp 105) (.tmp 107) (.const (.bool false)) ⟩, ⟨ some 109, none, .mv (.tmp 108) ⟩, ⟨ some 110, some (109, true), .mv (.tmp 13) ⟩, ⟨ some 111, some (109, true), .bin .eql (.tmp 110) (.const (.int .i64 1)) ⟩, ⟨ some 112, none, .pick (.tmp 109) (.tmp 111) (.const (.bool false)) ⟩, ⟨ some 113, none, .mv (.tmp 112) ⟩, ⟨ some 114, some (113, true), .mv (.tmp 17) ⟩, ⟨ some 115, some (113, true), .un .not (.tmp 114) ⟩, ⟨ some 116, none, .pick (.tmp 113) (.tmp 115) (.const (.bool false)) ⟩, ⟨ some 6, none, .mv (.tmp 116) ⟩], [], [])]) .ret) .skip)) (.seq (.ops [⟨ some 117, none, .load (some 3) (.tmp 7) ⟩, ⟨ some 118, none, .call 42 [.tmp 117] ⟩, ⟨ some 20, none, .mv (.tmp 118) ⟩]) (.seq (.seq (.draw [([⟨ some 119, none, .load (some 3) (.tmp 3) ⟩], [⟨ some 120, none, .call 40 [.tmp 119] ⟩], []), ([⟨ some 121, none, .un .not (.tmp 120) ⟩, ⟨ some 122, none, .mv (.tmp 121) ⟩, ⟨ some 123, some (122, false), .load (some 3) (.tmp 3) ⟩, ⟨ some 125, some (122, false), .mv (.tmp 20) ⟩, ⟨ some 126, some (122, false), .lenS false (.tmp 125) ⟩], [⟨ some 124, some (122, false), .call 38 [.tmp 123] ⟩], []), ([⟨ some 127, some (122, false), .bin .neq (.tmp 124) (.tmp 126) ⟩, ⟨ some 128, none, .pick (.tmp 122) (.const (.bool true)) (.tmp 127) ⟩, ⟨ some 129, none, .mv (.tmp 128) ⟩, ⟨ some 130, some (129, false), .load (some 3) (.tmp 3) ⟩, ⟨ some 132, some (129, false), .fAddr 0 (.tmp 3) ⟩, ⟨ some 133, some (129, false), .load none (.tmp 132) ⟩, ⟨ some 134, some (129, false), .fAddr 1 (.tmp 3) ⟩, ⟨ some 135, some (129, false), .load none (.tmp 134) ⟩, ⟨ some 136, some (129, false), .bin .add (.tmp 133) (.tmp 135) ⟩, ⟨ some 137, some (129, false), .fAddr 2 (.tmp 3) ⟩, ⟨ some 138, some (129, false), .load none (.tmp 137) ⟩, ⟨ some 139, some (129, false), .bin .mul (.tmp 136) (.tmp 138) ⟩], [⟨ some 131, some (129, false), .call 27 [.tmp 130] ⟩], [⟨ some 133, some (129, false), .load none (.tmp 132) ⟩, ⟨ some 135, some (129, false), .load none (.tmp 134) ⟩, ⟨ some 138, some (129, false), .load none (.tmp 137) ⟩]), ([⟨ some 140, some (129, false), .bin .neq (.tmp 131) (.tmp 139) ⟩, ⟨ some 141, none, .pick (.tmp 129) (.const (.bool true)) (.tmp 140) ⟩, ⟨ some 142, none, .mv (.tmp 141) ⟩, ⟨ some 143, some (142, false), .load (some 3) (.tmp 3) ⟩, ⟨ some 145, some (142, false), .fAddr 0 (.tmp 3) ⟩, ⟨ some 146, some (142, false), .load none (.tmp 145) ⟩, ⟨ some 147, some (142, false), .fAddr 1 (.tmp 3) ⟩, ⟨ some 148, some (142, false), .load none (.tmp 147) ⟩, ⟨ some 149, some (142, false), .bin .add (.tmp 146) (.tmp 148) ⟩], [⟨ some 144, some (142, false), .call 34 [.tmp 143] ⟩], [⟨ some 146, some (142, false), .load none (.tmp 145) ⟩, ⟨ some 148, some (142, false), .load none (.tmp 147) ⟩]), ([⟨ some 150, some (142, false), .bin .neq (.tmp 144) (.tmp 149) ⟩, ⟨ some 151, none, .pick (.tmp 142) (.const (.bool true)) (.tmp 150) ⟩, ⟨ some 152, none, .mv (.tmp 151) ⟩, ⟨ some 153, some (152, false), .load (some 3) (.tmp 3) ⟩, ⟨ some 155, some (152, false), .load (some 3) (.tmp 7) ⟩], [⟨ some 154, some (152, false), .call 41 [.tmp 153] ⟩], [⟨ some 155, some (152, false), .load (some 3) (.tmp 7) ⟩]), ([], [⟨ some 156, some (152, false), .call 43 [.tmp 155] ⟩], []), ([⟨ some 157, some (152, false), .bin .neq (.tmp 154) (.tmp 156) ⟩, ⟨ some 158, none, .pick (.tmp 152) (.const (.bool true)) (.tmp 157) ⟩, ⟨ some 159, none, .mv (.tmp 158) ⟩, ⟨ some 160, some (159, false), .mv (.tmp 18) ⟩, ⟨ some 161, some (159, false), .bin .neq (.tmp 160) (.const (.int .i64 0)) ⟩, ⟨ some 162, none, .pick (.tmp 159) (.const (.bool true)) (.tmp 161) ⟩, ⟨ some 163, none, .mv (.tmp 162) ⟩, ⟨ some 164, some (163, false), .mv (.tmp 19) ⟩, ⟨ some 165, some (163, false), .load (some 3) (.tmp 3) ⟩], [⟨ some 166, some (163, false), .call 27 [.tmp 165] ⟩], []), ([⟨ some 167, some (163, false), .bin .neq (.tmp 164) (.tmp 166) ⟩, ⟨ some 168, none, .pick (.tmp 163) (.const (.bool true)) (.tmp 167) ⟩], [], [])]) (.cond (.tmp 168) (.seq (.ops [⟨ some 6, none, .mv (.const (.bool false)) ⟩]) .ret) .skip)) (.seq (.ops [⟨ some 169, none, .mv (.tmp 8) ⟩, ⟨ some 170, none, .mv (.tmp 9) ⟩, ⟨ some 171, none, .mv (.tmp 20) ⟩, ⟨ some 172, none, .iAddrA 3 1 (.tmp 4) (.const (.int .i64 0)) ⟩, ⟨ some 173, none, .load none (.tmp 172) ⟩, ⟨ some 174, none, .iAddrA 3 1 (.tmp 4) (.const (.int .i64 1)) ⟩, ⟨ some 175, none, .load none (.tmp 174) ⟩, ⟨ some 176, none, .iAddrA 3 1 (.tmp 4) (.const (.int .i64 2)) ⟩, ⟨ some 177, none, .load none (.tmp 176) ⟩, ⟨ some 178, none, .build [.int .i64 0, .int .i64 0, .int .i64 0, .int .i64 0] [(0, 1, .const (.int .i64 0)), (1, 1, .tmp 173), (2, 1, .tmp 175), (3, 1, .tmp 177)] ⟩, ⟨ some 179, none, .call 45 [.tmp 171, .tmp 178] ⟩, ⟨ some 180, none, .call 44 [.tmp 169, .tmp 170, .tmp 179] ⟩, ⟨ some 181, none, .mv (.tmp 180) ⟩, ⟨ some 182, some (181, true), .mv (.tmp 10) ⟩, ⟨ some 183, some (181, true), .mv (.tmp 11) ⟩, ⟨ some 184, some (181, true), .mv (.tmp 20) ⟩, ⟨ some 185, some (181, true), .iAddrA 3 1 (.tmp 4) (.const (.int .i64 0)) ⟩, ⟨ some 186, some (181, true), .load none (.tmp 185) ⟩, ⟨ some 187, some (181, true), .iAddrA 3 1 (.tmp 4) (.const (.int .i64 1)) ⟩, ⟨ some 188, some (181, true), .load none (.tmp 187) ⟩, ⟨ some 189, some (181, true), .build [.int .i64 0, .int .i64 0, .int .i64 0, .int .i64 0] [(0, 1, .const (.int .i64 1)), (1, 1, .tmp 186), (2, 1, .tmp 188)] ⟩, ⟨ some 190, some (181, true), .call 45 [.tmp 184, .tmp 189] ⟩, ⟨ some 191, some (181, true), .call 44 [.tmp 182, .tmp 183, .tmp 190] ⟩, ⟨ some 192, none, .pick (.tmp 181) (.tmp 191) (.const (.bool false)) ⟩, ⟨ some 193, none, .mv (.tmp 192) ⟩, ⟨ some 194, some (193, true), .mv (.tmp 12) ⟩, ⟨ some 195, some (193, true), .mv (.tmp 13) ⟩, ⟨ some 196, some (193, true), .mv (.tmp 20) ⟩, ⟨ some 197, some (193, true), .iAddrA 3 1 (.tmp 4) (.const (.int .i64 0)) ⟩, ⟨ some 198, some (193, true), .load none (.tmp 197) ⟩, ⟨ some 199, some (193, true), .build [.int .i64 0, .int .i64 0, .int .i64 0, .int .i64 0] [(0, 1, .const (.int .i64 2)), (1, 1, .tmp 198)] ⟩, ⟨ some 200, some (193, true), .call 45 [.tmp 196, .tmp 199] ⟩, ⟨ some 201, some (193, true), .call 44 [.tmp 194, .tmp 195, .tmp 200] ⟩, ⟨ some 202, none, .pick (.tmp 193) (.tmp 201) (.const (.bool false)) ⟩, ⟨ some 203, none, .mv (.tmp 202) ⟩, ⟨ some 204, some (203, true), .iAddrA 3 1 (.tmp 5) (.const (.int .i64 0)) ⟩, ⟨ some 205, some (203, true), .load none (.tmp 204) ⟩, ⟨ some 206, some (203, true), .mv (.tmp 20) ⟩, ⟨ some 207, some (203, true), .mv (.tmp 14) ⟩, ⟨ some 208, some (203, true), .mv (.tmp 15) ⟩, ⟨ some 209, some (203, true), .mv (.tmp 16) ⟩, ⟨ some 210, some (203, true), .build [.int .i64 0, .int .i64 0, .int .i64 0, .int .i64 0] [(1, 1, .tmp 207), (2, 1, .tmp 208), (3, 1, .tmp 209)] ⟩, ⟨ some 211, some (203, true), .mv (.tmp 17) ⟩, ⟨ some 212, some (203, true), .call 46 [.tmp 205, .tmp 206, .tmp 210, .tmp 211] ⟩, ⟨ some 213, none, .pick (.tmp 203) (.tmp 212) (.const (.bool false)) ⟩, ⟨ some 6, none, .mv (.tmp 213) ⟩]) .ret)))))))))))
theorem k8 : compF Try.prog Try.f8 = some (c8, [6]) := by kernel_rfl
theorem n8 : Try.f8.ntmps = 214 := by kernel_rfl
theorem i64_sg {n : Int} (h0 : -9223372036854775808 ≤ n) (h1 : n < 9223372036854775808) : IntKind.i64.wrap n = n := IntWalk.i64_in _ (by omega)

/-- a geometry -/
def gv (d p s : Int) : Value := .agg #[.int .i64 d, .int .i64 p, .int .i64 s]
def within : List Int → Bool
  | lo :: x :: hi :: r => decide (lo ≤ x) && decide (x ≤ hi) && within r
  | _ => true
theorem within_drop (l : List Int) (j : Nat) (h : j + 2 < l.length) : within (l.drop j) = (decide (l[j] ≤ l[j + 1]) && decide (l[j + 1] ≤ l[j + 2]) && within (l.drop (j + 3))) := by
  rw [List.drop_eq_getElem_cons (by omega : j < l.length), List.drop_eq_getElem_cons (by omega : j + 1 < l.length), List.drop_eq_getElem_cons (by omega : j + 2 < l.length)]
  rfl
theorem within_ok (l : List Int) (k : Nat) (b : Nat) (h : Heap) (hk : l.length = 3 * k) (hb' : h.cellsOf b = some (l.map cI, .ex, 1)) (hlen : k ≤ 1000000) :
    ACalls Try.prog 99 [.slice (some ⟨b, 0, none⟩) (3 * k) (3 * k)] h fun v h' => v = .bool (within l) ∧ h' = h := by
  refine acalls_of mix Try.func99 k99 n99 (by simp) fun hcl hb => ?_
  have hbn := cellsOf_lt hcl hb'
  simp [c99]
  refine awp_loop_of (α := Nat) (fun j => j ≤ k ∧ within l = within (l.drop (3 * j))) (fun j => [(0, .slice (some ⟨b, 3 * j, none⟩) (3 * k - 3 * j) (3 * k - 3 * j))]) (fun _ => h) (fun j => k - j) 0
    ⟨Nat.zero_le _, by simp⟩ (Heap.Sub.refl hcl) (by simp; exact vb_slice hbn) ?_
  rintro j ⟨hj, hw⟩
  by_cases hlt : j < k
  · have hlt' : (0 : Int) < ((3 * k - 3 * j : Nat) : Int) := by omega
    have i0 : aidx (.int .i64 0) (3 * k - 3 * j) = some 0 := aidx_of (i := 0) (by omega)
    have i1 : aidx (.int .i64 1) (3 * k - 3 * j) = some 1 := aidx_of (i := 1) (by omega)
    have i2 : aidx (.int .i64 2) (3 * k - 3 * j) = some 2 := aidx_of (i := 2) (by omega)
    have l0 : 3 * j < l.length := by omega
    have l1 : 3 * j + 1 < l.length := by omega
    have l2 : 3 * j + 2 < l.length := by omega
    have hd := within_drop l (3 * j) l2
    have hab : abounds (3 * k - 3 * j) (3 * k - 3 * j) (some (.int .i64 3)) none none = some (3, 3 * k - 3 * j, 3 * k - 3 * j) := by
      have : abound (.int .i64 3) (3 * k - 3 * j) = some 3 := by unfold abound; simp only; rw [if_pos ⟨by omega, by omega⟩]; rfl
      simp [abounds, this]
    rw [hd] at hw
    have hz : ¬ 3 * k - 3 * j = 0 := by omega
    generalize hn : 3 * k - 3 * j = n at i0 i1 i2 hab hlt' hz ⊢
    have hdt : decide (0 < n) = true := decide_eq_true (by omega)
    simp [hdt, i0, i1, i2, hb', apart, l0, l1, l2]
    by_cases h1 : l[3 * j + 1] < l[3 * j]
    · have : ¬ l[3 * j] ≤ l[3 * j + 1] := by omega
      simp [h1, hw, this]
    by_cases h2 : l[3 * j + 2] < l[3 * j + 1]
    · have : ¬ l[3 * j + 1] ≤ l[3 * j + 2] := by omega
      simp [h1, h2, hw, this, i1, i2, hb', apart, l1, l2]
    have h1' : l[3 * j] ≤ l[3 * j + 1] := by omega
    have h2' : l[3 * j + 1] ≤ l[3 * j + 2] := by omega
    simp [h1, h2, i1, i2, hb', apart, l1, l2, hab]
    refine ⟨j + 1, by omega, ⟨by omega, ?_⟩, Heap.Sub.refl hcl, ⟨by omega, by omega⟩, vb_slice hbn⟩
    rw [hw, show 3 * (j + 1) = 3 * j + 3 by omega]
    simp [h1', h2']
  · have : j = k := by omega
    subst this
    simp
    rw [hw, List.drop_eq_nil_of_le (by omega)]
    rfl

def right (d p s : Int) : Bool := decide (1 ≤ d) && decide (d ≤ 8) && (decide (2 ≤ p) && decide (p ≤ 6) && (decide (1 ≤ s) && decide (s ≤ 8)))
theorem rightG_ok (d p s : Int) (h : Heap) : ACalls Try.prog 40 [gv d p s] h fun v h' => v = .bool (right d p s) ∧ h' = h := by
  refine ACalls.same .bool (acalls_of mix Try.func40 k40 n40 (by simp) fun hcl hb => ?_)
  simp [c40, gv, mcells, cellsOf_new, apart, afill]
  refine (within_ok [1, d, 8, 2, p, 6, 1, s, 8] 3 _ _ rfl (cellsOf_new _ _ _ _) (by omega)).mono ?_
  rintro v1 h1 ⟨rfl, e⟩
  subst e
  simp
  exact ⟨by simp [within, right], ((Heap.Ext.refl h).push hcl _).push hcl _⟩
def wide (d p s : Int) : Int := if right d p s then d + p else 0
theorem right_prop {d p s : Int} : right d p s = true ↔ (1 ≤ d ∧ d ≤ 8) ∧ (2 ≤ p ∧ p ≤ 6) ∧ 1 ≤ s ∧ s ≤ 8 := by simp [right]
theorem wide_ok (d p s : Int) (h : Heap) : ACalls Try.prog 34 [gv d p s] h fun v h' => v = .int .i64 (wide d p s) ∧ h' = h := by
  refine ACalls.same .int (acalls_of mix Try.func34 k34 n34 (by simp) fun hcl hb => ?_)
  simp [c34, gv, mcells, cellsOf_new, apart, acut]
  refine (rightG_ok d p s _).mono ?_
  rintro v1 h1 ⟨rfl, e⟩
  subst e
  by_cases hr : right d p s = true
  · simp [hr, aun, wide, cellsOf_new, apart]
    have := right_prop.1 hr
    exact ⟨i64_sg (by omega) (by omega), (Heap.Ext.refl h).push hcl _⟩
  · have hr' : right d p s = false := by simpa using hr
    simp [hr', aun, wide]
    exact (Heap.Ext.refl h).push hcl _
def slot (d p s : Int) : Int := if right d p s then (d + p) * s else 0
theorem mulb {a b m n : Int} (h1 : 0 ≤ a) (h2 : a ≤ m) (h3 : 0 ≤ b) (h4 : b ≤ n) : 0 ≤ a * b ∧ a * b ≤ m * n := ⟨Int.mul_nonneg h1 h3, Int.mul_le_mul h2 h4 h3 (by omega)⟩
theorem slot_bound {d p s : Int} : 0 ≤ slot d p s ∧ slot d p s ≤ 112 := by
  unfold slot
  split
  · rename_i hr
    have := right_prop.1 hr
    exact mulb (m := 14) (n := 8) (by omega) (by omega) (by omega) (by omega)
  · omega
theorem slot_ok (d p s : Int) (h : Heap) : ACalls Try.prog 27 [gv d p s] h fun v h' => v = .int .i64 (slot d p s) ∧ h' = h := by
  refine ACalls.same .int (acalls_of mix Try.func27 k27 n27 (by simp) fun hcl hb => ?_)
  simp [c27, gv, mcells, cellsOf_new, apart, acut, afold, amax2]
  refine (wide_ok d p s _).mono ?_
  rintro v1 h1 ⟨rfl, e⟩
  subst e
  simp [cellsOf_new, apart]
  refine ⟨?_, (Heap.Ext.refl h).push hcl _⟩
  have hb := slot_bound (d := d) (p := p) (s := s)
  unfold slot wide at *
  split
  · rename_i hr
    have := right_prop.1 hr
    rw [if_pos hr] at hb
    rw [Int.max_eq_left (by omega), i64_sg (by omega) (by omega)]
  · simp [i64_sg]
theorem log_ok (d p s : Int) (h : Heap) : ACalls Try.prog 100 [gv d p s] h fun v h' => v = .int .i64 (3 * slot d p s) ∧ h' = h := by
  refine ACalls.same .int (acalls_of mix Try.func100 k100 n100 (by simp) fun hcl hb => ?_)
  simp [c100, gv, mcells, cellsOf_new, apart, acut]
  refine (slot_ok d p s _).mono ?_
  rintro v1 h1 ⟨rfl, e⟩
  subst e
  simp
  have hb := slot_bound (d := d) (p := p) (s := s)
  exact ⟨i64_sg (by omega) (by omega), (Heap.Ext.refl h).push hcl _⟩
def allS (d p s : Int) : Int := if right d p s then 3 * slot d p s + 18 else 0
theorem all_ok (d p s : Int) (h : Heap) : ACalls Try.prog 38 [gv d p s] h fun v h' => v = .int .i64 (allS d p s) ∧ h' = h := by
  refine ACalls.same .int (acalls_of mix Try.func38 k38 n38 (by simp) fun hcl hb => ?_)
  simp [c38, gv, mcells, cellsOf_new, apart, acut]
  refine (rightG_ok d p s _).mono ?_
  rintro v1 h1 ⟨rfl, e⟩
  subst e
  by_cases hr : right d p s = true
  · simp [hr, aun, cellsOf_new, apart, acut]
    refine (log_ok d p s _).mono ?_
    rintro v1 h1 ⟨rfl, e⟩
    subst e
    simp
    have hb := slot_bound (d := d) (p := p) (s := s)
    refine ⟨?_, (Heap.Ext.refl h).push hcl _⟩
    unfold allS
    rw [if_pos hr, i64_sg (n := 3 * slot d p s + 16) (by omega) (by omega), i64_sg (by omega) (by omega)]
    omega
  · have hr' : right d p s = false := by simpa using hr
    simp [hr', aun, allS]
    exact (Heap.Ext.refl h).push hcl _
theorem tdiv_pos {a b : Int} (ha : 0 ≤ a) : a.tdiv b = a / b := Int.tdiv_eq_ediv_of_nonneg ha
theorem tmod_pos {a b : Int} (ha : 0 ≤ a) : a.tmod b = a % b := Int.tmod_eq_emod_of_nonneg ha
/-- whose a sector is -/
def ofR (d p s x : Int) : Value := if right d p s = true ∧ 0 ≤ x ∧ x ≤ 3 * slot d p s - 1 then
    .tuple #[cI (x / slot d p s), cI (x % slot d p s % s), cI (x % slot d p s / s), .bool true]
  else .tuple #[cI 0, cI 0, cI 0, .bool false]
theorem ofR_below {n : Nat} {d p s x : Int} : VBelow n (ofR d p s x) := by
  unfold ofR
  split <;> exact .tuple fun i hi => by
    match i, hi with
    | 0, _ => exact .int
    | 1, _ => exact .int
    | 2, _ => exact .int
    | 3, _ => exact .bool
theorem slot_right {d p s : Int} (hr : right d p s = true) : slot d p s = (d + p) * s ∧ 3 * s ≤ slot d p s := by
  have := right_prop.1 hr
  unfold slot
  rw [if_pos hr]
  exact ⟨rfl, Int.mul_le_mul_of_nonneg_right (by omega) (by omega)⟩
theorem of_ok (d p s x : Int) (h : Heap) : ACalls Try.prog 28 [gv d p s, .int .i64 x] h fun v h' => v = ofR d p s x ∧ h' = h := by
  refine ACalls.same ofR_below (acalls_of mix Try.func28 k28 n28 (by simp) fun hcl hb => ?_)
  have hext := (Heap.Ext.refl h).push hcl (.cells [.int .i64 d, .int .i64 p, .int .i64 s] .ex 1)
  simp [c28, gv, mcells, cellsOf_new, apart, acut]
  refine (rightG_ok d p s _).mono ?_
  rintro v1 h1 ⟨rfl, e⟩
  subst e
  by_cases hr : right d p s = true
  case neg =>
    have hr' : right d p s = false := by simpa using hr
    simp [hr', aun, ofR]
    exact hext
  have hp := right_prop.1 hr
  have hsb := slot_bound (d := d) (p := p) (s := s)
  have hsr := slot_right hr
  simp [hr, aun, cellsOf_new, apart, acut]
  refine (log_ok d p s _).mono ?_
  rintro v1 h1 ⟨rfl, e⟩
  subst e
  simp [afill, mcells]
  have hw1 : IntKind.i64.wrap (3 * slot d p s - 1) = 3 * slot d p s - 1 := i64_sg (by omega) (by omega)
  refine (within_ok [0, x, IntKind.i64.wrap (3 * slot d p s - 1)] 1 _ _ rfl (cellsOf_new _ _ _ _) (by omega)).mono ?_
  rintro v1 h1 ⟨rfl, e⟩
  subst e
  rw [hw1]
  by_cases hx : 0 ≤ x ∧ x ≤ 3 * slot d p s - 1
  case neg =>
    have hwf : within [0, x, 3 * slot d p s - 1] = false := by simp [within]; omega
    simp [hwf, aun, ofR, hx]
    exact hext.push hcl _
  have hwt : within [0, x, 3 * slot d p s - 1] = true := by simp [within]; omega
  simp [hwt, aun, cellsOf_ne, cellsOf_new, apart, acut]
  refine (slot_ok d p s _).mono ?_
  rintro v1 h1 ⟨rfl, e⟩
  subst e
  have hs0 : ¬ slot d p s = 0 := by omega
  have hs1 : ¬ s = 0 := by omega
  have e1 : 0 ≤ x.tmod (slot d p s) ∧ x.tmod (slot d p s) < 112 := by
    rw [tmod_pos hx.1]
    exact ⟨Int.emod_nonneg _ hs0, Int.lt_of_lt_of_le (Int.emod_lt_of_pos _ (by omega)) hsb.2⟩
  have e2 : ∀ y : Int, 0 ≤ y → y < 112 * 3 → 0 < s → IntKind.i64.wrap (y / s) = y / s := fun y h0 h1 h2 => by
    have h3 := Int.ediv_le_self s h0
    have h4 := Int.ediv_nonneg h0 (Int.le_of_lt h2)
    exact i64_sg (by omega) (by omega)
  have e3 : IntKind.i64.wrap (x / slot d p s) = x / slot d p s := by
    have h3 := Int.ediv_le_self (slot d p s) hx.1
    have h4 := Int.ediv_nonneg hx.1 hsb.1
    exact i64_sg (by omega) (by omega)
  simp [hs0, hs1, cellsOf_ne, cellsOf_new, apart, acut]
  refine (slot_ok d p s _).mono ?_
  rintro v1 h1 ⟨rfl, e⟩
  subst e
  simp [hs0, hs1, cellsOf_ne, cellsOf_new, apart, acut]
  refine ⟨?_, hext.push hcl _⟩
  unfold ofR
  rw [if_pos ⟨hr, hx⟩, tdiv_pos hx.1, tdiv_pos e1.1, tmod_pos e1.1, e3]
  rw [tmod_pos hx.1] at e1 ⊢
  rw [e2 _ e1.1 (by omega) (by omega)]

def halfR (d p s a b : Int) : Value := if right d p s = false then .tuple #[cI 0, cI 1] else if 0 ≤ a ∧ a ≤ 1 ∧ 0 ≤ b ∧ b ≤ 1 then .tuple #[cI (3 * slot d p s + (a * 2 + b) * 4), cI 0] else .tuple #[cI 0, cI 2]
theorem halfR_below {n : Nat} {d p s a b : Int} : VBelow n (halfR d p s a b) := by
  unfold halfR
  split
  · exact vb_tuple2 .int .int
  · split <;> exact vb_tuple2 .int .int
theorem half_ok (d p s a b : Int) (h : Heap) : ACalls Try.prog 36 [gv d p s, .int .i64 a, .int .i64 b] h fun v h' => v = halfR d p s a b ∧ h' = h := by
  refine ACalls.same halfR_below (acalls_of mix Try.func36 k36 n36 (by simp) fun hcl hb => ?_)
  have hext := (Heap.Ext.refl h).push hcl (.cells [.int .i64 d, .int .i64 p, .int .i64 s] .ex 1)
  simp [c36, gv, mcells, cellsOf_new, apart, acut]
  refine (rightG_ok d p s _).mono ?_
  rintro v1 h1 ⟨rfl, e⟩
  subst e
  by_cases hr : right d p s = true
  case neg =>
    have hr' : right d p s = false := by simpa using hr
    simp [hr', aun, halfR]
    exact hext
  have hsb := slot_bound (d := d) (p := p) (s := s)
  simp [hr, aun, afill, mcells]
  refine (within_ok [0, a, 1, 0, b, 1] 2 _ _ rfl (cellsOf_new _ _ _ _) (by omega)).mono ?_
  rintro v1 h1 ⟨rfl, e⟩
  subst e
  by_cases hx : 0 ≤ a ∧ a ≤ 1 ∧ 0 ≤ b ∧ b ≤ 1
  case neg =>
    have hwf : within [0, a, 1, 0, b, 1] = false := by simp [within]; omega
    simp [hwf, aun, halfR, hx, hr]
    exact hext.push hcl _
  have hwt : within [0, a, 1, 0, b, 1] = true := by simp [within]; omega
  simp [hwt, aun, cellsOf_ne, cellsOf_new, apart, acut]
  refine (log_ok d p s _).mono ?_
  rintro v1 h1 ⟨rfl, e⟩
  subst e
  simp
  refine ⟨?_, hext.push hcl _⟩
  unfold halfR
  rw [if_neg (by rw [hr]; decide), if_pos hx, i64_sg (n := a * 2) (by omega) (by omega), i64_sg (n := a * 2 + b) (by omega) (by omega), i64_sg (n := (a * 2 + b) * 4) (by omega) (by omega), i64_sg (by omega) (by omega)]
def tallyR (d p s a : Int) : Value := if right d p s = false then .tuple #[cI 0, cI 1] else if 0 ≤ a ∧ a ≤ 1 then .tuple #[cI (3 * slot d p s + 16 + a), cI 0] else .tuple #[cI 0, cI 2]
theorem tallyR_below {n : Nat} {d p s a : Int} : VBelow n (tallyR d p s a) := by
  unfold tallyR
  split
  · exact vb_tuple2 .int .int
  · split <;> exact vb_tuple2 .int .int
theorem tally_ok (d p s a : Int) (h : Heap) : ACalls Try.prog 37 [gv d p s, .int .i64 a] h fun v h' => v = tallyR d p s a ∧ h' = h := by
  refine ACalls.same tallyR_below (acalls_of mix Try.func37 k37 n37 (by simp) fun hcl hb => ?_)
  have hext := (Heap.Ext.refl h).push hcl (.cells [.int .i64 d, .int .i64 p, .int .i64 s] .ex 1)
  simp [c37, gv, mcells, cellsOf_new, apart, acut]
  refine (rightG_ok d p s _).mono ?_
  rintro v1 h1 ⟨rfl, e⟩
  subst e
  by_cases hr : right d p s = true
  case neg =>
    have hr' : right d p s = false := by simpa using hr
    simp [hr', aun, tallyR]
    exact hext
  have hsb := slot_bound (d := d) (p := p) (s := s)
  simp [hr, aun, afill, mcells]
  refine (within_ok [0, a, 1] 1 _ _ rfl (cellsOf_new _ _ _ _) (by omega)).mono ?_
  rintro v1 h1 ⟨rfl, e⟩
  subst e
  by_cases hx : 0 ≤ a ∧ a ≤ 1
  case neg =>
    have hwf : within [0, a, 1] = false := by simp [within]; omega
    simp [hwf, aun, tallyR, hx, hr]
    exact hext.push hcl _
  have hwt : within [0, a, 1] = true := by simp [within]; omega
  simp [hwt, aun, cellsOf_ne, cellsOf_new, apart, acut]
  refine (all_ok d p s _).mono ?_
  rintro v1 h1 ⟨rfl, e⟩
  subst e
  simp
  refine ⟨?_, hext.push hcl _⟩
  have ha : allS d p s = 3 * slot d p s + 18 := by unfold allS; rw [if_pos hr]
  unfold tallyR
  rw [ha, if_neg (by rw [hr]; decide), if_pos hx, i64_sg (n := 3 * slot d p s + 18 - 2) (by omega) (by omega), i64_sg (by omega) (by omega)]
  congr 5
  omega
def sectorR (d p s a k i : Int) : Value := if right d p s = false then .tuple #[cI 0, cI 1] else if 0 ≤ a ∧ a ≤ 2 ∧ 0 ≤ k ∧ k ≤ s - 1 ∧ 0 ≤ i ∧ i ≤ wide d p s - 1 then .tuple #[cI (a * slot d p s + i * s + k), cI 0] else .tuple #[cI 0, cI 2]
theorem sectorR_below {n : Nat} {d p s a k i : Int} : VBelow n (sectorR d p s a k i) := by
  unfold sectorR
  split
  · exact vb_tuple2 .int .int
  · split <;> exact vb_tuple2 .int .int
theorem sector_ok (d p s a k i : Int) (h : Heap) : ACalls Try.prog 35 [gv d p s, .int .i64 a, .int .i64 k, .int .i64 i] h fun v h' => v = sectorR d p s a k i ∧ h' = h := by
  refine ACalls.same sectorR_below (acalls_of mix Try.func35 k35 n35 (by simp) fun hcl hb => ?_)
  have hext := (Heap.Ext.refl h).push hcl (.cells [.int .i64 d, .int .i64 p, .int .i64 s] .ex 1)
  simp [c35, gv, mcells, cellsOf_new, apart, acut]
  refine (rightG_ok d p s _).mono ?_
  rintro v1 h1 ⟨rfl, e⟩
  subst e
  by_cases hr : right d p s = true
  case neg =>
    have hr' : right d p s = false := by simpa using hr
    simp [hr', aun, sectorR]
    exact hext
  have hp := right_prop.1 hr
  have hsb := slot_bound (d := d) (p := p) (s := s)
  have hsr := slot_right hr
  have hw : wide d p s = d + p := by unfold wide; rw [if_pos hr]
  simp [hr, aun, cellsOf_new, apart, acut]
  refine (wide_ok d p s _).mono ?_
  rintro v1 h1 ⟨rfl, e⟩
  subst e
  have w1 : IntKind.i64.wrap (s - 1) = s - 1 := i64_sg (by omega) (by omega)
  have w2 : IntKind.i64.wrap (wide d p s - 1) = wide d p s - 1 := i64_sg (by omega) (by omega)
  simp [afill, mcells, cellsOf_new, apart, w1, w2]
  refine (within_ok [0, a, 2, 0, k, s - 1, 0, i, wide d p s - 1] 3 _ _ rfl (cellsOf_new _ _ _ _) (by omega)).mono ?_
  rintro v1 h1 ⟨rfl, e⟩
  subst e
  by_cases hx : 0 ≤ a ∧ a ≤ 2 ∧ 0 ≤ k ∧ k ≤ s - 1 ∧ 0 ≤ i ∧ i ≤ wide d p s - 1
  case neg =>
    have hwf : within [0, a, 2, 0, k, s - 1, 0, i, wide d p s - 1] = false := by simp [within]; omega
    simp [hwf, aun, sectorR, hx, hr]
    exact hext.push hcl _
  have hwt : within [0, a, 2, 0, k, s - 1, 0, i, wide d p s - 1] = true := by simp [within]; omega
  simp [hwt, aun, cellsOf_ne, cellsOf_new, apart, acut]
  refine (slot_ok d p s _).mono ?_
  rintro v1 h1 ⟨rfl, e⟩
  subst e
  simp [cellsOf_ne, cellsOf_new, apart]
  refine ⟨?_, hext.push hcl _⟩
  have m1 := mulb (a := a) (b := slot d p s) (m := 2) (n := 112) (by omega) (by omega) (by omega) (by omega)
  have m2 := mulb (a := i) (b := s) (m := 14) (n := 8) (by omega) (by omega) (by omega) (by omega)
  unfold sectorR
  rw [if_neg (by rw [hr]; decide), if_pos hx, i64_sg (n := a * slot d p s) (by omega) (by omega), i64_sg (n := i * s) (by omega) (by omega), i64_sg (n := a * slot d p s + i * s) (by omega) (by omega), i64_sg (by omega) (by omega)]
theorem refRight_ok (d p s : Int) (h : Heap) : ACalls Try.prog 26 [gv d p s] h fun v h' => v = .bool (right d p s) ∧ h' = h := by
  refine ACalls.same .bool (acalls_of mix Try.func26 k26 n26 (by simp) fun hcl hb => ?_)
  have hext := (Heap.Ext.refl h).push hcl (.cells [.int .i64 d, .int .i64 p, .int .i64 s] .ex 1)
  simp [c26, gv, mcells, cellsOf_new, apart]
  by_cases h1 : 1 ≤ d
  case neg => simp [h1, right]; exact hext
  by_cases h2 : d ≤ 8
  case neg => simp [h1, h2, right, cellsOf_new, apart]; exact hext
  by_cases h3 : 2 ≤ p
  case neg => simp [h1, h2, h3, right, cellsOf_new, apart]; exact hext
  by_cases h4 : p ≤ 6
  case neg => simp [h1, h2, h3, h4, right, cellsOf_new, apart]; exact hext
  by_cases h5 : 1 ≤ s
  case neg => simp [h1, h2, h3, h4, h5, right, cellsOf_new, apart]; exact hext
  simp [h1, h2, h3, h4, h5, right, cellsOf_new, apart]
  exact hext
theorem set_push (h : Heap) (o o' : AObj) : (h.push o).set h.n o' = h.push o' := by
  unfold Heap.set Heap.push
  congr 1
  funext b
  by_cases hb : b = h.n
  · simp [hb]
  · simp [hb]
theorem gawake_ok (h : Heap) : ACalls Try.prog 25 [] h fun v h' => v = .bool true ∧ h' = h := by
  refine ACalls.same .bool (acalls_of mix Try.func25 k25 n25 (by simp) fun hcl hb => ?_)
  have hext := (Heap.Ext.refl h).push hcl (.cells [.int .i64 2, .int .i64 2, .int .i64 3] .ex 1)
  simp [c25, afill, mcells, cellsOf_new, apart, aput, set_push, acut]
  refine (sector_ok 2 2 3 1 2 1 _).mono ?_
  rintro v1 h1 ⟨rfl, e⟩
  subst e
  have hs : sectorR 2 2 3 1 2 1 = .tuple #[cI 17, cI 0] := by rfl
  rw [hs]
  simp [cellsOf_new, apart, acut]
  refine (rightG_ok 2 2 3 _).mono ?_
  rintro v1 h1 ⟨rfl, e⟩
  subst e
  have hr : right 2 2 3 = true := by rfl
  rw [hr]
  simp [cellsOf_new, apart, acut]
  refine (slot_ok 2 2 3 _).mono ?_
  rintro v1 h1 ⟨rfl, e⟩
  subst e
  have hr : slot 2 2 3 = 12 := by rfl
  rw [hr]
  simp
  exact hext
/-! maps whose keys are pairs of numbers -/
def k2 (x : Int × Int) : Value := .agg #[cI x.1, cI x.2]
def kd2 : KD := ⟨true, [.i, .i]⟩
theorem same2 (x y : Int × Int) : sameKey kd2 (k2 x) (k2 y) = some (decide (x = y)) := by
  obtain ⟨a, b⟩ := x
  obtain ⟨c, d⟩ := y
  simp [sameKey, kd2, k2, aeqL, aeqC]
theorem ok2 (x : Int × Int) : okKey kd2 (k2 x) = true := by simp [okKey, same2]
theorem find2 (x : Int × Int) : ∀ (es : List MEnt) (l : List (Int × Int)) (n : Nat), es.map (·.key) = l.map k2 → x ∉ l → afind kd2 (k2 x) es n = some none
  | [], _, _, _, _ => rfl
  | e :: es, [], _, h, _ => by simp at h
  | e :: es, y :: l, n, h, hx => by
    simp only [List.map_cons, List.cons.injEq] at h
    have hne : ¬ x = y := fun q => hx (by simp [q])
    simp only [afind, h.1, same2, hne, decide_false]
    exact find2 x es l (n + 1) h.2 fun q => hx (by simp [q])

/-- slot and stripe of a sector -/
def pairOf (d p s x : Int) : Int × Int := (x / slot d p s, x % slot d p s % s)
theorem pair_ne {d p s : Int} (hr : right d p s = true) {x y : Int} (hx : 0 ≤ x) (h1 : x < y) (h2 : y < x + s) : pairOf d p s y ≠ pairOf d p s x := by
  intro e
  unfold pairOf at e
  simp only [Prod.mk.injEq] at e
  obtain ⟨e1, e2⟩ := e
  have hsr := slot_right hr
  have hp := right_prop.1 hr
  have hm : slot d p s % s = 0 := by rw [hsr.1]; exact Int.mul_emod_left _ _
  have hs0 : 0 < slot d p s := by omega
  have dx := Int.mul_ediv_add_emod x (slot d p s)
  have dy := Int.mul_ediv_add_emod y (slot d p s)
  rw [e1] at dy
  have e3 : (y - x) % s = 0 := by
    have : y - x = y % slot d p s - x % slot d p s := by omega
    rw [this]
    exact Int.emod_eq_zero_of_dvd (Int.dvd_of_emod_eq_zero (by rw [Int.sub_emod, e2, Int.sub_self, Int.zero_emod]))
  rw [Int.emod_eq_of_lt (by omega) (by omega)] at e3
  omega
theorem spreadG_ok (d p s from_ : Int) (h : Heap) : ACalls Try.prog 4 [gv d p s, .int .i64 from_] h fun v _ => v = .bool true := by
  refine acalls_of mix Try.func4 k4 n4 (by simp) fun hcl hb => ?_
  have hboxc : (h.push (.cells [.int .i64 d, .int .i64 p, .int .i64 s] .ex 1)).Closed := closed_push hcl (by intro x hx; simp at hx; rcases hx with rfl | rfl | rfl <;> exact .int)
  simp [c4, gv, mcells]
  refine (gawake_ok _).mono ?_
  rintro v1 h1 ⟨rfl, e⟩
  subst e
  simp [aun, cellsOf_new, apart, acut]
  refine (refRight_ok d p s _).mono ?_
  rintro v1 h1 ⟨rfl, e⟩
  subst e
  by_cases hr : right d p s = true
  case neg =>
    have hr' : right d p s = false := by simpa using hr
    simp [hr', aun, cellsOf_new, apart]
  by_cases hf : from_ < 0
  · simp [hr, hf, aun, cellsOf_new, apart]
  have hp := right_prop.1 hr
  have hsb := slot_bound (d := d) (p := p) (s := s)
  have hsr := slot_right hr
  simp [hr, hf, aun, cellsOf_new, apart, acut]
  refine (slot_ok d p s _).mono ?_
  rintro v1 h1 ⟨rfl, e⟩
  subst e
  simp [hf, cellsOf_new, apart, acut]
  refine (slot_ok d p s _).mono ?_
  rintro v1 h1 ⟨rfl, e⟩
  subst e
  have w1 : IntKind.i64.wrap (2 * slot d p s) = 2 * slot d p s := i64_sg (by omega) (by omega)
  have w2 : IntKind.i64.wrap (2 * slot d p s + slot d p s) = 2 * slot d p s + slot d p s := i64_sg (by omega) (by omega)
  have w3 : IntKind.i64.wrap (2 * slot d p s + slot d p s - s) = 2 * slot d p s + slot d p s - s := i64_sg (by omega) (by omega)
  by_cases hbig : 2 * slot d p s + slot d p s - s < from_
  · simp [w1, w2, w3, hbig, cellsOf_new, apart]
  simp [w1, w2, w3, hbig, cellsOf_new, apart]
  generalize hB : h.push (.cells [.int .i64 d, .int .i64 p, .int .i64 s] .ex 1) = HB at *
  have hBn : HB.n = h.n + 1 := by rw [← hB]; rfl
  have hBc : HB.cellsOf h.n = some ([.int .i64 d, .int .i64 p, .int .i64 s], .ex, 1) := by rw [← hB]; exact cellsOf_new _ _ _ _
  refine awp_loop_of (α := Nat × List MEnt × Nat) (fun x => x.1 ≤ s ∧ x.2.1.map (·.key) = ((List.range x.1).map fun j => k2 (pairOf d p s (from_ + (j : Nat)))) ∧ ∀ e ∈ x.2.1, VBelow 0 e.key ∧ VBelow 0 e.val)
    (fun x => [(1, .int .i64 from_), (2, .pointer (some ⟨h.n, 0, none⟩)), (5, .map (some HB.n)), (6, .int .i64 (from_ + x.1))]) (fun x => HB.push (.map x.2.1 x.2.2)) (fun x => s.toNat - x.1) (0, [], 0)
    ⟨by show (0 : Int) ≤ s; omega, rfl, fun e he => by cases he⟩ ⟨by show h.n ≤ HB.n + 1; omega, Nat.le_refl _, fun _ _ e => e, closed_push hboxc (fun e he => by cases he)⟩
    (by simp; exact ⟨.int, .ptr (by show h.n < HB.n + 1; omega), ⟨hBn.symm, .map (Nat.lt_succ_self _)⟩, .int⟩) ?_
  rintro ⟨i, es, cl⟩ ⟨hi, hkeys, hvals⟩
  dsimp only at hi hkeys hvals
  have hne : ¬ h.n = HB.n := by omega
  have w4 : IntKind.i64.wrap (from_ + s) = from_ + s := i64_sg (by omega) (by omega)
  by_cases hlt : (i : Int) < s
  · have hlt' : from_ + (i : Int) < from_ + s := by omega
    simp [cellsOf_ne, hne, hBc, apart, w4, hlt, acut]
    refine (of_ok d p s _ _).mono ?_
    rintro v1 h1 ⟨rfl, e⟩
    subst e
    have hR : ofR d p s (from_ + i) = .tuple #[cI (pairOf d p s (from_ + i)).1, cI (pairOf d p s (from_ + i)).2, cI ((from_ + i) % slot d p s / s), .bool true] := by
      unfold ofR
      rw [if_pos ⟨hr, by omega, by omega⟩]
      rfl
    rw [hR]
    have hok : okKey ⟨true, [.i, .i]⟩ (.agg #[cI (pairOf d p s (from_ + i)).1, cI (pairOf d p s (from_ + i)).2]) = true := ok2 (pairOf d p s (from_ + i))
    have hfind : afind ⟨true, [.i, .i]⟩ (.agg #[cI (pairOf d p s (from_ + i)).1, cI (pairOf d p s (from_ + i)).2]) es 0 = some none := by
      refine find2 (pairOf d p s (from_ + i)) es ((List.range i).map fun j => pairOf d p s (from_ + (j : Nat))) 0 (by rw [hkeys, List.map_map]; rfl) ?_
      intro hm
      obtain ⟨j, hj, e⟩ := List.mem_map.1 hm
      rw [List.mem_range] at hj
      exact pair_ne hr (x := from_ + (j : Nat)) (y := from_ + i) (by omega) (by omega) (by omega) e.symm
    generalize hpr : pairOf d p s (from_ + (i : Int)) = pr at *
    simp [aun, afill, mcells, push_m, hok, hfind, set_push]
    have hk2 : VBelow 0 (k2 pr) := .agg fun i hi => by
      match i, hi with
      | 0, _ => exact .int
      | 1, _ => exact .int
    have hv2 : ∀ e ∈ es ++ [(⟨k2 pr, .bool true, cl⟩ : MEnt)], VBelow 0 e.key ∧ VBelow 0 e.val := fun e he => by
      rcases List.mem_append.1 he with he | he
      · exact hvals e he
      · rw [List.mem_singleton.1 he]; exact ⟨hk2, .bool⟩
    refine ⟨i + 1, by omega, es ++ [⟨k2 pr, .bool true, cl⟩], ⟨by omega, ?_, hv2⟩, ⟨cl + 1, ⟨by show h.n ≤ HB.n + 1; omega, Nat.le_refl _, fun _ _ e => e, closed_push hboxc fun e he => ⟨(hv2 e he).1.mono (Nat.zero_le _), (hv2 e he).2.mono (Nat.zero_le _)⟩⟩⟩,
      .int, .ptr (by show h.n < HB.n + 1; omega), .map (Nat.lt_succ_self _), ?_, .int⟩
    · rw [List.map_append, hkeys, List.range_succ, List.map_append]
      simp [hpr]
    · rw [i64_sg (by omega) (by omega)]; omega
  · have : ¬ from_ + (i : Int) < from_ + s := by omega
    simp [cellsOf_ne, hne, hBc, apart, w4, hlt]
/-! maps whose keys are numbers -/
structure MapIs (es : List MEnt) (L : List Int) : Prop where
  keys : es.map (·.key) = L.map cI
  vals : ∀ e ∈ es, e.val = .bool true
theorem MapIs.start : MapIs [] [] := ⟨rfl, fun e he => by cases he⟩
theorem MapIs.add {es : List MEnt} {L : List Int} (m : MapIs es L) (n : Int) (cl : Nat) : MapIs (es ++ [⟨cI n, .bool true, cl⟩]) (L ++ [n]) :=
  ⟨by simp [m.keys], fun e he => by
    rcases List.mem_append.1 he with he | he
    · exact m.vals e he
    · rw [List.mem_singleton.1 he]⟩
theorem MapIs.below {es : List MEnt} {L : List Int} (m : MapIs es L) (n cl : Nat) : AObj.Below n (.map es cl) := fun e he => by
  refine ⟨?_, by rw [m.vals e he]; exact .bool⟩
  have : e.key ∈ L.map cI := by rw [← m.keys]; exact List.mem_map.2 ⟨e, he, rfl⟩
  obtain ⟨x, _, hx⟩ := List.mem_map.1 this
  rw [← hx]; exact .int
theorem MapIs.len {es : List MEnt} {L : List Int} (m : MapIs es L) : es.length = L.length := by
  have := congrArg List.length m.keys
  simpa using this
theorem ok1 (x : Int) : okKey ⟨false, [.i]⟩ (.int .i64 x) = true := by simp [okKey, sameKey, aeqC]
theorem find1 (x : Int) : ∀ (es : List MEnt) (L : List Int) (n : Nat), es.map (·.key) = L.map cI → x ∉ L → afind ⟨false, [.i]⟩ (.int .i64 x) es n = some none
  | [], _, _, _, _ => rfl
  | e :: es, [], _, h, _ => by simp at h
  | e :: es, y :: l, n, h, hx => by
    simp only [List.map_cons, List.cons.injEq] at h
    have hne : ¬ x = y := fun q => hx (by simp [q])
    simp only [afind, h.1, sameKey, aeqC, hne, decide_false, if_true, if_neg, Bool.false_eq_true, if_false]
    exact find1 x es l (n + 1) h.2 fun q => hx (by simp [q])
theorem MapIs.none {es : List MEnt} {L : List Int} (m : MapIs es L) {x : Int} (h : x ∉ L) : afind ⟨false, [.i]⟩ (.int .i64 x) es 0 = some none := find1 x es L 0 m.keys h
theorem find1_some (x : Int) : ∀ (es : List MEnt) (L : List Int) (n : Nat), es.map (·.key) = L.map cI → x ∈ L → ∃ j e, afind ⟨false, [.i]⟩ (.int .i64 x) es n = some (some (n + j)) ∧ es[j]? = some e ∧ e ∈ es
  | [], [], _, _, hx => by cases hx
  | [], y :: l, _, h, _ => by simp at h
  | e :: es, [], _, h, _ => by simp at h
  | e :: es, y :: l, n, h, hx => by
    simp only [List.map_cons, List.cons.injEq] at h
    by_cases hxy : x = y
    · exact ⟨0, e, by simp only [afind, h.1, sameKey, aeqC, hxy, decide_true, if_true, Bool.false_eq_true, if_false]; simp, by simp, by simp⟩
    · obtain ⟨j, e', h1, h2, h3⟩ := find1_some x es l (n + 1) h.2 (by rcases List.mem_cons.1 hx with q | q; exact absurd q hxy; exact q)
      refine ⟨j + 1, e', ?_, by simpa using h2, by simp [h3]⟩
      simp only [afind, h.1, sameKey, aeqC, hxy, decide_false, if_true, Bool.false_eq_true, if_false, h1]
      congr 2; omega
theorem MapIs.some {es : List MEnt} {L : List Int} (m : MapIs es L) {x : Int} (h : x ∈ L) : ∃ j e, afind ⟨false, [.i]⟩ (.int .i64 x) es 0 = some (some j) ∧ es[j]? = some e ∧ e.val = .bool true := by
  obtain ⟨j, e, h1, h2, h3⟩ := find1_some x es L 0 m.keys h
  exact ⟨j, e, by simpa using h1, h2, m.vals e h3⟩

theorem nodup_le : ∀ {l m : List Int}, l.Nodup → (∀ x ∈ l, x ∈ m) → l.length ≤ m.length
  | [], _, _, _ => Nat.zero_le _
  | x :: l, m, hn, hs => by
    have hx := hs x (by simp)
    have h1 := List.nodup_cons.1 hn
    have := nodup_le (l := l) (m := m.erase x) h1.2 fun y hy => (List.mem_erase_of_ne (fun e => h1.1 (by rw [← e]; exact hy))).2 (hs y (by simp [hy]))
    rw [List.length_erase_of_mem hx] at this
    have := List.length_pos_of_mem hx
    simp only [List.length_cons]
    omega
theorem full {L : List Int} {n : Nat} (hn : L.Nodup) (hs : ∀ x ∈ L, 0 ≤ x ∧ x < n) (hl : L.length = n) {x : Int} (h0 : 0 ≤ x) (h1 : x < n) : x ∈ L := by
  apply Classical.byContradiction
  intro hx
  have := nodup_le (l := x :: L) (m := (List.range n).map fun (i : Nat) => (i : Int)) (List.nodup_cons.2 ⟨hx, hn⟩) fun y hy => by
    have hy2 : 0 ≤ y ∧ y < n := by
      rcases List.mem_cons.1 hy with rfl | hy
      · exact ⟨h0, h1⟩
      · exact hs y hy
    exact List.mem_map.2 ⟨y.toNat, List.mem_range.2 (by omega), by omega⟩
  simp at this
  omega
theorem nodup_add {L : List Int} (hn : L.Nodup) {x : Int} (h : x ∉ L) : (L ++ [x]).Nodup := by
  rw [List.nodup_append]
  exact ⟨hn, by simp, fun a ha b hb e => by rw [List.mem_singleton.1 hb] at e; exact h (e ▸ ha)⟩

theorem sec_code {d p s a k i : Int} (hr : right d p s = true) (ha : 0 ≤ a ∧ a ≤ 2) (hk : 0 ≤ k ∧ k < s) (hi : 0 ≤ i ∧ i < d + p) :
    (a * slot d p s + i * s + k) / slot d p s = a ∧ (a * slot d p s + i * s + k) % slot d p s % s = k ∧ (a * slot d p s + i * s + k) % slot d p s / s = i ∧ 0 ≤ a * slot d p s + i * s + k ∧ a * slot d p s + i * s + k < 3 * slot d p s := by
  have hsr := slot_right hr
  have hp := right_prop.1 hr
  have hm0 : 0 ≤ i * s := Int.mul_nonneg (by omega) (by omega)
  have hm1 : i * s + s ≤ (d + p) * s := by
    have : (i + 1) * s ≤ (d + p) * s := Int.mul_le_mul_of_nonneg_right (by omega) (by omega)
    rw [Int.add_mul, Int.one_mul] at this
    exact this
  rw [← hsr.1] at hm1
  have hS : 0 < slot d p s := by omega
  have e0 : a * slot d p s + i * s + k = (i * s + k) + a * slot d p s := by omega
  have hlt : i * s + k < slot d p s := by omega
  have ha2 : a * slot d p s ≤ 2 * slot d p s := Int.mul_le_mul_of_nonneg_right ha.2 (by omega)
  have ha0 : 0 ≤ a * slot d p s := Int.mul_nonneg ha.1 (by omega)
  refine ⟨?_, ?_, ?_, by omega, by omega⟩
  · rw [e0, Int.add_mul_ediv_right _ _ (by omega), Int.ediv_eq_zero_of_lt (by omega) hlt]; omega
  · rw [e0, Int.add_mul_emod_self_right, Int.emod_eq_of_lt (by omega) hlt, Int.add_comm, Int.add_mul_emod_self_right, Int.emod_eq_of_lt hk.1 hk.2]
  · rw [e0, Int.add_mul_emod_self_right, Int.emod_eq_of_lt (by omega) hlt, Int.add_comm, Int.add_mul_ediv_right _ _ (by omega), Int.ediv_eq_zero_of_lt hk.1 hk.2]; omega
/-- it stands ahead of slot a's stripe k's sector i -/
def Ahead (d p s : Int) (a k i : Int) (x : Int) : Prop :=
  0 ≤ x ∧ x < 3 * slot d p s ∧ (x / slot d p s < a ∨ (x / slot d p s = a ∧ (x % slot d p s % s < k ∨ (x % slot d p s % s = k ∧ x % slot d p s / s < i))))
theorem ahead_end {d p s a k x : Int} (hr : right d p s = true) (h : Ahead d p s a k (d + p) x) : Ahead d p s a (k + 1) 0 x := by
  obtain ⟨h1, h2, h3⟩ := h
  exact ⟨h1, h2, by omega⟩
theorem ahead_slot {d p s a x : Int} (hr : right d p s = true) (h : Ahead d p s a s 0 x) : Ahead d p s (a + 1) 0 0 x := by
  obtain ⟨h1, h2, h3⟩ := h
  have hp := right_prop.1 hr
  have hsr := slot_right hr
  exact ⟨h1, h2, by omega⟩
theorem ahead_i {d p s a k i x : Int} (h : Ahead d p s a k i x) : Ahead d p s a k (i + 1) x := ⟨h.1, h.2.1, by have := h.2.2; omega⟩
theorem ahead_new {d p s a k i : Int} (hr : right d p s = true) (ha : 0 ≤ a ∧ a ≤ 2) (hk : 0 ≤ k ∧ k < s) (hi : 0 ≤ i ∧ i < d + p) :
    ¬ Ahead d p s a k i (a * slot d p s + i * s + k) ∧ Ahead d p s a k (i + 1) (a * slot d p s + i * s + k) := by
  obtain ⟨e1, e2, e3, e4, e5⟩ := sec_code hr ha hk hi
  unfold Ahead
  rw [e1, e2, e3]
  exact ⟨fun h => by omega, by omega⟩
theorem apart_ok (x y z : Int) (h : Heap) (hx : 0 ≤ x ∧ x < 256) (hy : 0 ≤ y ∧ y < 256) (hz : 0 ≤ z ∧ z < 256) : ACalls Try.prog 7 [.int .u8 x, .int .u8 y, .int .u8 z] h fun v _ => v = .bool true := by
  refine acalls_of mix Try.func7 k7 n7 (by simp) fun hcl hb => ?_
  simp [c7]
  refine (gawake_ok _).mono ?_
  rintro v1 h1 ⟨rfl, e⟩
  subst e
  have t1 : IntKind.i64.wrap (1 + (IntKind.i64.wrap x).tmod 8) = 1 + x % 8 := by
    rw [i64_sg (n := x) (by omega) (by omega), tmod_pos hx.1, i64_sg (by omega) (by omega)]
  have t2 : IntKind.i64.wrap (2 + (IntKind.i64.wrap y).tmod 5) = 2 + y % 5 := by
    rw [i64_sg (n := y) (by omega) (by omega), tmod_pos hy.1, i64_sg (by omega) (by omega)]
  have t3 : IntKind.i64.wrap (1 + (IntKind.i64.wrap z).tmod 8) = 1 + z % 8 := by
    rw [i64_sg (n := z) (by omega) (by omega), tmod_pos hz.1, i64_sg (by omega) (by omega)]
  have hr : right (1 + x % 8) (2 + y % 5) (1 + z % 8) = true := right_prop.2 (by omega)
  simp [aun, t1, t2, t3, afill, mcells, cellsOf_new, aput, set_push]
  generalize 1 + x % 8 = d at *
  generalize 2 + y % 5 = p at *
  generalize 1 + z % 8 = s at *
  clear hx hy hz t1 t2 t3
  have hp := right_prop.1 hr
  have hsb := slot_bound (d := d) (p := p) (s := s)
  have hsr := slot_right hr
  have hw : wide d p s = d + p := by unfold wide; rw [if_pos hr]
  have hboxc : (h1.push (.cells [.int .i64 d, .int .i64 p, .int .i64 s] .ex 1)).Closed := closed_push hcl (by intro x hx; simp at hx; rcases hx with rfl | rfl | rfl <;> exact .int)
  generalize hB : h1.push (.cells [.int .i64 d, .int .i64 p, .int .i64 s] .ex 1) = HB at *
  have hBn : HB.n = h1.n + 1 := by rw [← hB]; rfl
  have hBc : HB.cellsOf h1.n = some ([.int .i64 d, .int .i64 p, .int .i64 s], .ex, 1) := by rw [← hB]; exact cellsOf_new _ _ _ _
  have hne : ¬ h1.n = HB.n := by omega
  have hmc : ∀ {es L} (cl : Nat), MapIs es L → (HB.push (.map es cl)).Closed := fun cl m => closed_push hboxc (m.below _ _)
  have hsub : ∀ {es L} (cl : Nat), MapIs es L → (HB.push (.map es cl)).Sub h1.n (HB.push (.map es cl)) := fun cl m => ⟨by show h1.n ≤ HB.n + 1; omega, Nat.le_refl _, fun _ _ e => e, hmc cl m⟩
  have bp : VBelow (HB.n + 1) (.pointer (some ⟨h1.n, 0, none⟩)) := .ptr (by show h1.n < HB.n + 1; omega)
  have bm : VBelow (HB.n + 1) (.map (some HB.n)) := .map (Nat.lt_succ_self _)
  refine awp_loop_of (α := Nat × List MEnt × Nat × List Int) (fun x => x.1 ≤ 3 ∧ MapIs x.2.1 x.2.2.2 ∧ x.2.2.2.Nodup ∧ (x.2.2.2.length : Int) = x.1 * slot d p s ∧ ∀ y ∈ x.2.2.2, Ahead d p s x.1 0 0 y)
    (fun x => [(7, .pointer (some ⟨h1.n, 0, none⟩)), (8, .map (some HB.n)), (9, .int .i64 x.1)]) (fun x => HB.push (.map x.2.1 x.2.2.1)) (fun x => 3 - x.1) (0, [], 0, [])
    ⟨by show 0 ≤ 3; omega, .start, .nil, by simp, fun y hy => by cases hy⟩ (hsub 0 .start) (by simp; exact ⟨bp, ⟨hBn.symm, bm⟩, .int⟩) ?_
  rintro ⟨a, es, cl, L⟩ ⟨ha, hM, hN, hL, hA⟩
  dsimp only at ha hM hN hL hA
  by_cases ha3 : a < 3
  · have ha3' : (a : Int) < 3 := by omega
    simp [ha3']
    refine awp_loop_of (α := Nat × List MEnt × Nat × List Int) (fun x => x.1 ≤ s ∧ MapIs x.2.1 x.2.2.2 ∧ x.2.2.2.Nodup ∧ (x.2.2.2.length : Int) = a * slot d p s + x.1 * (d + p) ∧ ∀ y ∈ x.2.2.2, Ahead d p s a x.1 0 y)
      (fun x => [(7, .pointer (some ⟨h1.n, 0, none⟩)), (8, .map (some HB.n)), (9, .int .i64 a), (10, .int .i64 x.1)]) (fun x => HB.push (.map x.2.1 x.2.2.1)) (fun x => s.toNat - x.1) (0, es, cl, L)
      ⟨by show (0 : Int) ≤ s; omega, hM, hN, by simpa using hL, by simpa using hA⟩ (hsub cl hM) (by simp; exact ⟨bp, bm, .int, .int⟩) ?_
    rintro ⟨k, es, cl, L⟩ ⟨hk, hM, hN, hL, hA⟩
    dsimp only at hk hM hN hL hA
    simp [cellsOf_ne, hne, hBc, apart]
    by_cases hks : (k : Int) < s
    · simp [hks]
      refine awp_loop_of (α := Nat × List MEnt × Nat × List Int) (fun x => x.1 ≤ d + p ∧ MapIs x.2.1 x.2.2.2 ∧ x.2.2.2.Nodup ∧ (x.2.2.2.length : Int) = a * slot d p s + k * (d + p) + x.1 ∧ ∀ y ∈ x.2.2.2, Ahead d p s a k x.1 y)
        (fun x => [(7, .pointer (some ⟨h1.n, 0, none⟩)), (8, .map (some HB.n)), (9, .int .i64 a), (10, .int .i64 k), (11, .int .i64 x.1)]) (fun x => HB.push (.map x.2.1 x.2.2.1)) (fun x => (d + p).toNat - x.1) (0, es, cl, L)
        ⟨by show (0 : Int) ≤ d + p; omega, hM, hN, by simpa using hL, by simpa using hA⟩ (hsub cl hM) (by simp; exact ⟨bp, bm, .int, .int, .int⟩) ?_
      rintro ⟨i, es, cl, L⟩ ⟨hi, hM, hN, hL, hA⟩
      dsimp only at hi hM hN hL hA
      simp [cellsOf_ne, hne, hBc, apart, acut]
      refine (wide_ok d p s _).mono ?_
      rintro v1 h2 ⟨rfl, e⟩
      subst e
      rw [hw]
      by_cases hiw : (i : Int) < d + p
      · simp [hiw, cellsOf_ne, hne, hBc, apart, acut]
        refine (sector_ok d p s a k i _).mono ?_
        rintro v1 h2 ⟨rfl, e⟩
        subst e
        have hs : sectorR d p s a k i = .tuple #[cI (a * slot d p s + i * s + k), cI 0] := by
          unfold sectorR
          rw [if_neg (by rw [hr]; decide), if_pos (by rw [hw]; omega)]
        rw [hs]
        obtain ⟨e1, e2, e3, e4, e5⟩ := sec_code hr (a := a) (k := k) (i := i) (by omega) (by omega) (by omega)
        obtain ⟨hnew, hnew'⟩ := ahead_new hr (a := a) (k := k) (i := i) (by omega) (by omega) (by omega)
        have hR : ofR d p s (a * slot d p s + i * s + k) = .tuple #[cI a, cI k, cI i, .bool true] := by
          unfold ofR
          rw [if_pos ⟨hr, e4, by omega⟩, e1, e2, e3]
        generalize hn : (a : Int) * slot d p s + i * s + k = n at *
        simp [cellsOf_ne, hne, hBc, apart, acut]
        refine (of_ok d p s _ _).mono ?_
        rintro v1 h2 ⟨rfl, e⟩
        subst e
        rw [hR]
        have hnL : n ∉ L := fun q => hnew (hA n q)
        simp [aun, push_m, ok1, hM.none hnL, set_push]
        have hM' := hM.add n cl
        refine ⟨i + 1, by omega, es ++ [⟨cI n, .bool true, cl⟩], ⟨by omega, L ++ [n], hM', nodup_add hN hnL, ?_, ?_⟩, ⟨cl + 1, hsub (cl + 1) hM'⟩, bp, bm, .int, .int, ?_, .int⟩
        · simp; omega
        · intro y hy
          rcases List.mem_append.1 hy with hy | hy
          · exact ahead_i (hA y hy)
          · rw [List.mem_singleton.1 hy]; exact hnew'
        · rw [i64_sg (by omega) (by omega)]; omega
      · have hie : (i : Int) = d + p := by omega
        simp [hiw]
        refine ⟨k + 1, by omega, es, ⟨by omega, L, hM, hN, ?_, fun y hy => ?_⟩, ⟨cl, hsub cl hM⟩, bp, bm, .int, ?_, .int⟩
        · rw [Int.natCast_add, Int.add_mul]; simp; omega
        · have := hA y hy
          rw [hie] at this
          exact ahead_end hr this
        · rw [i64_sg (by omega) (by omega)]; omega
    · have hke : (k : Int) = s := by omega
      simp [hks]
      refine ⟨a + 1, by omega, es, ⟨by omega, L, hM, hN, ?_, fun y hy => ?_⟩, ⟨cl, hsub cl hM⟩, bp, bm, ?_, .int⟩
      · rw [Int.natCast_add, Int.add_mul]
        have : (k : Int) * (d + p) = slot d p s := by rw [hke, hsr.1, Int.mul_comm]
        simp; omega
      · have := hA y hy
        rw [hke] at this
        exact ahead_slot hr this
      · rw [i64_sg (by omega) (by omega)]; omega
  · have hae : a = 3 := by omega
    subst hae
    simp
    have hAll : allS d p s = 3 * slot d p s + 18 := by unfold allS; rw [if_pos hr]
    have hL3 : (L.length : Int) = 3 * slot d p s := hL
    have hA3 : ∀ y ∈ L, 0 ≤ y ∧ y < 3 * slot d p s := fun y hy => ⟨(hA y hy).1, (hA y hy).2.1⟩
    clear hA hL
    refine awp_loop_of (α := Nat × List MEnt × Nat × List Int) (fun x => x.1 ≤ 2 ∧ MapIs x.2.1 x.2.2.2 ∧ x.2.2.2.Nodup ∧ (x.2.2.2.length : Int) = 3 * slot d p s + 9 * x.1 ∧ ∀ y ∈ x.2.2.2, 0 ≤ y ∧ (y < 3 * slot d p s + 8 * x.1 ∨ (3 * slot d p s + 16 ≤ y ∧ y < 3 * slot d p s + 16 + x.1)))
      (fun x => [(7, .pointer (some ⟨h1.n, 0, none⟩)), (8, .map (some HB.n)), (18, .int .i64 x.1)]) (fun x => HB.push (.map x.2.1 x.2.2.1)) (fun x => 2 - x.1) (0, es, cl, L)
      ⟨by show 0 ≤ 2; omega, hM, hN, by simpa using hL3, fun y hy => ⟨(hA3 y hy).1, .inl (by simpa using (hA3 y hy).2)⟩⟩ (hsub cl hM) (by simp; exact ⟨bp, bm, .int⟩) ?_
    clear hA3 hL3 hM hN
    rintro ⟨a, es, cl, L⟩ ⟨ha, hM, hN, hL, hA⟩
    dsimp only at ha hM hN hL hA
    by_cases ha2 : a < 2
    · have ha2' : (a : Int) < 2 := by omega
      simp [ha2']
      refine awp_loop_of (α := Nat × List MEnt × Nat × List Int) (fun x => x.1 ≤ 2 ∧ MapIs x.2.1 x.2.2.2 ∧ x.2.2.2.Nodup ∧ (x.2.2.2.length : Int) = 3 * slot d p s + 9 * a + 4 * x.1 ∧ ∀ y ∈ x.2.2.2, 0 ≤ y ∧ (y < 3 * slot d p s + 8 * a + 4 * x.1 ∨ (3 * slot d p s + 16 ≤ y ∧ y < 3 * slot d p s + 16 + a)))
        (fun x => [(7, .pointer (some ⟨h1.n, 0, none⟩)), (8, .map (some HB.n)), (18, .int .i64 a), (19, .int .i64 x.1)]) (fun x => HB.push (.map x.2.1 x.2.2.1)) (fun x => 2 - x.1) (0, es, cl, L)
        ⟨by show 0 ≤ 2; omega, hM, hN, by simpa using hL, by simpa using hA⟩ (hsub cl hM) (by simp; exact ⟨bp, bm, .int, .int⟩) ?_
      clear hA hL hM hN
      rintro ⟨c, es, cl, L⟩ ⟨hc, hM, hN, hL, hA⟩
      dsimp only at hc hM hN hL hA
      by_cases hc2 : c < 2
      · have hc2' : (c : Int) < 2 := by omega
        simp [hc2', cellsOf_ne, hne, hBc, apart, acut]
        refine (half_ok d p s a c _).mono ?_
        rintro v1 h2 ⟨rfl, e⟩
        subst e
        have hs : halfR d p s a c = .tuple #[cI (3 * slot d p s + (a * 2 + c) * 4), cI 0] := by
          unfold halfR
          rw [if_neg (by rw [hr]; decide), if_pos (by omega)]
        rw [hs]
        have hn0 : 3 * slot d p s + (a * 2 + c : Int) * 4 = 3 * slot d p s + 8 * a + 4 * c := by omega
        rw [hn0]
        simp
        refine awp_loop_of (α := Nat × List MEnt × Nat × List Int) (fun x => x.1 ≤ 4 ∧ MapIs x.2.1 x.2.2.2 ∧ x.2.2.2.Nodup ∧ (x.2.2.2.length : Int) = 3 * slot d p s + 9 * a + 4 * c + x.1 ∧ ∀ y ∈ x.2.2.2, 0 ≤ y ∧ (y < 3 * slot d p s + 8 * a + 4 * c + x.1 ∨ (3 * slot d p s + 16 ≤ y ∧ y < 3 * slot d p s + 16 + a)))
          (fun x => [(7, .pointer (some ⟨h1.n, 0, none⟩)), (8, .map (some HB.n)), (18, .int .i64 a), (19, .int .i64 c), (20, .int .i64 (3 * slot d p s + 8 * a + 4 * c)), (21, .int .i64 0), (22, .int .i64 x.1)]) (fun x => HB.push (.map x.2.1 x.2.2.1)) (fun x => 4 - x.1) (0, es, cl, L)
          ⟨by show 0 ≤ 4; omega, hM, hN, by simpa using hL, by simpa using hA⟩ (hsub cl hM) (by simp; exact ⟨bp, bm, .int, .int, .int, .int⟩) ?_
        clear hA hL hM hN
        rintro ⟨i, es, cl, L⟩ ⟨hi, hM, hN, hL, hA⟩
        dsimp only at hi hM hN hL hA
        by_cases hi4 : i < 4
        · have hi4' : (i : Int) < 4 := by omega
          have hwn : IntKind.i64.wrap (3 * slot d p s + 8 * a + 4 * c + i) = 3 * slot d p s + 8 * a + 4 * c + i := i64_sg (by omega) (by omega)
          have hnL : 3 * slot d p s + 8 * (a : Int) + 4 * (c : Int) + (i : Int) ∉ L := fun q => by have := hA _ q; omega
          have hM' := hM.add (3 * slot d p s + 8 * (a : Int) + 4 * (c : Int) + (i : Int)) cl
          simp [hi4', hwn, push_m, ok1, hM.none hnL, set_push]
          refine ⟨i + 1, by omega, _, ⟨by omega, _, hM', nodup_add hN hnL, ?_, ?_⟩, ⟨cl + 1, hsub (cl + 1) hM'⟩, bp, bm, .int, .int, .int, .int, ?_, .int⟩
          · simp; omega
          · intro y hy
            rcases List.mem_append.1 hy with hy | hy
            · have := hA y hy; omega
            · rw [List.mem_singleton.1 hy]; omega
          · rw [i64_sg (by omega) (by omega)]; omega
        · have hie : i = 4 := by omega
          subst hie
          simp
          refine ⟨c + 1, by omega, es, ⟨by omega, L, hM, hN, by omega, fun y hy => by have := hA y hy; omega⟩, ⟨cl, hsub cl hM⟩, bp, bm, .int, ?_, .int⟩
          rw [i64_sg (by omega) (by omega)]; omega
      · have hce : c = 2 := by omega
        subst hce
        simp [cellsOf_ne, hne, hBc, apart, acut]
        refine (tally_ok d p s a _).mono ?_
        rintro v1 h2 ⟨rfl, e⟩
        subst e
        have hs : tallyR d p s a = .tuple #[cI (3 * slot d p s + 16 + a), cI 0] := by
          unfold tallyR
          rw [if_neg (by rw [hr]; decide), if_pos (by omega)]
        rw [hs]
        have hnL : 3 * slot d p s + 16 + (a : Int) ∉ L := fun q => by have := hA _ q; omega
        have hM' := hM.add (3 * slot d p s + 16 + (a : Int)) cl
        simp [push_m, ok1, hM.none hnL, set_push]
        refine ⟨a + 1, by omega, _, ⟨by omega, _, hM', nodup_add hN hnL, ?_, ?_⟩, ⟨cl + 1, hsub (cl + 1) hM'⟩, bp, bm, ?_, .int⟩
        · simp; omega
        · intro y hy
          rcases List.mem_append.1 hy with hy | hy
          · have := hA y hy; omega
          · rw [List.mem_singleton.1 hy]; omega
        · rw [i64_sg (by omega) (by omega)]; omega
    · have hae : a = 2 := by omega
      subst hae
      obtain ⟨N, hNn⟩ : ∃ N : Nat, allS d p s = N := ⟨(allS d p s).toNat, by omega⟩
      have hLN : L.length = N := by omega
      simp
      refine awp_loop_of (α := Nat) (fun i => i ≤ N) (fun i => [(7, .pointer (some ⟨h1.n, 0, none⟩)), (8, .map (some HB.n)), (25, .int .i64 i)]) (fun _ => HB.push (.map es cl)) (fun i => N - i) 0
        (Nat.zero_le _) (hsub cl hM) (by simp; exact ⟨bp, bm, .int⟩) ?_
      intro i hi
      simp [cellsOf_ne, hne, hBc, apart, acut]
      refine (all_ok d p s _).mono ?_
      rintro v1 h2 ⟨rfl, e⟩
      subst e
      rw [hNn]
      by_cases hiN : i < N
      · have hiL : (i : Int) ∈ L := full hN (n := N) (fun y hy => by have := hA y hy; omega) hLN (by omega) (by omega)
        obtain ⟨j, e, f1, f2, f3⟩ := hM.some hiL
        simp [hiN, push_m, ok1, f1, f2, f3, aun]
        refine ⟨i + 1, by omega, by omega, hsub cl hM, bp, bm, ?_, .int⟩
        rw [i64_sg (by omega) (by omega)]; omega
      · have hie : i = N := by omega
        subst hie
        simp [push_m, cellsOf_ne, hne, hBc, apart, acut, hM.len, hLN]
        refine (all_ok d p s _).mono ?_
        rintro v1 h2 ⟨rfl, e⟩
        subst e
        rw [hNn]
        simp [cellsOf_ne, hne, hBc, apart, acut]
        refine (all_ok d p s _).mono ?_
        rintro v1 h2 ⟨rfl, e⟩
        subst e
        have : (i : Int) ≤ 512 := by omega
        rw [hNn]
        simp [this]
theorem golden_ok (d p s : Int) (h : Heap) : ACalls Try.prog 39 [gv d p s] h fun v h' => v = .tuple #[cI 0, cI (slot d p s)] ∧ h' = h := by
  refine ACalls.same (vb_tuple2 .int .int) (acalls_of mix Try.func39 k39 n39 (by simp) fun hcl hb => ?_)
  simp [c39, gv, mcells, cellsOf_new, apart, acut]
  refine (slot_ok d p s _).mono ?_
  rintro v1 h1 ⟨rfl, e⟩
  subst e
  simp
  exact (Heap.Ext.refl h).push hcl _
def roomG (d p s : Int) : Int := if right d p s then max (60 * d * s - 48) 0 else 0
theorem room_ok (d p s : Int) (h : Heap) : ACalls Try.prog 41 [gv d p s] h fun v h' => v = .int .i64 (roomG d p s) ∧ h' = h := by
  refine ACalls.same .int (acalls_of mix Try.func41 k41 n41 (by simp) fun hcl hb => ?_)
  have hext := (Heap.Ext.refl h).push hcl (.cells [.int .i64 d, .int .i64 p, .int .i64 s] .ex 1)
  simp [c41, gv, mcells, cellsOf_new, apart, acut]
  refine (rightG_ok d p s _).mono ?_
  rintro v1 h1 ⟨rfl, e⟩
  subst e
  by_cases hr : right d p s = true
  case neg =>
    have hr' : right d p s = false := by simpa using hr
    simp [hr', aun, roomG]
    exact hext
  have hp := right_prop.1 hr
  have m1 := mulb (a := 60 * d) (b := s) (m := 480) (n := 8) (by omega) (by omega) (by omega) (by omega)
  simp [hr, aun, cellsOf_new, apart, acut, afold, amax2]
  refine ⟨?_, hext⟩
  unfold roomG
  rw [if_pos hr, i64_sg (n := 60 * d) (by omega) (by omega), i64_sg (n := 60 * d * s) (by omega) (by omega), i64_sg (by omega) (by omega)]
theorem refRoom_ok (d p s : Int) (hr : right d p s = true) (h : Heap) : ACalls Try.prog 43 [gv d p s] h fun v h' => v = .int .i64 (roomG d p s) ∧ h' = h := by
  refine ACalls.same .int (acalls_of mix Try.func43 k43 n43 (by simp) fun hcl hb => ?_)
  have hext := (Heap.Ext.refl h).push hcl (.cells [.int .i64 d, .int .i64 p, .int .i64 s] .ex 1)
  have hp := right_prop.1 hr
  have m1 := mulb (a := 60 * d) (b := s) (m := 480) (n := 8) (by omega) (by omega) (by omega) (by omega)
  have w1 : IntKind.i64.wrap (IntKind.i64.wrap (IntKind.i64.wrap (60 * d) * s) - 48) = 60 * d * s - 48 := by
    rw [i64_sg (n := 60 * d) (by omega) (by omega), i64_sg (n := 60 * d * s) (by omega) (by omega), i64_sg (by omega) (by omega)]
  have e1 : roomG d p s = max (60 * d * s - 48) 0 := by unfold roomG; rw [if_pos hr]
  simp [c43, gv, mcells, cellsOf_new, apart, acut, w1]
  by_cases hneg : 60 * d * s - 48 < 0
  · have : 60 * d * s < 48 := by omega
    simp [hneg, e1]
    exact ⟨by omega, hext⟩
  · simp [hneg, e1]
    exact ⟨by omega, hext⟩
theorem sect_ok (n e w : Int) (h : Heap) : ACalls Try.prog 44 [.int .i64 n, .int .i64 e, .int .i64 w] h fun v h' => v = .bool (if w < 0 then decide (n = 0) && decide (e = 2) else decide (n = w) && decide (e = 0)) ∧ h' = h := by
  refine acalls_of mix Try.func44 k44 n44 (by simp) fun hcl hb => ?_
  simp [c44]
  by_cases hw : w < 0
  · by_cases hn : n = 0
    · simp [hw, hn]
    · simp [hw, hn]
  · by_cases hn : n = w
    · simp [hw, hn]
    · simp [hw, hn]

/-! the document's list -/
abbrev Pl := Int × Int × Int × Int
def plv (x : Pl) : List Value := [cI x.1, cI x.2.1, cI x.2.2.1, cI x.2.2.2]
def place (d p s n : Int) : Pl := if n < 3 * slot d p s then (0, n / slot d p s, n % slot d p s % s, n % slot d p s / s)
  else if n < 3 * slot d p s + 16 then (1, (n - 3 * slot d p s) / 8, (n - 3 * slot d p s) % 8 / 4, (n - 3 * slot d p s) % 4) else (2, n - 3 * slot d p s - 16, 0, 0)
def places (d p s : Int) (n : Nat) : List Value := (List.range n).flatMap fun i => plv (place d p s (i : Nat))
theorem places_succ (d p s : Int) (n : Nat) : places d p s (n + 1) = places d p s n ++ plv (place d p s n) := by
  unfold places
  rw [List.range_succ, List.flatMap_append]
  simp
theorem places_len (d p s : Int) (n : Nat) : (places d p s n).length = n * 4 := by
  induction n with
  | zero => rfl
  | succ n ih => rw [places_succ, List.length_append, ih]; simp [plv]; omega
theorem places_get (d p s : Int) (n i : Nat) (hi : i < n) : acut (places d p s n) (i * 4) 4 = some (plv (place d p s i)) := by
  unfold acut
  rw [if_pos (by rw [places_len]; omega)]
  congr 1
  induction n with
  | zero => omega
  | succ n ih =>
    rw [places_succ]
    by_cases hin : i < n
    · rw [List.drop_append_of_le_length (by rw [places_len]; omega), List.take_append_of_le_length (by rw [List.length_drop, places_len]; omega)]
      exact ih hin
    · have : i = n := by omega
      subst this
      rw [List.drop_append, List.drop_of_length_le (by rw [places_len]; omega), places_len]
      simp [plv]
theorem places_below {n : Nat} {d p s : Int} {k : Nat} : ∀ x ∈ places d p s k, VBelow n x := fun x hx => by
  unfold places at hx
  obtain ⟨i, _, hx⟩ := List.mem_flatMap.1 hx
  simp [plv] at hx
  rcases hx with rfl | rfl | rfl | rfl <;> exact .int
/-- the list, as it lies -/
def Lst (d p s : Int) (h : Heap) (v : Value) (n : Nat) : Prop := ∃ b cap m e, v = .slice (some ⟨b, 0, none⟩) n cap ∧ h.cellsOf b = some (places d p s n, m, e)
theorem pv_ints (x : Pl) : acut (plv x) 0 4 = some (plv x) := rfl
/-- one more is appended to the list -/
theorem own_place {h H : Heap} {d p s : Int} {n : Nat} {v : Value} (o : Own h 4 n (places d p s n) v H) (hc : h.Closed) (hn : n ≤ 1000) :
    ∃ a c, v = .slice a n c ∧ ∃ v2 H2 H3, aapp (H.push (.cells (plv (place d p s n)) .ex 1)) 64 4 32 a n c (plv (place d p s n)) 1 = some (v2, H2) ∧ Own h 4 (n + 1) (places d p s (n + 1)) v2 H3 ∧ H3.n = H2.n ∧ (∀ b o, H3.m b = some o → H2.m b = some o) := by
  rw [places_succ]
  exact o.app (t := 64) (H' := H.push (.cells (plv (place d p s n)) .ex 1)) (bytes := 32) (k := 1) (new := plv (place d p s n)) hc (by show H.n ≤ H.n + 1; omega) (fun b hb => by rw [push_m, if_neg (by omega)]) (by omega) rfl (by omega)
theorem place_slot {d p s : Int} (hr : right d p s = true) {a k i : Int} (ha : 0 ≤ a ∧ a ≤ 2) (hk : 0 ≤ k ∧ k < s) (hi : 0 ≤ i ∧ i < d + p) : place d p s (a * slot d p s + i * s + k) = (0, a, k, i) := by
  obtain ⟨e1, e2, e3, e4, e5⟩ := sec_code hr ha hk hi
  unfold place
  rw [if_pos e5, e1, e2, e3]
theorem place_log {d p s : Int} {a c i : Int} (ha : 0 ≤ a ∧ a ≤ 1) (hk : 0 ≤ c ∧ c ≤ 1) (hi : 0 ≤ i ∧ i < 4) : place d p s (3 * slot d p s + 8 * a + 4 * c + i) = (1, a, c, i) := by
  unfold place
  rw [if_neg (by omega), if_pos (by omega)]
  have e : 3 * slot d p s + 8 * a + 4 * c + i - 3 * slot d p s = 8 * a + 4 * c + i := by omega
  rw [e]
  congr 3 <;> omega
theorem place_tally {d p s : Int} {a : Int} (ha : 0 ≤ a) : place d p s (3 * slot d p s + 16 + a) = (2, a, 0, 0) := by
  unfold place
  rw [if_neg (by omega), if_neg (by omega)]
  congr 2
  omega

theorem list_ok (d p s : Int) (hr : right d p s = true) (h : Heap) : ACalls Try.prog 42 [gv d p s] h fun v h' => Lst d p s h' v (3 * slot d p s + 18).toNat ∧ h.Sub h.n h' := by
  refine acalls_of mix Try.func42 k42 n42 (by simp) fun hcl hb => ?_
  have hp := right_prop.1 hr
  have hsb := slot_bound (d := d) (p := p) (s := s)
  have hsr := slot_right hr
  obtain ⟨S, hS⟩ : ∃ S : Nat, slot d p s = S := ⟨(slot d p s).toNat, by omega⟩
  obtain ⟨sn, hsn⟩ : ∃ n : Nat, s = n := ⟨s.toNat, by omega⟩
  obtain ⟨w, hwn⟩ : ∃ n : Nat, d + p = n := ⟨(d + p).toNat, by omega⟩
  have hSw : S = w * sn := by
    have := hsr.1
    rw [hS, hwn, hsn] at this
    exact_mod_cast this
  have hwi : IntKind.i64.wrap (d + p) = w := by rw [i64_sg (by omega) (by omega), hwn]
  simp [c42, gv, mcells, cellsOf_new, apart, acut, afill]
  have hboxc : (h.push (.cells [.int .i64 d, .int .i64 p, .int .i64 s] .ex 1)).Closed := closed_push hcl (by intro x hx; simp at hx; rcases hx with rfl | rfl | rfl <;> exact .int)
  generalize hB : h.push (.cells [.int .i64 d, .int .i64 p, .int .i64 s] .ex 1) = HB at *
  have hBn : HB.n = h.n + 1 := by rw [← hB]; rfl
  have hBc : HB.cellsOf h.n = some ([.int .i64 d, .int .i64 p, .int .i64 s], .ex, 1) := by rw [← hB]; exact cellsOf_new _ _ _ _
  have hold : ∀ {n v H}, Own HB 4 n (places d p s n) v H → H.cellsOf h.n = some ([.int .i64 d, .int .i64 p, .int .i64 s], .ex, 1) := fun o => by
    have := o.old (b := h.n) (by omega)
    unfold Heap.cellsOf at hBc ⊢
    rw [this]; exact hBc
  have hsubB : h.Sub h.n HB := by rw [← hB]; exact ((Heap.Ext.refl h).push hcl _).sub hcl
  have hsub : ∀ {n v H}, Own HB 4 n (places d p s n) v H → H.Sub h.n H := fun o => ⟨by have := o.1; omega, Nat.le_refl _, fun _ _ e => e, o.closed hboxc places_below⟩
  have bp : ∀ {n v H}, Own HB 4 n (places d p s n) v H → VBelow H.n (.pointer (some ⟨h.n, 0, none⟩)) := fun o => .ptr (by have := o.1; show h.n < _; omega)
  refine awp_loop_of (α := Nat × Value × Heap) (fun x => x.1 ≤ 3 ∧ Own HB 4 (x.1 * S) (places d p s (x.1 * S)) x.2.1 x.2.2)
    (fun x => [(1, .pointer (some ⟨h.n, 0, none⟩)), (3, x.2.1), (4, .int .i64 x.1)]) (fun x => x.2.2) (fun x => 3 - x.1) (0, .slice (some ⟨HB.n, 0, none⟩) 0 0, HB.push (.cells [] .ex 1))
    ⟨by show 0 ≤ 3; omega, by rw [Nat.zero_mul]; exact Own.made HB 4⟩ (by have := hsub (n := 0) (Own.made HB 4); exact this) (by simp; exact ⟨.ptr (by show h.n < HB.n + 1; omega), .slice (Nat.lt_succ_self _), .int⟩) ?_
  rintro ⟨a, v, H⟩ ⟨ha, ho⟩
  dsimp only at ha ho
  by_cases ha3 : a < 3
  · have ha3' : (a : Int) < 3 := by omega
    simp [ha3']
    refine awp_loop_of (α := Nat × Value × Heap) (fun x => x.1 ≤ w ∧ Own HB 4 (a * S + x.1 * sn) (places d p s (a * S + x.1 * sn)) x.2.1 x.2.2)
      (fun x => [(1, .pointer (some ⟨h.n, 0, none⟩)), (3, x.2.1), (4, .int .i64 a), (5, .int .i64 x.1)]) (fun x => x.2.2) (fun x => w - x.1) (0, v, H)
      ⟨Nat.zero_le _, by simpa using ho⟩ (hsub ho) (by simp; exact ⟨bp ho, ho.below, .int, .int⟩) ?_
    clear ho
    rintro ⟨i, v, H⟩ ⟨hi, ho⟩
    dsimp only at hi ho
    have hHc := hold ho
    simp [hHc, apart, hwi]
    by_cases hiw : i < w
    · simp [hiw]
      refine awp_loop_of (α := Nat × Value × Heap) (fun x => x.1 ≤ sn ∧ Own HB 4 (a * S + i * sn + x.1) (places d p s (a * S + i * sn + x.1)) x.2.1 x.2.2)
        (fun x => [(1, .pointer (some ⟨h.n, 0, none⟩)), (3, x.2.1), (4, .int .i64 a), (5, .int .i64 i), (6, .int .i64 x.1)]) (fun x => x.2.2) (fun x => sn - x.1) (0, v, H)
        ⟨Nat.zero_le _, by simpa using ho⟩ (hsub ho) (by simp; exact ⟨bp ho, ho.below, .int, .int, .int⟩) ?_
      clear ho hHc
      rintro ⟨k, v, H⟩ ⟨hk, ho⟩
      dsimp only at hk ho
      have hHc := hold ho
      simp [hHc, apart]
      by_cases hks : k < sn
      · have hb1 : a * S + i * sn + k < 3 * S := by
          have := (sec_code hr (a := a) (k := k) (i := i) (by omega) (by omega) (by omega)).2.2.2.2
          rw [hS, hsn] at this
          exact_mod_cast this
        have hpl : place d p s ((a * S + i * sn + k : Nat) : Int) = (0, (a : Int), (k : Int), (i : Int)) := by
          have := place_slot hr (a := a) (k := k) (i := i) (by omega) (by omega) (by omega)
          rw [hS, hsn] at this
          rw [← this]; congr 1
        obtain ⟨a', cc, rfl, v2, H2, H3, happ, ho3, hn3, hin3⟩ := own_place ho hboxc (by omega)
        rw [hpl] at happ
        have hks' : (k : Int) < s := by omega
        simp [hks', afill, mcells, alen, afirst, cellsOf_new, acut, plv] at happ ⊢
        simp [happ]
        have hge := ho3.1
        refine ⟨k + 1, by omega, v2, H3, ⟨by omega, ho3⟩, ⟨by omega, by omega, hin3, (hsub ho3).cl⟩, bp ho3, ⟨rfl, ho3.below⟩, .int, .int, ?_, .int⟩
        rw [i64_sg (by omega) (by omega)]; omega
      · have hke : k = sn := by omega
        subst hke
        have hks' : ¬ (k : Int) < s := by omega
        simp [hks']
        refine ⟨i + 1, by omega, v, H, ⟨by omega, ?_⟩, hsub ho, bp ho, ⟨rfl, ho.below⟩, .int, ?_, .int⟩
        · rw [show a * S + (i + 1) * k = a * S + i * k + k by rw [Nat.add_mul]; omega]; exact ho
        · rw [i64_sg (by omega) (by omega)]; omega
    · have hie : i = w := by omega
      subst hie
      simp
      refine ⟨a + 1, by omega, v, H, ⟨by omega, ?_⟩, hsub ho, bp ho, ⟨rfl, ho.below⟩, ?_, .int⟩
      · rw [show (a + 1) * S = a * S + i * sn by rw [Nat.add_mul, hSw]; omega]; exact ho
      · rw [i64_sg (by omega) (by omega)]; omega
  · have hae : a = 3 := by omega
    subst hae
    simp
    refine awp_loop_of (α := Nat × Value × Heap) (fun x => x.1 ≤ 2 ∧ Own HB 4 (3 * S + 8 * x.1) (places d p s (3 * S + 8 * x.1)) x.2.1 x.2.2)
      (fun x => [(3, x.2.1), (7, .int .i64 x.1)]) (fun x => x.2.2) (fun x => 2 - x.1) (0, v, H)
      ⟨by show 0 ≤ 2; omega, by simpa using ho⟩ (hsub ho) (by simp; exact ⟨ho.below, .int⟩) ?_
    clear ho
    rintro ⟨a, v, H⟩ ⟨ha, ho⟩
    dsimp only at ha ho
    by_cases ha2 : a < 2
    · have ha2' : (a : Int) < 2 := by omega
      simp [ha2']
      refine awp_loop_of (α := Nat × Value × Heap) (fun x => x.1 ≤ 2 ∧ Own HB 4 (3 * S + 8 * a + 4 * x.1) (places d p s (3 * S + 8 * a + 4 * x.1)) x.2.1 x.2.2)
        (fun x => [(3, x.2.1), (7, .int .i64 a), (8, .int .i64 x.1)]) (fun x => x.2.2) (fun x => 2 - x.1) (0, v, H)
        ⟨by show 0 ≤ 2; omega, by simpa using ho⟩ (hsub ho) (by simp; exact ⟨ho.below, .int, .int⟩) ?_
      clear ho
      rintro ⟨c, v, H⟩ ⟨hc, ho⟩
      dsimp only at hc ho
      by_cases hc2 : c < 2
      · have hc2' : (c : Int) < 2 := by omega
        simp [hc2']
        refine awp_loop_of (α := Nat × Value × Heap) (fun x => x.1 ≤ 4 ∧ Own HB 4 (3 * S + 8 * a + 4 * c + x.1) (places d p s (3 * S + 8 * a + 4 * c + x.1)) x.2.1 x.2.2)
          (fun x => [(3, x.2.1), (7, .int .i64 a), (8, .int .i64 c), (9, .int .i64 x.1)]) (fun x => x.2.2) (fun x => 4 - x.1) (0, v, H)
          ⟨by show 0 ≤ 4; omega, by simpa using ho⟩ (hsub ho) (by simp; exact ⟨ho.below, .int, .int, .int⟩) ?_
        clear ho
        rintro ⟨i, v, H⟩ ⟨hi, ho⟩
        dsimp only at hi ho
        by_cases hi4 : i < 4
        · have hi4' : (i : Int) < 4 := by omega
          have hpl : place d p s ((3 * S + 8 * a + 4 * c + i : Nat) : Int) = (1, (a : Int), (c : Int), (i : Int)) := by
            have := place_log (d := d) (p := p) (s := s) (a := a) (c := c) (i := i) (by omega) (by omega) (by omega)
            rw [hS] at this
            rw [← this]; congr 1
          obtain ⟨a', cc, rfl, v2, H2, H3, happ, ho3, hn3, hin3⟩ := own_place ho hboxc (by omega)
          rw [hpl] at happ
          simp [hi4', afill, mcells, alen, afirst, cellsOf_new, acut, plv] at happ ⊢
          simp [happ]
          have hge := ho3.1
          refine ⟨i + 1, by omega, v2, H3, ⟨by omega, ho3⟩, ⟨by omega, by omega, hin3, (hsub ho3).cl⟩, ⟨rfl, ho3.below⟩, .int, .int, ?_, .int⟩
          rw [i64_sg (by omega) (by omega)]; omega
        · have hie : i = 4 := by omega
          subst hie
          simp
          refine ⟨c + 1, by omega, v, H, ⟨by omega, ?_⟩, hsub ho, ⟨rfl, ho.below⟩, .int, ?_, .int⟩
          · rw [show 3 * S + 8 * a + 4 * (c + 1) = 3 * S + 8 * a + 4 * c + 4 by omega]; exact ho
          · rw [i64_sg (by omega) (by omega)]; omega
      · have hce : c = 2 := by omega
        subst hce
        simp
        refine ⟨a + 1, by omega, v, H, ⟨by omega, ?_⟩, hsub ho, ⟨rfl, ho.below⟩, ?_, .int⟩
        · rw [show 3 * S + 8 * (a + 1) = 3 * S + 8 * a + 4 * 2 by omega]; exact ho
        · rw [i64_sg (by omega) (by omega)]; omega
    · have hae : a = 2 := by omega
      subst hae
      simp
      refine awp_loop_of (α := Nat × Value × Heap) (fun x => x.1 ≤ 2 ∧ Own HB 4 (3 * S + 16 + x.1) (places d p s (3 * S + 16 + x.1)) x.2.1 x.2.2)
        (fun x => [(3, x.2.1), (10, .int .i64 x.1)]) (fun x => x.2.2) (fun x => 2 - x.1) (0, v, H)
        ⟨by show 0 ≤ 2; omega, by simpa using ho⟩ (hsub ho) (by simp; exact ⟨ho.below, .int⟩) ?_
      clear ho
      rintro ⟨a, v, H⟩ ⟨ha, ho⟩
      dsimp only at ha ho
      by_cases ha2 : a < 2
      · have ha2' : (a : Int) < 2 := by omega
        have hpl : place d p s ((3 * S + 16 + a : Nat) : Int) = (2, (a : Int), 0, 0) := by
          have := place_tally (d := d) (p := p) (s := s) (a := a) (by omega)
          rw [hS] at this
          rw [← this]; congr 1
        obtain ⟨a', cc, rfl, v2, H2, H3, happ, ho3, hn3, hin3⟩ := own_place ho hboxc (by omega)
        rw [hpl] at happ
        simp [ha2', afill, mcells, alen, afirst, cellsOf_new, acut, plv] at happ ⊢
        simp [happ]
        have hge := ho3.1
        refine ⟨a + 1, by omega, v2, H3, ⟨by omega, ho3⟩, ⟨by omega, by omega, hin3, (hsub ho3).cl⟩, ⟨rfl, ho3.below⟩, ?_, .int⟩
        rw [i64_sg (by omega) (by omega)]; omega
      · have hae : a = 2 := by omega
        subst hae
        simp
        refine ⟨?_, ⟨Nat.le_refl _, by have := ho.1; omega, fun b o e => (ho.sub hboxc).sub b o (hsubB.sub b o e), hcl⟩⟩
        rw [hS, show (3 * (S : Int) + 18).toNat = 3 * S + 16 + 2 by omega]
        obtain ⟨_, ⟨_, _, h0, _⟩ | ⟨nm, md, e, _, h2, rfl, _, _, hH⟩⟩ := ho
        · omega
        · exact ⟨nm, _, md, e, rfl, by unfold Heap.cellsOf; rw [hH, with1_m, if_pos rfl]⟩
theorem pv_eq (x y : Pl) : aeqL [.i, .i, .i, .i] (plv x) (plv y) = some (decide (x = y)) := by
  obtain ⟨a, b, c, d⟩ := x
  obtain ⟨a', b', c', d'⟩ := y
  simp [aeqL, aeqC, plv]
theorem places_get0 (d p s : Int) (n i : Nat) (hi : i < n) : (places d p s n)[i * 4]? = some (cI (place d p s i).1) := by
  have := places_get d p s n i hi
  unfold acut at this
  rw [if_pos (by rw [places_len]; omega)] at this
  simp only [Option.some.injEq] at this
  have h2 := congrArg (fun l => l[0]?) this
  simpa [plv] using h2
theorem find_ok (d p s : Int) (v : Value) (n : Nat) (q : Pl) (h : Heap) (hl : Lst d p s h v n) (hn : n ≤ 1000) :
    ACalls Try.prog 45 [v, .agg (plv q).toArray] h fun r h' => (∃ k, r = .int .i64 k ∧ ((k = -1 ∧ ∀ m : Nat, m < n → place d p s m ≠ q) ∨ ∃ i : Nat, i < n ∧ k = i ∧ place d p s i = q)) ∧ h' = h := by
  refine ACalls.same' (fun v ⟨k, e, _⟩ => by rw [e]; exact .int) (acalls_of mix Try.func45 k45 n45 (by simp) fun hcl hb => ?_)
  obtain ⟨b, cap, m, e, rfl, hc⟩ := hl
  have hbn := cellsOf_lt hcl hc
  have hext := (Heap.Ext.refl h).push hcl (.cells (plv q) .ex 1)
  have hc' := cellsOf_push hcl (o := .cells (plv q) .ex 1) hc
  have hbox : (h.push (.cells (plv q) .ex 1)).Closed := closed_push hcl (by intro x hx; simp [plv] at hx; rcases hx with rfl | rfl | rfl | rfl <;> exact .int)
  simp [c45, mcells]
  refine awp_loop_of (α := Nat) (fun i => i ≤ n ∧ ∀ m : Nat, m < i → place d p s m ≠ q) (fun i => [(0, .slice (some ⟨b, 0, none⟩) n cap), (3, .pointer (some ⟨h.n, 0, none⟩)), (5, .int .i64 i)]) (fun _ => h.push (.cells (plv q) .ex 1)) (fun i => n - i) 0
    ⟨Nat.zero_le _, fun m hm => by omega⟩ ⟨Nat.le_succ _, Nat.le_refl _, fun _ _ e => e, hbox⟩ (by simp; exact ⟨.slice (by show b < h.n + 1; omega), .ptr (Nat.lt_succ_self _), .int⟩) ?_
  rintro i ⟨hi, hnot⟩
  by_cases hin : i < n
  · have hg := places_get d p s n i hin
    have hq : acut (plv q) 0 4 = some (plv q) := rfl
    simp [hin, aidx_of hin, hc', apart, hg, cellsOf_new, hq, pv_eq]
    by_cases he : place d p s i = q
    · simp [he]
      exact ⟨⟨i, hin, rfl, he⟩, hext⟩
    · simp [he]
      refine ⟨i + 1, by omega, ⟨by omega, fun m hm => ?_⟩, ⟨Nat.le_succ _, Nat.le_refl _, fun _ _ e => e, hbox⟩, .slice (by show b < h.n + 1; omega), .ptr (Nat.lt_succ_self _), ?_, .int⟩
      · by_cases hmi : m = i
        · rw [hmi]; exact he
        · exact hnot m (by omega)
      · rw [i64_sg (by omega) (by omega)]; omega
  · have hie : i = n := by omega
    subst hie
    simp
    exact ⟨hnot, hext⟩
theorem ofp_ok (d p s : Int) (at_ : Int) (v : Value) (n : Nat) (q : Pl) (ok : Bool) (h : Heap) (hl : Lst d p s h v n) (hn : n ≤ 1000) :
    ACalls Try.prog 46 [.int .i64 at_, v, .agg (plv q).toArray, .bool ok] h fun r h' => r = .bool (if at_ < 0 ∨ (n : Int) ≤ at_ ∨ (place d p s at_).1 ≠ 0 then !ok && decide (q = (0, 0, 0, 0)) else ok && decide (q = place d p s at_)) ∧ h' = h := by
  refine ACalls.same .bool (acalls_of mix Try.func46 k46 n46 (by simp) fun hcl hb => ?_)
  obtain ⟨b, cap, m, e, rfl, hc⟩ := hl
  have hext := (Heap.Ext.refl h).push hcl (.cells (plv q) .ex 1)
  have hc' := cellsOf_push hcl (o := .cells (plv q) .ex 1) hc
  have hq : acut (plv q) 0 4 = some (plv q) := rfl
  have hz : aeqL [.i, .i, .i, .i] (plv q) [cI 0, cI 0, cI 0, cI 0] = some (decide (q = (0, 0, 0, 0))) := pv_eq q (0, 0, 0, 0)
  simp [c46, mcells]
  have fin0 : ∀ {f : AF}, True := fun {_} => trivial
  by_cases h0 : at_ < 0
  · by_cases hok : ok = true
    · simp [h0, aun, hok]; exact hext
    · simp [h0, aun, hok, cellsOf_new, apart, hq, afill, hz]; exact hext
  by_cases h1 : (n : Int) ≤ at_
  · by_cases hok : ok = true
    · simp [h0, h1, aun, hok]; exact hext
    · simp [h0, h1, aun, hok, cellsOf_new, apart, hq, afill, hz]; exact hext
  obtain ⟨i, rfl⟩ : ∃ i : Nat, at_ = i := ⟨at_.toNat, by omega⟩
  have hin : i < n := by omega
  have hg := places_get d p s n i hin
  have hg0 := places_get0 d p s n i hin
  by_cases h2 : (place d p s i).1 = 0
  · by_cases hok : ok = true
    · simp [h0, h1, h2, aun, hok, hin, aidx_of hin, hc', apart, hg, hg0, cellsOf_new, hq, pv_eq]; exact hext
    · simp [h0, h1, h2, aun, hok, hin, aidx_of hin, hc', apart, hg, hg0, cellsOf_new, hq, pv_eq]; exact hext
  · by_cases hok : ok = true
    · simp [h0, h1, h2, aun, hok, hin, aidx_of hin, hc', apart, hg, hg0]; exact hext
    · simp [h0, h1, h2, aun, hok, hin, aidx_of hin, hc', apart, hg, hg0, cellsOf_new, hq, afill, hz]; exact hext

theorem place_inj0 {d p s : Int} (hr : right d p s = true) {n : Nat} {a k j : Int} (h : place d p s n = (0, a, k, j)) :
    (0 ≤ a ∧ a ≤ 2 ∧ 0 ≤ k ∧ k ≤ s - 1 ∧ 0 ≤ j ∧ j ≤ wide d p s - 1) ∧ (n : Int) = a * slot d p s + j * s + k := by
  have hp := right_prop.1 hr
  have hsr := slot_right hr
  have hw : wide d p s = d + p := by unfold wide; rw [if_pos hr]
  have hS : 0 < slot d p s := by omega
  unfold place at h
  split at h
  · rename_i hlt
    simp only [Prod.mk.injEq, true_and] at h
    obtain ⟨rfl, rfl, rfl⟩ := h
    have e1 := Int.mul_ediv_add_emod (n : Int) (slot d p s)
    have e2 := Int.mul_ediv_add_emod ((n : Int) % slot d p s) s
    have b1 := Int.emod_nonneg (n : Int) (show slot d p s ≠ 0 by omega)
    have b2 := Int.emod_lt_of_pos (n : Int) hS
    have b3 := Int.emod_nonneg ((n : Int) % slot d p s) (show s ≠ 0 by omega)
    have b4 := Int.emod_lt_of_pos ((n : Int) % slot d p s) (show 0 < s by omega)
    have c1 : 0 ≤ (n : Int) / slot d p s := Int.ediv_nonneg (by omega) (by omega)
    have c2 : (n : Int) / slot d p s < 3 := Int.ediv_lt_of_lt_mul hS hlt
    have c3 : 0 ≤ (n : Int) % slot d p s / s := Int.ediv_nonneg b1 (by omega)
    have c4 : (n : Int) % slot d p s / s < d + p := Int.ediv_lt_of_lt_mul (by omega) (by rw [← hsr.1]; exact b2)
    rw [hw]
    refine ⟨by omega, ?_⟩
    rw [Int.mul_comm ((n : Int) / slot d p s), Int.mul_comm ((n : Int) % slot d p s / s)]
    omega
  · split at h <;> simp at h
theorem place_inj1 {d p s : Int} {n : Nat} {a c : Int} (h : place d p s n = (1, a, c, 0)) : (0 ≤ a ∧ a ≤ 1 ∧ 0 ≤ c ∧ c ≤ 1) ∧ (n : Int) = 3 * slot d p s + (a * 2 + c) * 4 := by
  unfold place at h
  split at h
  · simp at h
  · split at h
    · simp only [Prod.mk.injEq, true_and] at h
      omega
    · simp at h
theorem place_inj2 {d p s : Int} {n : Nat} {a : Int} (hn : (n : Int) < 3 * slot d p s + 18) (h : place d p s n = (2, a, 0, 0)) : (0 ≤ a ∧ a ≤ 1) ∧ (n : Int) = 3 * slot d p s + 16 + a := by
  unfold place at h
  split at h
  · simp at h
  · split at h
    · simp at h
    · simp only [Prod.mk.injEq, true_and, and_true] at h
      omega
theorem sect_true {d p s : Int} {q : Pl} {N : Nat} {R : Prop} {k n e idx : Int} (hf : (k = -1 ∧ ∀ m : Nat, m < N → place d p s m ≠ q) ∨ ∃ i : Nat, i < N ∧ k = i ∧ place d p s i = q)
    (hin : R → 0 ≤ idx ∧ idx < N ∧ place d p s idx = q) (hu : ∀ i : Nat, i < N → place d p s i = q → R ∧ (i : Int) = idx) (h1 : R → n = idx ∧ e = 0) (h2 : ¬ R → n = 0 ∧ e = 2) :
    (if k < 0 then decide (n = 0) && decide (e = 2) else decide (n = k) && decide (e = 0)) = true := by
  rcases hf with ⟨rfl, hno⟩ | ⟨i, hi, rfl, hq⟩
  · have hnr : ¬ R := fun r => by
      obtain ⟨g0, g1, g2⟩ := hin r
      exact hno idx.toNat (by omega) (by rw [show ((idx.toNat : Nat) : Int) = idx by omega]; exact g2)
    obtain ⟨rfl, rfl⟩ := h2 hnr
    rfl
  · obtain ⟨r, e1⟩ := hu i hi hq
    obtain ⟨rfl, rfl⟩ := h1 r
    rw [if_neg (by omega), e1]
    simp
theorem sectorR_val (d p s a k i : Int) : ∃ n e, sectorR d p s a k i = .tuple #[cI n, cI e] ∧ (right d p s = false → n = 0 ∧ e = 1) ∧
    (right d p s = true → ((0 ≤ a ∧ a ≤ 2 ∧ 0 ≤ k ∧ k ≤ s - 1 ∧ 0 ≤ i ∧ i ≤ wide d p s - 1) → n = a * slot d p s + i * s + k ∧ e = 0) ∧ (¬ (0 ≤ a ∧ a ≤ 2 ∧ 0 ≤ k ∧ k ≤ s - 1 ∧ 0 ≤ i ∧ i ≤ wide d p s - 1) → n = 0 ∧ e = 2)) := by
  unfold sectorR
  split
  · rename_i hr
    exact ⟨_, _, rfl, fun _ => ⟨rfl, rfl⟩, fun q => by rw [hr] at q; cases q⟩
  · rename_i hr
    split
    · rename_i h; exact ⟨_, _, rfl, fun q => absurd q hr, fun _ => ⟨fun _ => ⟨rfl, rfl⟩, fun q => absurd h q⟩⟩
    · rename_i h; exact ⟨_, _, rfl, fun q => absurd q hr, fun _ => ⟨fun q => absurd q h, fun _ => ⟨rfl, rfl⟩⟩⟩
theorem halfR_val (d p s a b : Int) : ∃ n e, halfR d p s a b = .tuple #[cI n, cI e] ∧ (right d p s = false → n = 0 ∧ e = 1) ∧
    (right d p s = true → ((0 ≤ a ∧ a ≤ 1 ∧ 0 ≤ b ∧ b ≤ 1) → n = 3 * slot d p s + (a * 2 + b) * 4 ∧ e = 0) ∧ (¬ (0 ≤ a ∧ a ≤ 1 ∧ 0 ≤ b ∧ b ≤ 1) → n = 0 ∧ e = 2)) := by
  unfold halfR
  split
  · rename_i hr
    exact ⟨_, _, rfl, fun _ => ⟨rfl, rfl⟩, fun q => by rw [hr] at q; cases q⟩
  · rename_i hr
    split
    · rename_i h; exact ⟨_, _, rfl, fun q => absurd q hr, fun _ => ⟨fun _ => ⟨rfl, rfl⟩, fun q => absurd h q⟩⟩
    · rename_i h; exact ⟨_, _, rfl, fun q => absurd q hr, fun _ => ⟨fun q => absurd q h, fun _ => ⟨rfl, rfl⟩⟩⟩
theorem tallyR_val (d p s a : Int) : ∃ n e, tallyR d p s a = .tuple #[cI n, cI e] ∧ (right d p s = false → n = 0 ∧ e = 1) ∧
    (right d p s = true → ((0 ≤ a ∧ a ≤ 1) → n = 3 * slot d p s + 16 + a ∧ e = 0) ∧ (¬ (0 ≤ a ∧ a ≤ 1) → n = 0 ∧ e = 2)) := by
  unfold tallyR
  split
  · rename_i hr
    exact ⟨_, _, rfl, fun _ => ⟨rfl, rfl⟩, fun q => by rw [hr] at q; cases q⟩
  · rename_i hr
    split
    · rename_i h; exact ⟨_, _, rfl, fun q => absurd q hr, fun _ => ⟨fun _ => ⟨rfl, rfl⟩, fun q => absurd h q⟩⟩
    · rename_i h; exact ⟨_, _, rfl, fun q => absurd q hr, fun _ => ⟨fun q => absurd q h, fun _ => ⟨rfl, rfl⟩⟩⟩
theorem ofR_val (d p s x : Int) : ∃ a k i ok, ofR d p s x = .tuple #[cI a, cI k, cI i, .bool ok] ∧
    ((right d p s = true ∧ 0 ≤ x ∧ x ≤ 3 * slot d p s - 1) → a = x / slot d p s ∧ k = x % slot d p s % s ∧ i = x % slot d p s / s ∧ ok = true) ∧ (¬ (right d p s = true ∧ 0 ≤ x ∧ x ≤ 3 * slot d p s - 1) → a = 0 ∧ k = 0 ∧ i = 0 ∧ ok = false) := by
  unfold ofR
  split
  · rename_i h; exact ⟨_, _, _, _, rfl, fun _ => ⟨rfl, rfl, rfl, rfl⟩, fun q => absurd h q⟩
  · rename_i h; exact ⟨_, _, _, _, rfl, fun q => absurd q h, fun _ => ⟨rfl, rfl, rfl, rfl⟩⟩
theorem i64_zero : IntKind.i64.wrap 0 = 0 := rfl

theorem places_ok (d p s a0 a1 a2 b0 b1 b2 : Int) (h : Heap) : ACalls Try.prog 8 [gv d p s, gv a0 a1 a2, gv b0 b1 b2] h fun v _ => v = .bool true := by
  refine acalls_of mix Try.func8 k8 n8 (by simp) fun hcl hb => ?_
  have hc1 : (h.push (.cells [.int .i64 d, .int .i64 p, .int .i64 s] .ex 1)).Closed := closed_push hcl (by intro x hx; simp at hx; rcases hx with rfl | rfl | rfl <;> exact .int)
  have hc2 : ((h.push (.cells [.int .i64 d, .int .i64 p, .int .i64 s] .ex 1)).push (.cells [.int .i64 a0, .int .i64 a1, .int .i64 a2] .ex 1)).Closed := closed_push hc1 (by intro x hx; simp at hx; rcases hx with rfl | rfl | rfl <;> exact .int)
  have hc3 : (((h.push (.cells [.int .i64 d, .int .i64 p, .int .i64 s] .ex 1)).push (.cells [.int .i64 a0, .int .i64 a1, .int .i64 a2] .ex 1)).push (.cells [.int .i64 b0, .int .i64 b1, .int .i64 b2] .ex 1)).Closed := closed_push hc2 (by intro x hx; simp at hx; rcases hx with rfl | rfl | rfl <;> exact .int)
  simp [c8, gv, mcells]
  refine (gawake_ok _).mono ?_
  rintro v1 h1 ⟨rfl, e⟩
  subst e
  simp [aun]
  generalize hB3 : (((h.push (.cells [.int .i64 d, .int .i64 p, .int .i64 s] .ex 1)).push (.cells [.int .i64 a0, .int .i64 a1, .int .i64 a2] .ex 1)).push (.cells [.int .i64 b0, .int .i64 b1, .int .i64 b2] .ex 1)) = HB3 at *
  have f0 : HB3.cellsOf h.n = some ([.int .i64 d, .int .i64 p, .int .i64 s], .ex, 1) := by rw [← hB3]; exact cellsOf_push hc2 (cellsOf_push hc1 (cellsOf_new _ _ _ _))
  have f1 : HB3.cellsOf (h.n + 1) = some ([.int .i64 a0, .int .i64 a1, .int .i64 a2], .ex, 1) := by rw [← hB3]; exact cellsOf_push hc2 (cellsOf_new (h.push _) _ _ _)
  have f2 : HB3.cellsOf (h.n + 1 + 1) = some ([.int .i64 b0, .int .i64 b1, .int .i64 b2], .ex, 1) := by rw [← hB3]; exact cellsOf_new ((h.push _).push _) _ _ _
  have f3 : HB3.n = h.n + 1 + 1 + 1 := by rw [← hB3]; rfl
  simp [f0, apart, acut, cellsOf_new, mcells, aput, set_push]
  have hc4 : (HB3.push (.cells [.int .i64 d, .int .i64 p, .int .i64 s] .ex 1)).Closed := closed_push hc3 (by intro x hx; simp at hx; rcases hx with rfl | rfl | rfl <;> exact .int)
  have g0 := cellsOf_push hc3 (o := .cells [.int .i64 d, .int .i64 p, .int .i64 s] .ex 1) f0
  have g1 := cellsOf_push hc3 (o := .cells [.int .i64 d, .int .i64 p, .int .i64 s] .ex 1) f1
  have g2 := cellsOf_push hc3 (o := .cells [.int .i64 d, .int .i64 p, .int .i64 s] .ex 1) f2
  have g3 : (HB3.push (.cells [.int .i64 d, .int .i64 p, .int .i64 s] .ex 1)).cellsOf HB3.n = _ := cellsOf_new HB3 [.int .i64 d, .int .i64 p, .int .i64 s] .ex 1
  generalize HB3.push (.cells [.int .i64 d, .int .i64 p, .int .i64 s] .ex 1) = HB at *
  have i0 : aidx (.int .i64 0) 3 = some 0 := rfl
  have i1 : aidx (.int .i64 1) 3 = some 1 := rfl
  have i2 : aidx (.int .i64 2) 3 = some 2 := rfl
  simp [g0, g1, apart, acut, i0, i1, i2]
  refine (sector_ok d p s a0 a1 a2 _).mono ?_
  rintro v1 h1 ⟨rfl, e⟩
  subst e
  obtain ⟨n1, e1, hs1, hr1, hp1⟩ := sectorR_val d p s a0 a1 a2
  rw [hs1]
  simp [g0, g1, apart, acut, i0, i1, i2]
  refine (half_ok d p s a0 a1 _).mono ?_
  rintro v1 h1 ⟨rfl, e⟩
  subst e
  obtain ⟨n2, e2, hs2, hr2, hp2⟩ := halfR_val d p s a0 a1
  rw [hs2]
  simp [g0, g1, apart, acut, i0, i1, i2]
  refine (tally_ok d p s a0 _).mono ?_
  rintro v1 h1 ⟨rfl, e⟩
  subst e
  obtain ⟨n3, e3, hs3, hr3, hp3⟩ := tallyR_val d p s a0
  rw [hs3]
  simp [g0, g2, apart, acut, i0, i1, i2]
  refine (of_ok d p s b0 _).mono ?_
  rintro v1 h1 ⟨rfl, e⟩
  subst e
  obtain ⟨oa, ok, oi, oo, hs4, ho1, ho2⟩ := ofR_val d p s b0
  rw [hs4]
  simp [g0, g2, apart, acut, i0, i1, i2]
  refine (golden_ok d p s _).mono ?_
  rintro v1 h1 ⟨rfl, e⟩
  subst e
  simp [g3, apart, acut]
  refine (refRight_ok d p s _).mono ?_
  rintro v1 h1 ⟨rfl, e⟩
  subst e
  by_cases hr : right d p s = true
  case neg =>
    have hr' : right d p s = false := by simpa using hr
    obtain ⟨rfl, rfl⟩ := hr1 hr'
    obtain ⟨rfl, rfl⟩ := hr2 hr'
    obtain ⟨rfl, rfl⟩ := hr3 hr'
    obtain ⟨rfl, rfl, rfl, rfl⟩ := ho2 fun q => hr q.1
    have s0 : slot d p s = 0 := by unfold slot; rw [if_neg hr]
    have w0 : wide d p s = 0 := by unfold wide; rw [if_neg hr]
    have a0' : allS d p s = 0 := by unfold allS; rw [if_neg hr]
    have r0 : roomG d p s = 0 := by unfold roomG; rw [if_neg hr]
    simp [hr', aun, g0, apart, acut]
    refine (rightG_ok d p s _).mono ?_
    rintro v1 h1 ⟨rfl, e⟩
    subst e
    simp [hr', aun, g0, apart, acut, i64_zero]
    refine (slot_ok d p s _).mono ?_
    rintro v1 h1 ⟨rfl, e⟩
    subst e
    simp [s0, g0, apart, acut, i64_zero]
    refine (all_ok d p s _).mono ?_
    rintro v1 h1 ⟨rfl, e⟩
    subst e
    simp [a0', g0, apart, acut, i64_zero]
    refine (room_ok d p s _).mono ?_
    rintro v1 h1 ⟨rfl, e⟩
    subst e
    simp [r0, g0, apart, acut, i64_zero]
    refine (wide_ok d p s _).mono ?_
    rintro v1 h1 ⟨rfl, e⟩
    subst e
    simp [w0, i64_zero, aun]
  have hp := right_prop.1 hr
  have hsb := slot_bound (d := d) (p := p) (s := s)
  have hsr := slot_right hr
  have hw : wide d p s = d + p := by unfold wide; rw [if_pos hr]
  have hall : allS d p s = 3 * slot d p s + 18 := by unfold allS; rw [if_pos hr]
  obtain ⟨N, hN⟩ : ∃ N : Nat, 3 * slot d p s + 18 = N := ⟨(3 * slot d p s + 18).toNat, by omega⟩
  simp [hr, aun, g3, apart, acut]
  refine (list_ok d p s hr _).mono' ?_
  rintro v1 HL hcL hvb ⟨hl, hsub⟩
  rw [hN, Int.toNat_natCast] at hl
  have g0 := cellsOf_keep hsub.sub g0
  have g1 := cellsOf_keep hsub.sub g1
  have g2 := cellsOf_keep hsub.sub g2
  have g3 := cellsOf_keep hsub.sub g3
  simp [g0, apart, acut]
  refine (rightG_ok d p s _).mono ?_
  rintro v2 h1 ⟨rfl, e⟩
  subst e
  have hlv := hl
  obtain ⟨lb, lc, lm, le, rfl, hlc⟩ := hlv
  simp [hr, aun, g0, apart, acut]
  refine (all_ok d p s _).mono ?_
  rintro v2 h1 ⟨rfl, e⟩
  subst e
  rw [hall, hN]
  simp [g0, apart, acut]
  refine (slot_ok d p s _).mono ?_
  rintro v2 h1 ⟨rfl, e⟩
  subst e
  have wm : IntKind.i64.wrap (IntKind.i64.wrap (d + p) * s) = slot d p s := by
    rw [i64_sg (n := d + p) (by omega) (by omega), ← hsr.1, i64_sg (by omega) (by omega)]
  have ww : IntKind.i64.wrap (d + p) = wide d p s := by rw [i64_sg (by omega) (by omega), hw]
  simp [g0, apart, acut, wm]
  refine (wide_ok d p s _).mono ?_
  rintro v2 h1 ⟨rfl, e⟩
  subst e
  simp [g0, g3, apart, acut, ww]
  refine (room_ok d p s _).mono ?_
  rintro v2 h1 ⟨rfl, e⟩
  subst e
  simp [g0, g3, apart, acut]
  refine (refRoom_ok d p s hr _).mono ?_
  rintro v2 h1 ⟨rfl, e⟩
  subst e
  simp [g0, g3, apart, acut]
  refine (slot_ok d p s _).mono ?_
  rintro v2 h1 ⟨rfl, e⟩
  subst e
  simp [g0, g1, apart, acut, i0, i1, i2, afill, mcells]
  refine (find_ok d p s _ N (0, a0, a1, a2) _ hl (by omega)).mono ?_
  rintro v2 h1 ⟨⟨k1, rfl, hk1⟩, e⟩
  subst e
  simp
  refine (sect_ok n1 e1 k1 _).mono ?_
  rintro v2 h1 ⟨rfl, e⟩
  subst e
  rw [sect_true (idx := a0 * slot d p s + a2 * s + a1) hk1 (fun r => ?_) (fun i _ hi => place_inj0 hr hi) (hp1 hr).1 (hp1 hr).2]
  rotate_left
  · obtain ⟨_, _, _, q4, q5⟩ := sec_code hr (a := a0) (k := a1) (i := a2) (by omega) (by omega) (by omega)
    exact ⟨q4, by omega, place_slot hr (by omega) (by omega) (by omega)⟩
  simp [g0, g1, apart, acut, i0, i1, i2, afill, mcells]
  refine (find_ok d p s _ N (1, a0, a1, 0) _ hl (by omega)).mono ?_
  rintro v2 h1 ⟨⟨k2, rfl, hk2⟩, e⟩
  subst e
  simp
  refine (sect_ok n2 e2 k2 _).mono ?_
  rintro v2 h1 ⟨rfl, e⟩
  subst e
  rw [sect_true (idx := 3 * slot d p s + (a0 * 2 + a1) * 4) hk2 (fun r => ?_) (fun i _ hi => place_inj1 hi) (hp2 hr).1 (hp2 hr).2]
  rotate_left
  · have := place_log (d := d) (p := p) (s := s) (a := a0) (c := a1) (i := 0) (by omega) (by omega) (by omega)
    refine ⟨by omega, by omega, ?_⟩
    rw [show 3 * slot d p s + (a0 * 2 + a1) * 4 = 3 * slot d p s + 8 * a0 + 4 * a1 + 0 by omega]
    exact this
  simp [g0, g1, apart, acut, i0, i1, i2, afill, mcells]
  refine (find_ok d p s _ N (2, a0, 0, 0) _ hl (by omega)).mono ?_
  rintro v2 h1 ⟨⟨k3, rfl, hk3⟩, e⟩
  subst e
  simp
  refine (sect_ok n3 e3 k3 _).mono ?_
  rintro v2 h1 ⟨rfl, e⟩
  subst e
  rw [sect_true (idx := 3 * slot d p s + 16 + a0) hk3 (fun r => ⟨by omega, by omega, place_tally (by omega)⟩) (fun i hi hq => place_inj2 (by omega) hq) (hp3 hr).1 (hp3 hr).2]
  simp [g2, apart, acut, i0, i1, i2, afill, mcells]
  refine (ofp_ok d p s b0 _ N (0, oa, ok, oi) oo _ hl (by omega)).mono ?_
  rintro v2 h1 ⟨rfl, e⟩
  subst e
  simp
  by_cases hx : 0 ≤ b0 ∧ b0 ≤ 3 * slot d p s - 1
  · obtain ⟨rfl, rfl, rfl, rfl⟩ := ho1 ⟨hr, hx⟩
    have hpl : place d p s b0 = (0, b0 / slot d p s, b0 % slot d p s % s, b0 % slot d p s / s) := by unfold place; rw [if_pos (by omega)]
    rw [if_neg (by rw [hpl]; simp; omega), hpl]
    simp
  · obtain ⟨rfl, rfl, rfl, rfl⟩ := ho2 fun q => hx q.2
    rw [if_pos]
    · simp
    · by_cases h0 : b0 < 0
      · exact .inl h0
      · by_cases h1 : (N : Int) ≤ b0
        · exact .inr (.inl h1)
        · refine .inr (.inr ?_)
          unfold place
          rw [if_neg (by omega)]
          split <;> simp
end Go.Proofs.Ythhhcpbkedikfaa.geo
