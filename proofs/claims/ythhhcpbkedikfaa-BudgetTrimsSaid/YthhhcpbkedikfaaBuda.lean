/-
  Contracts.
-/
import Derived.Test.YthhhcpbkedikfaaGeo
import Derived.Test.YthhhcpbkedikfaaShar
import Derived.Test.YthhhcpbkedikfaaHead
import Derived.Test.YthhhcpbkedikfaaSha
import Derived.Test.YthhhcpbkedikfaaNum
import Derived.Test.YthhhcpbkedikfaaAbEnter
import Derived.Test.YthhhcpbkedikfaaProg
import Derived.IntWalk
import Derived.KernelRfl
set_option linter.unusedSimpArgs false
set_option linter.unusedVariables false
namespace Go.Proofs.Ythhhcpbkedikfaa.buda
open Go Go.Ab Go.Proofs Go.RowKit Go.Proofs.Ythhhcpbkedikfaa.num Go.Proofs.Ythhhcpbkedikfaa.sha Go.Proofs.Ythhhcpbkedikfaa.head Go.Proofs.Ythhhcpbkedikfaa.shar Go.Proofs.Ythhhcpbkedikfaa.geo
set_option maxRecDepth 100000
attribute [local simp] s_ops s_seq s_cond s_cond_t s_cond_f s_block s_exit s_ret s_skip s_then_n s_then_n' s_then_e s_then_e' s_then_r s_then_r' s_block_n s_block_r s_block_e s_post_r s_post_n s_res0 s_res1 s_res2 s_res3 s_res4 s_nil s_cons s_guard s_guard_tt s_guard_ff s_guard_tf s_guard_ft s_guard_u s_call s_kL s_put s_put0 s_set s_tmp s_const s_func s_init s_mkF s_mkF0 s_mv s_bin s_pick s_op aop oK_some oK_none bK_some bK_none b_add b_sub b_mul b_quo b_rem b_and b_or b_xor b_andNot b_shl b_shr b_eql b_neq b_lss b_leq b_gtr b_geq b_sadd b_seql b_sneq b_slss b_sleq b_sgtr b_sgeq s_draw s_drawT s_tK s_tT s_tF s_tB s_tR s_stage s_stage0 s_kW s_kR s_rc0 s_rc s_rcg rK_some rK_none rG_b rG_u s_callv s_callv_f s_nextM s_postR_r s_postR_n s_resA0 s_resAt s_resAc s_resC s_tup0 s_tup1 s_tup2 s_tup3
def c47 : AC := .seq (.ops [⟨ some 0, none, .mv (.const (.bool false)) ⟩]) (.seq (.ops [⟨ some 4, none, .build [.int .i64 0, .int .i64 0, .int .i64 0] [(0, 1, .const (.int .i64 1)), (1, 1, .const (.int .i64 2)), (2, 1, .const (.int .i64 1))] ⟩, ⟨ some 1, none, .alloc [.int .i64 0, .int .i64 0, .int .i64 0] ⟩, ⟨ none, none, .store 3 (.tmp 1) (.tmp 4) ⟩]) (.seq (.ops [⟨ some 5, none, .build [.int .i64 0, .int .i64 0, .string ⟨ ⟨[] ⟩ ⟩, .int .i64 0, .int .u8 0] [(0, 1, .const (.int .i64 15)), (1, 1, .const (.int .i64 0)), (2, 1, .const (.string ⟨ ⟨[120] ⟩ ⟩))] ⟩, ⟨ some 2, none, .alloc [.int .i64 0, .int .i64 0, .string ⟨ ⟨[] ⟩ ⟩, .int .i64 0, .int .u8 0] ⟩, ⟨ none, none, .store 5 (.tmp 2) (.tmp 5) ⟩]) (.seq (.ops [⟨ some 6, none, .build [.int .i64 0, .int .i64 0, .string ⟨ ⟨[] ⟩ ⟩, .int .i64 0, .int .u8 0] [(0, 1, .const (.int .i64 15)), (1, 1, .const (.int .i64 64)), (2, 1, .const (.string ⟨ ⟨[120] ⟩ ⟩))] ⟩, ⟨ some 3, none, .alloc [.int .i64 0, .int .i64 0, .string ⟨ ⟨[] ⟩ ⟩, .int .i64 0, .int .u8 0] ⟩, ⟨ none, none, .store 5 (.tmp 3) (.tmp 6) ⟩]) (.seq (.ops [⟨ some 7, none, .load (some 3) (.tmp 1) ⟩, ⟨ some 8, none, .load (some 5) (.tmp 2) ⟩, ⟨ some 9, none, .buildS 1 [.int .i64 0, .int .i64 0, .string ⟨ ⟨[] ⟩ ⟩, .int .i64 0, .int .u8 0] [(0, 5, .tmp 8)] ⟩, ⟨ some 10, none, .call 50 [.tmp 7, .tmp 9] ⟩, ⟨ some 11, none, .mv (.tmp 10) ⟩, ⟨ some 12, some (11, true), .load (some 3) (.tmp 1) ⟩, ⟨ some 13, some (11, true), .load (some 5) (.tmp 2) ⟩, ⟨ some 14, some (11, true), .load (some 5) (.tmp 2) ⟩, ⟨ some 15, some (11, true), .buildS 2 [.int .i64 0, .int .i64 0, .string ⟨ ⟨[] ⟩ ⟩, .int .i64 0, .int .u8 0, .int .i64 0, .int .i64 0, .string ⟨ ⟨[] ⟩ ⟩, .int .i64 0, .int .u8 0] [(0, 5, .tmp 13), (5, 5, .tmp 14)] ⟩, ⟨ some 16, some (11, true), .call 50 [.tmp 12, .tmp 15] ⟩, ⟨ some 17, none, .pick (.tmp 11) (.tmp 16) (.const (.bool false)) ⟩, ⟨ some 18, none, .mv (.tmp 17) ⟩, ⟨ some 19, some (18, true), .load (some 3) (.tmp 1) ⟩, ⟨ some 20, some (18, true), .load (some 5) (.tmp 2) ⟩, ⟨ some 21, some (18, true), .load (some 5) (.tmp 3) ⟩, ⟨ some 22, some (18, true), .buildS 2 [.int .i64 0, .int .i64 0, .string ⟨ ⟨[] ⟩ ⟩, .int .i64 0, .int .u8 0, .int .i64 0, .int .i64 0, .string ⟨ ⟨[] ⟩ ⟩, .int .i64 0, .int .u8 0] [(0, 5, .tmp 20), (5, 5, .tmp 21)] ⟩, ⟨ some 23, some (18, true), .call 50 [.tmp 19, .tmp 22] ⟩, ⟨ some 24, some (18, true), .un .not (.tmp 23) ⟩, ⟨ some 25, none, .pick (.tmp 18) (.tmp 24) (.const (.bool false)) ⟩, ⟨ some 26, none, .mv (.tmp 25) ⟩, ⟨ some 27, some (26, true), .load (some 3) (.tmp 1) ⟩, ⟨ some 28, some (26, true), .load (some 5) (.tmp 2) ⟩, ⟨ some 29, some (26, true), .load (some 5) (.tmp 3) ⟩, ⟨ some 30, some (26, true), .buildS 2 [.int .i64 0, .int .i64 0, .string ⟨ ⟨[] ⟩ ⟩, .int .i64 0, .int .u8 0, .int .i64 0, .int .i64 0, .string ⟨ ⟨[] ⟩ ⟩, .int .i64 0, .int .u8 0] [(0, 5, .tmp 28), (5, 5, .tmp 29)] ⟩, ⟨ some 31, some (26, true), .call 49 [.tmp 27, .tmp 30] ⟩, ⟨ some 32, some (26, true), .lenS false (.tmp 31) ⟩, ⟨ some 33, some (26, true), .bin .eql (.tmp 32) (.const (.int .i64 1)) ⟩, ⟨ some 34, none, .pick (.tmp 26) (.tmp 33) (.const (.bool false)) ⟩, ⟨ some 0, none, .mv (.tmp 34) ⟩]) .ret))))
theorem k47 : compF Try.prog Try.f47 = some (c47, [0]) := by kernel_rfl
theorem n47 : Try.f47.ntmps = 35 := by kernel_rfl
def c48_0 : AC := .seq (.ops [⟨ some 11, none, .bin .lss (.tmp 10) (.tmp 9) ⟩]) (.seq (.cond (.tmp 11) .skip (.exit 0)) (.seq (.block 1 (.seq (.ops [⟨ some 12, none, .iAddrS 5 (.tmp 8) (.tmp 10) ⟩, ⟨ some 13, none, .load (some 5) (.tmp 12) ⟩, ⟨ some 4, none, .alloc [.int .i64 0, .int .i64 0, .string ⟨ ⟨[] ⟩ ⟩, .int .i64 0, .int .u8 0] ⟩, ⟨ none, none, .store 5 (.tmp 4) (.tmp 13) ⟩]) (.seq (.ops [⟨ some 14, none, .fAddr 2 (.tmp 4) ⟩, ⟨ some 15, none, .load none (.tmp 14) ⟩, ⟨ some 16, none, .lenS true (.tmp 15) ⟩, ⟨ some 17, none, .bin .gtr (.tmp 16) (.const (.int .i64 400)) ⟩]) (.cond (.tmp 17) (.seq (.ops [⟨ some 2, none, .mv (.const (.bool true)) ⟩]) .ret) .skip)))) (.ops [⟨ some 18, none, .bin .add (.tmp 10) (.const (.int .i64 1)) ⟩, ⟨ some 10, none, .mv (.tmp 18) ⟩])))
def c48 : AC := .seq (.ops [⟨ some 2, none, .mv (.const (.bool false)) ⟩]) (.seq (.seq (.ops [⟨ some 5, none, .mv (.tmp 0) ⟩, ⟨ some 6, none, .lenS false (.tmp 5) ⟩, ⟨ some 7, none, .bin .gtr (.tmp 6) (.const (.int .i64 60)) ⟩]) (.cond (.tmp 7) (.seq (.ops [⟨ some 2, none, .mv (.const (.bool true)) ⟩]) .ret) .skip)) (.seq (.seq (.ops [⟨ some 8, none, .mv (.tmp 0) ⟩, ⟨ some 9, none, .lenS false (.tmp 8) ⟩, ⟨ some 10, none, .mv (.const (.int .i64 0)) ⟩]) (.block 0 (.loop c48_0))) (.seq (.ops [⟨ some 2, none, .mv (.const (.bool false)) ⟩]) .ret)))
theorem k48 : compF Try.prog Try.f48 = some (c48, [2]) := by kernel_rfl
theorem n48 : Try.f48.ntmps = 19 := by kernel_rfl
def c49_0 : AC := .seq (.ops [⟨ some 21, none, .bin .lss (.tmp 20) (.tmp 19) ⟩]) (.seq (.cond (.tmp 21) .skip (.exit 0)) (.seq (.block 1 (.seq (.ops [⟨ some 22, none, .iAddrS 5 (.tmp 18) (.tmp 20) ⟩, ⟨ some 23, none, .load (some 5) (.tmp 22) ⟩, ⟨ some 9, none, .alloc [.int .i64 0, .int .i64 0, .string ⟨ ⟨[] ⟩ ⟩, .int .i64 0, .int .u8 0] ⟩, ⟨ none, none, .store 5 (.tmp 9) (.tmp 23) ⟩]) (.seq (.ops [⟨ some 24, none, .mv (.tmp 5) ⟩, ⟨ some 25, none, .call 102 [.tmp 24] ⟩, ⟨ some 10, none, .mv (.tmp 25) ⟩]) (.seq (.ops [⟨ some 26, none, .mv (.tmp 10) ⟩, ⟨ some 27, none, .load (some 5) (.tmp 9) ⟩, ⟨ some 28, none, .buildS 1 [.int .i64 0, .int .i64 0, .string ⟨ ⟨[] ⟩ ⟩, .int .i64 0, .int .u8 0] [(0, 5, .tmp 27)] ⟩, ⟨ some 29, none, .call 52 [.tmp 26, .tmp 28] ⟩]) (.cond (.tmp 29) (.seq (.ops [⟨ some 30, none, .mv (.tmp 10) ⟩, ⟨ some 5, none, .mv (.tmp 30) ⟩]) (.ops [⟨ some 31, none, .mv (.tmp 7) ⟩, ⟨ some 32, none, .load (some 5) (.tmp 9) ⟩, ⟨ some 33, none, .buildS 1 [.int .i64 0, .int .i64 0, .string ⟨ ⟨[] ⟩ ⟩, .int .i64 0, .int .u8 0] [(0, 5, .tmp 32)] ⟩, ⟨ some 34, none, .app 5 48 74 (.tmp 31) (.tmp 33) ⟩, ⟨ some 7, none, .mv (.tmp 34) ⟩])) .skip))))) (.ops [⟨ some 35, none, .bin .add (.tmp 20) (.const (.int .i64 1)) ⟩, ⟨ some 20, none, .mv (.tmp 35) ⟩])))
def c49 : AC := .seq (.ops [⟨ some 2, none, .box (.tmp 0) ⟩, ⟨ some 4, none, .mv (.const (.slice none 0 0)) ⟩]) (.seq (.ops [⟨ some 12, none, .load (some 3) (.tmp 2) ⟩, ⟨ some 13, none, .call 51 [.tmp 12] ⟩, ⟨ some 11, none, .mv (.tmp 13) ⟩, ⟨ some 14, none, .extr (.tmp 11) 0 ⟩, ⟨ some 15, none, .extr (.tmp 11) 1 ⟩, ⟨ some 5, none, .mv (.tmp 14) ⟩, ⟨ some 6, none, .mv (.tmp 15) ⟩]) (.seq (.seq (.ops [⟨ some 16, none, .mv (.tmp 6) ⟩, ⟨ some 17, none, .bin .neq (.tmp 16) (.const (.int .i64 0)) ⟩]) (.cond (.tmp 17) (.seq (.ops [⟨ some 4, none, .mv (.const (.slice none 0 0)) ⟩]) .ret) .skip)) (.seq (.ops [⟨ some 7, none, .mv (.const (.slice none 0 0)) ⟩]) (.seq (.seq (.ops [⟨ some 18, none, .mv (.tmp 1) ⟩, ⟨ some 19, none, .lenS false (.tmp 18) ⟩, ⟨ some 20, none, .mv (.const (.int .i64 0)) ⟩]) (.block 0 (.loop c49_0))) (.seq (.ops [⟨ some 36, none, .mv (.tmp 7) ⟩, ⟨ some 4, none, .mv (.tmp 36) ⟩]) .ret)))))
theorem k49 : compF Try.prog Try.f49 = some (c49, [4]) := by kernel_rfl
theorem n49 : Try.f49.ntmps = 37 := by kernel_rfl
def c50 : AC := .seq (.ops [⟨ some 2, none, .box (.tmp 0) ⟩, ⟨ some 4, none, .mv (.const (.bool false)) ⟩]) (.seq (.ops [⟨ some 8, none, .load (some 3) (.tmp 2) ⟩, ⟨ some 9, none, .call 51 [.tmp 8] ⟩, ⟨ some 7, none, .mv (.tmp 9) ⟩, ⟨ some 10, none, .extr (.tmp 7) 0 ⟩, ⟨ some 11, none, .extr (.tmp 7) 1 ⟩, ⟨ some 5, none, .mv (.tmp 10) ⟩, ⟨ some 6, none, .mv (.tmp 11) ⟩]) (.seq (.ops [⟨ some 12, none, .mv (.tmp 5) ⟩, ⟨ some 13, none, .mv (.tmp 1) ⟩, ⟨ some 14, none, .call 52 [.tmp 12, .tmp 13] ⟩, ⟨ some 4, none, .mv (.tmp 14) ⟩]) .ret))
theorem k50 : compF Try.prog Try.f50 = some (c50, [4]) := by kernel_rfl
theorem n50 : Try.f50.ntmps = 15 := by kernel_rfl
def c51 : AC := .seq (.ops [⟨ some 1, none, .box (.tmp 0) ⟩, ⟨ some 2, none, .mv (.const (.pointer none)) ⟩, ⟨ some 3, none, .mv (.const (.int .i64 0)) ⟩]) (.seq (.seq (.ops [⟨ some 4, none, .load (some 3) (.tmp 1) ⟩, ⟨ some 5, none, .call 40 [.tmp 4] ⟩, ⟨ some 6, none, .un .not (.tmp 5) ⟩]) (.cond (.tmp 6) (.seq (.ops [⟨ some 2, none, .mv (.const (.pointer none)) ⟩, ⟨ some 3, none, .mv (.const (.int .i64 1)) ⟩]) .ret) .skip)) (.seq (.ops [⟨ some 7, none, .load (some 3) (.tmp 1) ⟩, ⟨ some 8, none, .mkMap ⟩, ⟨ some 9, none, .mkMap ⟩, ⟨ some 10, none, .build [.int .i64 0, .int .i64 0, .int .i64 0, .map none, .map none, .bool false] [(0, 3, .tmp 7), (3, 1, .tmp 8), (4, 1, .tmp 9)] ⟩, ⟨ some 11, none, .box (.tmp 10) ⟩, ⟨ some 2, none, .mv (.tmp 11) ⟩, ⟨ some 3, none, .mv (.const (.int .i64 0)) ⟩]) .ret))
theorem k51 : compF Try.prog Try.f51 = some (c51, [2, 3]) := by kernel_rfl
theorem n51 : Try.f51.ntmps = 12 := by kernel_rfl
def c52_2 : AC := .seq (.ops [⟨ some 51, none, .bin .lss (.tmp 50) (.tmp 49) ⟩]) (.seq (.cond (.tmp 51) .skip (.exit 2)) (.seq (.block 3 (.seq (.ops [⟨ some 52, none, .mv (.tmp 50) ⟩, ⟨ some 8, none, .mv (.tmp 52) ⟩]) (.seq (.ops [⟨ some 53, none, .fAddr 2 (.tmp 6) ⟩, ⟨ some 54, none, .load none (.tmp 53) ⟩, ⟨ some 55, none, .mv (.tmp 8) ⟩, ⟨ some 56, none, .iStr (.tmp 54) (.tmp 55) ⟩, ⟨ some 57, none, .bin .neq (.tmp 56) (.const (.int .u8 0)) ⟩]) (.cond (.tmp 57) (.ops [⟨ some 58, none, .mv (.tmp 0) ⟩, ⟨ some 59, none, .fAddr 1 (.tmp 6) ⟩, ⟨ some 60, none, .load none (.tmp 59) ⟩, ⟨ some 61, none, .mv (.tmp 8) ⟩, ⟨ some 62, none, .bin .add (.tmp 60) (.tmp 61) ⟩, ⟨ some 63, none, .bin .quo (.tmp 62) (.const (.int .i64 64)) ⟩, ⟨ some 64, none, .call 103 [.tmp 58, .tmp 63] ⟩]) .skip)))) (.ops [⟨ some 65, none, .bin .add (.tmp 50) (.const (.int .i64 1)) ⟩, ⟨ some 50, none, .mv (.tmp 65) ⟩])))
def c52_0 : AC := .seq (.ops [⟨ some 14, none, .bin .lss (.tmp 13) (.tmp 12) ⟩]) (.seq (.cond (.tmp 14) .skip (.exit 0)) (.seq (.block 1 (.seq (.ops [⟨ some 15, none, .iAddrS 5 (.tmp 11) (.tmp 13) ⟩, ⟨ some 16, none, .load (some 5) (.tmp 15) ⟩, ⟨ some 6, none, .alloc [.int .i64 0, .int .i64 0, .string ⟨ ⟨[] ⟩ ⟩, .int .i64 0, .int .u8 0] ⟩, ⟨ none, none, .store 5 (.tmp 6) (.tmp 16) ⟩]) (.seq (.ops [⟨ some 17, none, .mv (.tmp 0) ⟩, ⟨ some 18, none, .nilck (.tmp 17) ⟩, ⟨ some 19, none, .fAddr 0 (.tmp 18) ⟩, ⟨ some 20, none, .load (some 3) (.tmp 19) ⟩, ⟨ some 21, none, .call 38 [.tmp 20] ⟩, ⟨ some 22, none, .bin .mul (.tmp 21) (.const (.int .i64 64)) ⟩, ⟨ some 7, none, .mv (.tmp 22) ⟩]) (.seq (.seq (.ops [⟨ some 23, none, .fAddr 0 (.tmp 6) ⟩, ⟨ some 24, none, .load none (.tmp 23) ⟩, ⟨ some 25, none, .bin .neq (.tmp 24) (.const (.int .i64 15)) ⟩, ⟨ some 26, none, .mv (.tmp 25) ⟩, ⟨ some 27, some (26, false), .fAddr 1 (.tmp 6) ⟩, ⟨ some 28, some (26, false), .load none (.tmp 27) ⟩, ⟨ some 29, some (26, false), .bin .lss (.tmp 28) (.const (.int .i64 0)) ⟩, ⟨ some 30, none, .pick (.tmp 26) (.const (.bool true)) (.tmp 29) ⟩, ⟨ some 31, none, .mv (.tmp 30) ⟩, ⟨ some 32, some (31, false), .fAddr 1 (.tmp 6) ⟩, ⟨ some 33, some (31, false), .load none (.tmp 32) ⟩, ⟨ some 34, some (31, false), .mv (.tmp 7) ⟩, ⟨ some 35, some (31, false), .bin .gtr (.tmp 33) (.tmp 34) ⟩, ⟨ some 36, none, .pick (.tmp 31) (.const (.bool true)) (.tmp 35) ⟩, ⟨ some 37, none, .mv (.tmp 36) ⟩, ⟨ some 38, some (37, false), .fAddr 2 (.tmp 6) ⟩, ⟨ some 39, some (37, false), .load none (.tmp 38) ⟩, ⟨ some 40, some (37, false), .lenS true (.tmp 39) ⟩, ⟨ some 41, some (37, false), .mv (.tmp 7) ⟩, ⟨ some 42, some (37, false), .fAddr 1 (.tmp 6) ⟩, ⟨ some 43, some (37, false), .load none (.tmp 42) ⟩, ⟨ some 44, some (37, false), .bin .sub (.tmp 41) (.tmp 43) ⟩, ⟨ some 45, some (37, false), .bin .gtr (.tmp 40) (.tmp 44) ⟩, ⟨ some 46, none, .pick (.tmp 37) (.const (.bool true)) (.tmp 45) ⟩]) (.cond (.tmp 46) (.exit 1) .skip)) (.seq (.ops [⟨ some 47, none, .fAddr 2 (.tmp 6) ⟩, ⟨ some 48, none, .load none (.tmp 47) ⟩, ⟨ some 49, none, .lenS true (.tmp 48) ⟩, ⟨ some 50, none, .mv (.const (.int .i64 0)) ⟩]) (.block 2 (.loop c52_2))))))) (.ops [⟨ some 66, none, .bin .add (.tmp 13) (.const (.int .i64 1)) ⟩, ⟨ some 13, none, .mv (.tmp 66) ⟩])))
def c52 : AC := .seq (.ops [⟨ some 4, none, .mv (.const (.bool false)) ⟩]) (.seq (.seq (.ops [⟨ some 9, none, .mv (.tmp 0) ⟩, ⟨ some 10, none, .eqv false .ptr (.tmp 9) (.const (.pointer none)) ⟩]) (.cond (.tmp 10) (.seq (.ops [⟨ some 4, none, .mv (.const (.bool false)) ⟩]) .ret) .skip)) (.seq (.seq (.ops [⟨ some 11, none, .mv (.tmp 1) ⟩, ⟨ some 12, none, .lenS false (.tmp 11) ⟩, ⟨ some 13, none, .mv (.const (.int .i64 0)) ⟩]) (.block 0 (.loop c52_0))) (.seq (.ops [⟨ some 67, none, .mv (.tmp 0) ⟩, ⟨ some 68, none, .call 54 [.tmp 67] ⟩, ⟨ some 4, none, .mv (.tmp 68) ⟩]) .ret)))
theorem k52 : compF Try.prog Try.f52 = some (c52, [4]) := by kernel_rfl
theorem n52 : Try.f52.ntmps = 69 := by kernel_rfl
def c53 : AC := .seq (.ops [⟨ some 6, none, .mv (.const (.int .i64 0)) ⟩]) (.seq (.seq (.ops [⟨ some 7, none, .mv (.tmp 0) ⟩, ⟨ some 8, none, .eqv false .ptr (.tmp 7) (.const (.pointer none)) ⟩]) (.cond (.tmp 8) (.seq (.ops [⟨ some 6, none, .mv (.const (.int .i64 0)) ⟩]) .ret) .skip)) (.seq (.ops [⟨ some 9, none, .mv (.tmp 0) ⟩, ⟨ some 10, none, .nilck (.tmp 9) ⟩, ⟨ some 11, none, .fAddr 4 (.tmp 10) ⟩, ⟨ some 12, none, .load none (.tmp 11) ⟩, ⟨ some 13, none, .mv (.tmp 1) ⟩, ⟨ some 14, none, .mv (.tmp 2) ⟩, ⟨ some 15, none, .build [.int .i64 0, .int .i64 0] [(0, 1, .tmp 13), (1, 1, .tmp 14)] ⟩, ⟨ some 16, none, .look ⟨ true, [.i, .i] ⟩ (.int .i64 0) (.tmp 12) (.tmp 15) false ⟩, ⟨ some 6, none, .mv (.tmp 16) ⟩]) .ret))
theorem k53 : compF Try.prog Try.f53 = some (c53, [6]) := by kernel_rfl
theorem n53 : Try.f53.ntmps = 17 := by kernel_rfl
def c54_0 : AC := .seq (.ops [⟨ some 18, none, .nextM (.tmp 17) ⟩, ⟨ some 19, none, .extr (.tmp 18) 0 ⟩]) (.seq (.cond (.tmp 19) .skip (.exit 0)) (.block 1 (.seq (.ops [⟨ some 20, none, .entryM (.tmp 17) ⟩, ⟨ some 21, none, .extr (.tmp 20) 1 ⟩, ⟨ some 4, none, .mv (.tmp 21) ⟩]) (.seq (.ops [⟨ some 22, none, .mv (.tmp 4) ⟩, ⟨ some 23, none, .mv (.tmp 0) ⟩, ⟨ some 24, none, .nilck (.tmp 23) ⟩, ⟨ some 25, none, .fAddr 0 (.tmp 24) ⟩, ⟨ some 26, none, .fAddr 1 (.tmp 25) ⟩, ⟨ some 27, none, .load none (.tmp 26) ⟩, ⟨ some 28, none, .bin .quo (.tmp 27) (.const (.int .i64 2)) ⟩, ⟨ some 29, none, .bin .gtr (.tmp 22) (.tmp 28) ⟩]) (.cond (.tmp 29) (.seq (.ops [⟨ some 2, none, .mv (.const (.bool false)) ⟩]) .ret) .skip)))))
def c54 : AC := .seq (.ops [⟨ some 2, none, .mv (.const (.bool false)) ⟩]) (.seq (.seq (.ops [⟨ some 5, none, .mv (.tmp 0) ⟩, ⟨ some 6, none, .eqv false .ptr (.tmp 5) (.const (.pointer none)) ⟩, ⟨ some 7, none, .mv (.tmp 6) ⟩, ⟨ some 8, some (7, false), .mv (.tmp 0) ⟩, ⟨ some 9, some (7, false), .nilck (.tmp 8) ⟩, ⟨ some 10, some (7, false), .fAddr 5 (.tmp 9) ⟩, ⟨ some 11, some (7, false), .load none (.tmp 10) ⟩, ⟨ some 12, none, .pick (.tmp 7) (.const (.bool true)) (.tmp 11) ⟩]) (.cond (.tmp 12) (.seq (.ops [⟨ some 2, none, .mv (.const (.bool false)) ⟩]) .ret) .skip)) (.seq (.seq (.ops [⟨ some 13, none, .mv (.tmp 0) ⟩, ⟨ some 14, none, .nilck (.tmp 13) ⟩, ⟨ some 15, none, .fAddr 4 (.tmp 14) ⟩, ⟨ some 16, none, .load none (.tmp 15) ⟩, ⟨ some 17, none, .rangeM (.tmp 16) ⟩]) (.block 0 (.loop c54_0))) (.seq (.ops [⟨ some 2, none, .mv (.const (.bool true)) ⟩]) .ret)))
theorem k54 : compF Try.prog Try.f54 = some (c54, [2]) := by kernel_rfl
theorem n54 : Try.f54.ntmps = 30 := by kernel_rfl
def c55 : AC := .seq (.ops [⟨ some 2, none, .box (.tmp 0) ⟩, ⟨ some 4, none, .mv (.const (.int .i64 0)) ⟩]) (.seq (.seq (.ops [⟨ some 5, none, .load (some 3) (.tmp 2) ⟩, ⟨ some 6, none, .call 40 [.tmp 5] ⟩, ⟨ some 7, none, .un .not (.tmp 6) ⟩]) (.cond (.tmp 7) (.seq (.ops [⟨ some 4, none, .mv (.const (.int .i64 0)) ⟩]) .ret) .skip)) (.seq (.ops [⟨ some 8, none, .mv (.tmp 1) ⟩, ⟨ some 9, none, .mx [.tmp 8, .const (.int .i64 0)] ⟩, ⟨ some 10, none, .mn [.tmp 9, .const (.int .i64 1000)] ⟩, ⟨ some 11, none, .bin .add (.tmp 10) (.const (.int .i64 1)) ⟩, ⟨ some 12, none, .bin .mul (.tmp 11) (.const (.int .i64 3)) ⟩, ⟨ some 13, none, .fAddr 2 (.tmp 2) ⟩, ⟨ some 14, none, .load none (.tmp 13) ⟩, ⟨ some 15, none, .bin .mul (.tmp 12) (.tmp 14) ⟩, ⟨ some 4, none, .mv (.tmp 15) ⟩]) .ret))
theorem k55 : compF Try.prog Try.f55 = some (c55, [4]) := by kernel_rfl
theorem n55 : Try.f55.ntmps = 16 := by kernel_rfl
def c56 : AC := .seq (.ops [⟨ some 1, none, .box (.tmp 0) ⟩, ⟨ some 2, none, .mv (.const (.int .i64 0)) ⟩]) (.seq (.seq (.ops [⟨ some 3, none, .load (some 3) (.tmp 1) ⟩, ⟨ some 4, none, .call 40 [.tmp 3] ⟩, ⟨ some 5, none, .un .not (.tmp 4) ⟩]) (.cond (.tmp 5) (.seq (.ops [⟨ some 2, none, .mv (.const (.int .i64 0)) ⟩]) .ret) .skip)) (.seq (.ops [⟨ some 6, none, .load (some 3) (.tmp 1) ⟩, ⟨ some 7, none, .call 38 [.tmp 6] ⟩, ⟨ some 8, none, .bin .mul (.const (.int .i64 9)) (.tmp 7) ⟩, ⟨ some 9, none, .bin .add (.tmp 8) (.const (.int .i64 200)) ⟩, ⟨ some 2, none, .mv (.tmp 9) ⟩]) .ret))
theorem k56 : compF Try.prog Try.f56 = some (c56, [2]) := by kernel_rfl
theorem n56 : Try.f56.ntmps = 10 := by kernel_rfl
def c57_2 : AC := .seq (.seq (.ops [⟨ some 49, none, .mv (.tmp 7) ⟩, ⟨ some 50, none, .mv (.tmp 1) ⟩, ⟨ some 51, none, .mv (.tmp 6) ⟩, ⟨ some 52, none, .iAddrS 2 (.tmp 50) (.tmp 51) ⟩, ⟨ some 53, none, .fAddr 1 (.tmp 52) ⟩, ⟨ some 54, none, .load none (.tmp 53) ⟩, ⟨ some 55, none, .lenS true (.tmp 54) ⟩, ⟨ some 56, none, .bin .lss (.tmp 49) (.tmp 55) ⟩]) (.cond (.tmp 56) .skip (.exit 2))) (.seq (.block 3 (.seq (.ops [⟨ some 59, none, .mv (.tmp 1) ⟩, ⟨ some 60, none, .mv (.tmp 6) ⟩, ⟨ some 61, none, .iAddrS 2 (.tmp 59) (.tmp 60) ⟩, ⟨ some 62, none, .fAddr 1 (.tmp 61) ⟩, ⟨ some 63, none, .load none (.tmp 62) ⟩, ⟨ some 64, none, .mv (.tmp 7) ⟩, ⟨ some 65, none, .iStr (.tmp 63) (.tmp 64) ⟩, ⟨ some 66, none, .bin .neq (.tmp 65) (.const (.int .u8 0)) ⟩]) (.cond (.tmp 66) (.ops [⟨ some 67, none, .mv (.tmp 5) ⟩, ⟨ some 68, none, .mv (.tmp 1) ⟩, ⟨ some 69, none, .mv (.tmp 6) ⟩, ⟨ some 70, none, .iAddrS 2 (.tmp 68) (.tmp 69) ⟩, ⟨ some 71, none, .fAddr 0 (.tmp 70) ⟩, ⟨ some 72, none, .load none (.tmp 71) ⟩, ⟨ some 73, none, .mv (.tmp 7) ⟩, ⟨ some 74, none, .bin .add (.tmp 72) (.tmp 73) ⟩, ⟨ some 75, none, .bin .quo (.tmp 74) (.const (.int .i64 64)) ⟩, ⟨ some 76, none, .iAddrS 1 (.tmp 67) (.tmp 75) ⟩, ⟨ none, none, .store 1 (.tmp 76) (.const (.bool true)) ⟩]) .skip))) (.ops [⟨ some 57, none, .mv (.tmp 7) ⟩, ⟨ some 58, none, .bin .add (.tmp 57) (.const (.int .i64 1)) ⟩, ⟨ some 7, none, .mv (.tmp 58) ⟩]))
def c57_0 : AC := .seq (.seq (.ops [⟨ some 10, none, .mv (.tmp 6) ⟩, ⟨ some 11, none, .mv (.tmp 1) ⟩, ⟨ some 12, none, .lenS false (.tmp 11) ⟩, ⟨ some 13, none, .bin .lss (.tmp 10) (.tmp 12) ⟩]) (.cond (.tmp 13) .skip (.exit 0))) (.seq (.block 1 (.seq (.seq (.draw [([⟨ some 16, none, .mv (.tmp 1) ⟩, ⟨ some 17, none, .mv (.tmp 6) ⟩, ⟨ some 18, none, .iAddrS 2 (.tmp 16) (.tmp 17) ⟩, ⟨ some 19, none, .fAddr 0 (.tmp 18) ⟩, ⟨ some 20, none, .load none (.tmp 19) ⟩, ⟨ some 21, none, .bin .lss (.tmp 20) (.const (.int .i64 0)) ⟩, ⟨ some 22, none, .mv (.tmp 21) ⟩, ⟨ some 23, some (22, false), .mv (.tmp 1) ⟩, ⟨ some 24, some (22, false), .mv (.tmp 6) ⟩, ⟨ some 25, some (22, false), .iAddrS 2 (.tmp 23) (.tmp 24) ⟩, ⟨ some 26, some (22, false), .fAddr 0 (.tmp 25) ⟩, ⟨ some 27, some (22, false), .load none (.tmp 26) ⟩, ⟨ some 28, some (22, false), .mv (.tmp 0) ⟩, ⟨ some 29, some (22, false), .bin .mul (.const (.int .i64 64)) (.tmp 28) ⟩, ⟨ some 30, some (22, false), .bin .gtr (.tmp 27) (.tmp 29) ⟩, ⟨ some 31, none, .pick (.tmp 22) (.const (.bool true)) (.tmp 30) ⟩, ⟨ some 32, none, .mv (.tmp 31) ⟩, ⟨ some 33, some (32, false), .mv (.tmp 1) ⟩, ⟨ some 34, some (32, false), .mv (.tmp 6) ⟩, ⟨ some 35, some (32, false), .iAddrS 2 (.tmp 33) (.tmp 34) ⟩, ⟨ some 36, some (32, false), .fAddr 1 (.tmp 35) ⟩, ⟨ some 37, some (32, false), .load none (.tmp 36) ⟩, ⟨ some 38, some (32, false), .lenS true (.tmp 37) ⟩, ⟨ some 39, some (32, false), .mv (.tmp 0) ⟩, ⟨ some 40, some (32, false), .bin .mul (.const (.int .i64 64)) (.tmp 39) ⟩, ⟨ some 41, some (32, false), .mv (.tmp 1) ⟩, ⟨ some 42, some (32, false), .mv (.tmp 6) ⟩, ⟨ some 43, some (32, false), .iAddrS 2 (.tmp 41) (.tmp 42) ⟩, ⟨ some 44, some (32, false), .fAddr 0 (.tmp 43) ⟩, ⟨ some 45, some (32, false), .load none (.tmp 44) ⟩, ⟨ some 46, some (32, false), .bin .sub (.tmp 40) (.tmp 45) ⟩, ⟨ some 47, some (32, false), .bin .gtr (.tmp 38) (.tmp 46) ⟩, ⟨ some 48, none, .pick (.tmp 32) (.const (.bool true)) (.tmp 47) ⟩], [], [])]) (.cond (.tmp 48) (.exit 1) .skip)) (.seq (.ops [⟨ some 7, none, .mv (.const (.int .i64 0)) ⟩]) (.block 2 (.loop c57_2))))) (.ops [⟨ some 14, none, .mv (.tmp 6) ⟩, ⟨ some 15, none, .bin .add (.tmp 14) (.const (.int .i64 1)) ⟩, ⟨ some 6, none, .mv (.tmp 15) ⟩]))
def c57 : AC := .seq (.ops [⟨ some 4, none, .mv (.const (.slice none 0 0)) ⟩]) (.seq (.ops [⟨ some 8, none, .mv (.tmp 0) ⟩, ⟨ some 9, none, .mkSl [.bool false] 1 (.tmp 8) (.tmp 8) ⟩, ⟨ some 5, none, .mv (.tmp 9) ⟩]) (.seq (.seq (.ops [⟨ some 6, none, .mv (.const (.int .i64 0)) ⟩]) (.block 0 (.loop c57_0))) (.seq (.ops [⟨ some 77, none, .mv (.tmp 5) ⟩, ⟨ some 4, none, .mv (.tmp 77) ⟩]) .ret)))
theorem k57 : compF Try.prog Try.f57 = some (c57, [4]) := by kernel_rfl
theorem n57 : Try.f57.ntmps = 78 := by kernel_rfl
def c58_0 : AC := .seq (.ops [⟨ some 9, none, .bin .lss (.tmp 8) (.tmp 7) ⟩]) (.seq (.cond (.tmp 9) .skip (.exit 0)) (.seq (.block 1 (.seq (.ops [⟨ some 10, none, .iAddrS 5 (.tmp 6) (.tmp 8) ⟩, ⟨ some 11, none, .load (some 5) (.tmp 10) ⟩, ⟨ some 5, none, .alloc [.int .i64 0, .int .i64 0, .string ⟨ ⟨[] ⟩ ⟩, .int .i64 0, .int .u8 0] ⟩, ⟨ none, none, .store 5 (.tmp 5) (.tmp 11) ⟩]) (.seq (.ops [⟨ some 12, none, .fAddr 0 (.tmp 5) ⟩, ⟨ some 13, none, .load none (.tmp 12) ⟩, ⟨ some 14, none, .bin .eql (.tmp 13) (.const (.int .i64 15)) ⟩]) (.cond (.tmp 14) (.ops [⟨ some 15, none, .mv (.tmp 3) ⟩, ⟨ some 16, none, .fAddr 1 (.tmp 5) ⟩, ⟨ some 17, none, .load none (.tmp 16) ⟩, ⟨ some 18, none, .fAddr 2 (.tmp 5) ⟩, ⟨ some 19, none, .load none (.tmp 18) ⟩, ⟨ some 20, none, .build [.int .i64 0, .string ⟨ ⟨[] ⟩ ⟩] [(0, 1, .tmp 17), (1, 1, .tmp 19)] ⟩, ⟨ some 21, none, .buildS 1 [.int .i64 0, .string ⟨ ⟨[] ⟩ ⟩] [(0, 2, .tmp 20)] ⟩, ⟨ some 22, none, .app 2 24 171 (.tmp 15) (.tmp 21) ⟩, ⟨ some 3, none, .mv (.tmp 22) ⟩]) .skip)))) (.ops [⟨ some 23, none, .bin .add (.tmp 8) (.const (.int .i64 1)) ⟩, ⟨ some 8, none, .mv (.tmp 23) ⟩])))
def c58 : AC := .seq (.ops [⟨ some 2, none, .mv (.const (.slice none 0 0)) ⟩]) (.seq (.ops [⟨ some 3, none, .mv (.const (.slice none 0 0)) ⟩]) (.seq (.seq (.ops [⟨ some 6, none, .mv (.tmp 0) ⟩, ⟨ some 7, none, .lenS false (.tmp 6) ⟩, ⟨ some 8, none, .mv (.const (.int .i64 0)) ⟩]) (.block 0 (.loop c58_0))) (.seq (.ops [⟨ some 24, none, .mv (.tmp 3) ⟩, ⟨ some 2, none, .mv (.tmp 24) ⟩]) .ret)))
theorem k58 : compF Try.prog Try.f58 = some (c58, [2]) := by kernel_rfl
theorem n58 : Try.f58.ntmps = 25 := by kernel_rfl
def c59_0 : AC := .seq (.seq (.ops [⟨ some 9, none, .mv (.tmp 6) ⟩, ⟨ some 10, none, .mv (.tmp 5) ⟩, ⟨ some 11, none, .lenS false (.tmp 10) ⟩, ⟨ some 12, none, .bin .lss (.tmp 9) (.tmp 11) ⟩]) (.cond (.tmp 12) .skip (.exit 0))) (.seq (.block 1 (.seq (.draw [([⟨ some 15, none, .mv (.tmp 1) ⟩, ⟨ some 16, none, .mv (.tmp 6) ⟩, ⟨ some 17, none, .iAddrS 1 (.tmp 15) (.tmp 16) ⟩, ⟨ some 18, none, .load none (.tmp 17) ⟩, ⟨ some 19, none, .mv (.tmp 18) ⟩, ⟨ some 20, some (19, true), .mv (.tmp 5) ⟩, ⟨ some 21, some (19, true), .mv (.tmp 6) ⟩, ⟨ some 22, some (19, true), .iAddrS 4 (.tmp 20) (.tmp 21) ⟩, ⟨ some 23, some (19, true), .fAddr 0 (.tmp 22) ⟩, ⟨ some 24, some (19, true), .load none (.tmp 23) ⟩, ⟨ some 25, some (19, true), .bin .neq (.tmp 24) (.const (.int .i64 0)) ⟩, ⟨ some 26, some (19, true), .mv (.tmp 25) ⟩, ⟨ some 27, some (26, false), .load (some 3) (.tmp 2) ⟩, ⟨ some 28, some (26, false), .mv (.tmp 1) ⟩, ⟨ some 29, some (26, false), .mv (.tmp 5) ⟩, ⟨ some 30, some (26, false), .mv (.tmp 6) ⟩, ⟨ some 31, some (26, false), .iAddrS 4 (.tmp 29) (.tmp 30) ⟩, ⟨ some 32, some (26, false), .fAddr 1 (.tmp 31) ⟩, ⟨ some 33, some (26, false), .load none (.tmp 32) ⟩, ⟨ some 34, some (26, false), .mv (.tmp 5) ⟩, ⟨ some 35, some (26, false), .mv (.tmp 6) ⟩, ⟨ some 36, some (26, false), .iAddrS 4 (.tmp 34) (.tmp 35) ⟩, ⟨ some 37, some (26, false), .fAddr 2 (.tmp 36) ⟩, ⟨ some 38, some (26, false), .load none (.tmp 37) ⟩, ⟨ some 40, some (26, false), .fAddr 1 (.tmp 2) ⟩, ⟨ some 41, some (26, false), .load none (.tmp 40) ⟩, ⟨ some 42, some (26, false), .bin .quo (.tmp 41) (.const (.int .i64 2)) ⟩], [⟨ some 39, some (26, false), .call 60 [.tmp 27, .tmp 28, .tmp 33, .tmp 38] ⟩], [⟨ some 41, some (26, false), .load none (.tmp 40) ⟩]), ([⟨ some 43, some (26, false), .bin .gtr (.tmp 39) (.tmp 42) ⟩, ⟨ some 44, some (19, true), .pick (.tmp 26) (.const (.bool true)) (.tmp 43) ⟩, ⟨ some 45, none, .pick (.tmp 19) (.tmp 44) (.const (.bool false)) ⟩], [], [])]) (.cond (.tmp 45) (.seq (.ops [⟨ some 4, none, .mv (.const (.bool false)) ⟩]) .ret) .skip))) (.ops [⟨ some 13, none, .mv (.tmp 6) ⟩, ⟨ some 14, none, .bin .add (.tmp 13) (.const (.int .i64 1)) ⟩, ⟨ some 6, none, .mv (.tmp 14) ⟩]))
def c59 : AC := .seq (.ops [⟨ some 2, none, .box (.tmp 0) ⟩, ⟨ some 4, none, .mv (.const (.bool false)) ⟩]) (.seq (.ops [⟨ some 7, none, .load (some 3) (.tmp 2) ⟩, ⟨ some 8, none, .call 42 [.tmp 7] ⟩, ⟨ some 5, none, .mv (.tmp 8) ⟩]) (.seq (.seq (.ops [⟨ some 6, none, .mv (.const (.int .i64 0)) ⟩]) (.block 0 (.loop c59_0))) (.seq (.ops [⟨ some 4, none, .mv (.const (.bool true)) ⟩]) .ret)))
theorem k59 : compF Try.prog Try.f59 = some (c59, [4]) := by kernel_rfl
theorem n59 : Try.f59.ntmps = 46 := by kernel_rfl
def c60_0 : AC := .seq (.seq (.ops [⟨ some 14, none, .mv (.tmp 11) ⟩, ⟨ some 15, none, .mv (.tmp 9) ⟩, ⟨ some 16, none, .lenS false (.tmp 15) ⟩, ⟨ some 17, none, .bin .lss (.tmp 14) (.tmp 16) ⟩]) (.cond (.tmp 17) .skip (.exit 0))) (.seq (.block 1 (.seq (.ops [⟨ some 20, none, .mv (.tmp 9) ⟩, ⟨ some 21, none, .mv (.tmp 11) ⟩, ⟨ some 22, none, .iAddrS 4 (.tmp 20) (.tmp 21) ⟩, ⟨ some 23, none, .fAddr 0 (.tmp 22) ⟩, ⟨ some 24, none, .load none (.tmp 23) ⟩, ⟨ some 25, none, .bin .eql (.tmp 24) (.const (.int .i64 0)) ⟩, ⟨ some 26, none, .mv (.tmp 25) ⟩, ⟨ some 27, some (26, true), .mv (.tmp 9) ⟩, ⟨ some 28, some (26, true), .mv (.tmp 11) ⟩, ⟨ some 29, some (26, true), .iAddrS 4 (.tmp 27) (.tmp 28) ⟩, ⟨ some 30, some (26, true), .fAddr 1 (.tmp 29) ⟩, ⟨ some 31, some (26, true), .load none (.tmp 30) ⟩, ⟨ some 32, some (26, true), .mv (.tmp 2) ⟩, ⟨ some 33, some (26, true), .bin .eql (.tmp 31) (.tmp 32) ⟩, ⟨ some 34, none, .pick (.tmp 26) (.tmp 33) (.const (.bool false)) ⟩, ⟨ some 35, none, .mv (.tmp 34) ⟩, ⟨ some 36, some (35, true), .mv (.tmp 9) ⟩, ⟨ some 37, some (35, true), .mv (.tmp 11) ⟩, ⟨ some 38, some (35, true), .iAddrS 4 (.tmp 36) (.tmp 37) ⟩, ⟨ some 39, some (35, true), .fAddr 2 (.tmp 38) ⟩, ⟨ some 40, some (35, true), .load none (.tmp 39) ⟩, ⟨ some 41, some (35, true), .mv (.tmp 3) ⟩, ⟨ some 42, some (35, true), .bin .eql (.tmp 40) (.tmp 41) ⟩, ⟨ some 43, none, .pick (.tmp 35) (.tmp 42) (.const (.bool false)) ⟩, ⟨ some 44, none, .mv (.tmp 43) ⟩, ⟨ some 45, some (44, true), .mv (.tmp 1) ⟩, ⟨ some 46, some (44, true), .mv (.tmp 11) ⟩, ⟨ some 47, some (44, true), .iAddrS 1 (.tmp 45) (.tmp 46) ⟩, ⟨ some 48, some (44, true), .load none (.tmp 47) ⟩, ⟨ some 49, none, .pick (.tmp 44) (.tmp 48) (.const (.bool false)) ⟩]) (.cond (.tmp 49) (.ops [⟨ some 50, none, .mv (.tmp 10) ⟩, ⟨ some 51, none, .bin .add (.tmp 50) (.const (.int .i64 1)) ⟩, ⟨ some 10, none, .mv (.tmp 51) ⟩]) .skip))) (.ops [⟨ some 18, none, .mv (.tmp 11) ⟩, ⟨ some 19, none, .bin .add (.tmp 18) (.const (.int .i64 1)) ⟩, ⟨ some 11, none, .mv (.tmp 19) ⟩]))
def c60 : AC := .seq (.ops [⟨ some 4, none, .box (.tmp 0) ⟩, ⟨ some 8, none, .mv (.const (.int .i64 0)) ⟩]) (.seq (.ops [⟨ some 12, none, .load (some 3) (.tmp 4) ⟩, ⟨ some 13, none, .call 42 [.tmp 12] ⟩, ⟨ some 9, none, .mv (.tmp 13) ⟩]) (.seq (.ops [⟨ some 10, none, .mv (.const (.int .i64 0)) ⟩]) (.seq (.seq (.ops [⟨ some 11, none, .mv (.const (.int .i64 0)) ⟩]) (.block 0 (.loop c60_0))) (.seq (.ops [⟨ some 52, none, .mv (.tmp 10) ⟩, ⟨ some 8, none, .mv (.tmp 52) ⟩]) .ret))))
theorem k60 : compF Try.prog Try.f60 = some (c60, [8]) := by kernel_rfl
theorem n60 : Try.f60.ntmps = 53 := by kernel_rfl
def c102 : AC := .seq (.ops [⟨ some 2, none, .mv (.const (.pointer none)) ⟩]) (.seq (.draw [([⟨ some 3, none, .mv (.tmp 0) ⟩, ⟨ some 4, none, .nilck (.tmp 3) ⟩, ⟨ some 5, none, .fAddr 0 (.tmp 4) ⟩, ⟨ some 6, none, .load (some 3) (.tmp 5) ⟩, ⟨ some 7, none, .mv (.tmp 0) ⟩, ⟨ some 8, none, .nilck (.tmp 7) ⟩, ⟨ some 9, none, .fAddr 3 (.tmp 8) ⟩, ⟨ some 10, none, .load none (.tmp 9) ⟩, ⟨ some 12, none, .mv (.tmp 0) ⟩, ⟨ some 13, none, .nilck (.tmp 12) ⟩, ⟨ some 14, none, .fAddr 4 (.tmp 13) ⟩, ⟨ some 15, none, .load none (.tmp 14) ⟩, ⟨ some 17, none, .mv (.tmp 0) ⟩, ⟨ some 18, none, .nilck (.tmp 17) ⟩, ⟨ some 19, none, .fAddr 5 (.tmp 18) ⟩, ⟨ some 20, none, .load none (.tmp 19) ⟩], [⟨ some 11, none, .call 127 [.tmp 10] ⟩], [⟨ some 6, none, .load (some 3) (.tmp 5) ⟩, ⟨ some 15, none, .load none (.tmp 14) ⟩, ⟨ some 20, none, .load none (.tmp 19) ⟩]), ([], [⟨ some 16, none, .call 128 [.tmp 15] ⟩], [⟨ some 6, none, .load (some 3) (.tmp 5) ⟩, ⟨ some 20, none, .load none (.tmp 19) ⟩]), ([⟨ some 21, none, .build [.int .i64 0, .int .i64 0, .int .i64 0, .map none, .map none, .bool false] [(0, 3, .tmp 6), (3, 1, .tmp 11), (4, 1, .tmp 16), (5, 1, .tmp 20)] ⟩], [⟨ some 22, none, .box (.tmp 21) ⟩], []), ([⟨ some 2, none, .mv (.tmp 22) ⟩], [], [])]) .ret)
theorem k102 : compF Try.prog Try.f102 = some (c102, [2]) := by kernel_rfl
theorem n102 : Try.f102.ntmps = 23 := by kernel_rfl
def c103 : AC := .seq (.ops [⟨ some 9, none, .mv (.tmp 0) ⟩, ⟨ some 10, none, .nilck (.tmp 9) ⟩, ⟨ some 11, none, .fAddr 0 (.tmp 10) ⟩, ⟨ some 12, none, .load (some 3) (.tmp 11) ⟩, ⟨ some 13, none, .mv (.tmp 1) ⟩, ⟨ some 14, none, .call 28 [.tmp 12, .tmp 13] ⟩, ⟨ some 8, none, .mv (.tmp 14) ⟩, ⟨ some 15, none, .extr (.tmp 8) 0 ⟩, ⟨ some 16, none, .extr (.tmp 8) 1 ⟩, ⟨ some 17, none, .extr (.tmp 8) 2 ⟩, ⟨ some 18, none, .extr (.tmp 8) 3 ⟩, ⟨ some 4, none, .mv (.tmp 15) ⟩, ⟨ some 5, none, .mv (.tmp 16) ⟩, ⟨ some 6, none, .mv (.tmp 17) ⟩, ⟨ some 7, none, .mv (.tmp 18) ⟩]) (.block 0 (.seq (.ops [⟨ some 20, none, .mv (.tmp 7) ⟩, ⟨ some 21, none, .un .not (.tmp 20) ⟩, ⟨ some 19, none, .mv (.tmp 21) ⟩]) (.cond (.tmp 19) (.ops [⟨ some 22, none, .mv (.tmp 0) ⟩, ⟨ some 23, none, .nilck (.tmp 22) ⟩, ⟨ some 24, none, .fAddr 5 (.tmp 23) ⟩, ⟨ none, none, .store 1 (.tmp 24) (.const (.bool true)) ⟩]) (.seq (.ops [⟨ some 26, none, .mv (.tmp 0) ⟩, ⟨ some 27, none, .nilck (.tmp 26) ⟩, ⟨ some 28, none, .fAddr 3 (.tmp 27) ⟩, ⟨ some 29, none, .load none (.tmp 28) ⟩, ⟨ some 30, none, .mv (.tmp 1) ⟩, ⟨ some 31, none, .look ⟨ false, [.i] ⟩ (.bool false) (.tmp 29) (.tmp 30) false ⟩, ⟨ some 32, none, .un .not (.tmp 31) ⟩, ⟨ some 25, none, .mv (.tmp 32) ⟩]) (.cond (.tmp 25) (.seq (.ops [⟨ some 33, none, .mv (.tmp 0) ⟩, ⟨ some 34, none, .nilck (.tmp 33) ⟩, ⟨ some 35, none, .fAddr 3 (.tmp 34) ⟩, ⟨ some 36, none, .load none (.tmp 35) ⟩, ⟨ some 37, none, .mv (.tmp 1) ⟩, ⟨ none, none, .mupd ⟨ false, [.i] ⟩ (.tmp 36) (.tmp 37) (.const (.bool true)) ⟩]) (.draw [([⟨ some 38, none, .mv (.tmp 0) ⟩, ⟨ some 39, none, .nilck (.tmp 38) ⟩, ⟨ some 40, none, .fAddr 4 (.tmp 39) ⟩, ⟨ some 41, none, .load none (.tmp 40) ⟩, ⟨ some 42, none, .mv (.tmp 4) ⟩, ⟨ some 43, none, .mv (.tmp 5) ⟩, ⟨ some 44, none, .build [.int .i64 0, .int .i64 0] [(0, 1, .tmp 42), (1, 1, .tmp 43)] ⟩, ⟨ some 45, none, .look ⟨ true, [.i, .i] ⟩ (.int .i64 0) (.tmp 41) (.tmp 44) false ⟩, ⟨ some 46, none, .bin .add (.tmp 45) (.const (.int .i64 1)) ⟩], [⟨ some 47, none, .mentry ⟨ true, [.i, .i] ⟩ (.int .i64 0) (.tmp 41) (.tmp 44) ⟩], [⟨ some 45, none, .look ⟨ true, [.i, .i] ⟩ (.int .i64 0) (.tmp 41) (.tmp 44) false ⟩]), ([⟨ some 48, none, .extr (.tmp 47) 1 ⟩], [⟨ none, none, .estore (.tmp 41) (.tmp 48) (.tmp 46) ⟩], []), ([], [], [])])) .skip)))))
theorem k103 : compF Try.prog Try.f103 = some (c103, []) := by kernel_rfl
theorem n103 : Try.f103.ntmps = 49 := by kernel_rfl
def c127 : AC := .seq (.ops [⟨ some 2, none, .mv (.const (.map none)) ⟩]) (.seq (.seq (.ops [⟨ some 3, none, .mv (.tmp 0) ⟩, ⟨ some 4, none, .eqv false .map (.tmp 3) (.const (.map none)) ⟩]) (.cond (.tmp 4) (.seq (.ops [⟨ some 2, none, .mv (.const (.map none)) ⟩]) .ret) .skip)) (.seq (.ops [⟨ some 5, none, .mv (.tmp 0) ⟩, ⟨ some 6, none, .mkI 48 (.tmp 5) ⟩, ⟨ some 7, none, .mclone (.tmp 6) ⟩, ⟨ some 8, none, .tassert 48 (.tmp 7) ⟩, ⟨ some 2, none, .mv (.tmp 8) ⟩]) .ret))
theorem k127 : compF Try.prog Try.f127 = some (c127, [2]) := by kernel_rfl
theorem n127 : Try.f127.ntmps = 9 := by kernel_rfl
def c128 : AC := .seq (.ops [⟨ some 2, none, .mv (.const (.map none)) ⟩]) (.seq (.seq (.ops [⟨ some 3, none, .mv (.tmp 0) ⟩, ⟨ some 4, none, .eqv false .map (.tmp 3) (.const (.map none)) ⟩]) (.cond (.tmp 4) (.seq (.ops [⟨ some 2, none, .mv (.const (.map none)) ⟩]) .ret) .skip)) (.seq (.ops [⟨ some 5, none, .mv (.tmp 0) ⟩, ⟨ some 6, none, .mkI 164 (.tmp 5) ⟩, ⟨ some 7, none, .mclone (.tmp 6) ⟩, ⟨ some 8, none, .tassert 164 (.tmp 7) ⟩, ⟨ some 2, none, .mv (.tmp 8) ⟩]) .ret))
theorem k128 : compF Try.prog Try.f128 = some (c128, [2]) := by kernel_rfl
theorem n128 : Try.f128.ntmps = 9 := by kernel_rfl
def c10 : AC := .seq (.ops [⟨ some 3, none, .box (.tmp 0) ⟩, ⟨ some 6, none, .mv (.const (.bool false)) ⟩]) (.seq (.seq (.ops [⟨ some 14, none, .call 47 [] ⟩, ⟨ some 15, none, .un .not (.tmp 14) ⟩]) (.cond (.tmp 15) (.seq (.ops [⟨ some 6, none, .mv (.const (.bool false)) ⟩]) .ret) .skip)) (.seq (.seq (.ops [⟨ some 16, none, .mv (.tmp 1) ⟩, ⟨ some 17, none, .call 48 [.tmp 16] ⟩, ⟨ some 18, none, .mv (.tmp 17) ⟩, ⟨ some 19, some (18, false), .load (some 3) (.tmp 3) ⟩, ⟨ some 20, some (18, false), .call 26 [.tmp 19] ⟩, ⟨ some 21, some (18, false), .un .not (.tmp 20) ⟩, ⟨ some 22, none, .pick (.tmp 18) (.const (.bool true)) (.tmp 21) ⟩]) (.cond (.tmp 22) (.seq (.ops [⟨ some 6, none, .mv (.const (.bool true)) ⟩]) .ret) .skip)) (.seq (.ops [⟨ some 24, none, .load (some 3) (.tmp 3) ⟩, ⟨ some 25, none, .call 51 [.tmp 24] ⟩, ⟨ some 23, none, .mv (.tmp 25) ⟩, ⟨ some 26, none, .extr (.tmp 23) 0 ⟩, ⟨ some 27, none, .extr (.tmp 23) 1 ⟩, ⟨ some 7, none, .mv (.tmp 26) ⟩, ⟨ some 8, none, .mv (.tmp 27) ⟩]) (.seq (.ops [⟨ some 29, none, .load (some 3) (.tmp 3) ⟩, ⟨ some 30, none, .call 51 [.tmp 29] ⟩, ⟨ some 28, none, .mv (.tmp 30) ⟩, ⟨ some 31, none, .extr (.tmp 28) 0 ⟩, ⟨ some 32, none, .extr (.tmp 28) 1 ⟩, ⟨ some 9, none, .mv (.tmp 31) ⟩, ⟨ some 10, none, .mv (.tmp 32) ⟩]) (.seq (.seq (.ops [⟨ some 33, none, .mv (.tmp 8) ⟩, ⟨ some 34, none, .bin .neq (.tmp 33) (.const (.int .i64 0)) ⟩, ⟨ some 35, none, .mv (.tmp 34) ⟩, ⟨ some 36, some (35, false), .mv (.tmp 10) ⟩, ⟨ some 37, some (35, false), .bin .neq (.tmp 36) (.const (.int .i64 0)) ⟩, ⟨ some 38, none, .pick (.tmp 35) (.const (.bool true)) (.tmp 37) ⟩]) (.cond (.tmp 38) (.seq (.ops [⟨ some 6, none, .mv (.const (.bool false)) ⟩]) .ret) .skip)) (.seq (.ops [⟨ some 39, none, .mv (.tmp 2) ⟩, ⟨ some 40, none, .toInt .i64 (.tmp 39) ⟩, ⟨ some 41, none, .mv (.tmp 1) ⟩, ⟨ some 42, none, .lenS false (.tmp 41) ⟩, ⟨ some 43, none, .bin .add (.tmp 42) (.const (.int .i64 1)) ⟩, ⟨ some 44, none, .bin .rem (.tmp 40) (.tmp 43) ⟩, ⟨ some 11, none, .mv (.tmp 44) ⟩]) (.seq (.ops [⟨ some 45, none, .mv (.tmp 7) ⟩, ⟨ some 46, none, .mv (.tmp 1) ⟩, ⟨ some 47, none, .call 52 [.tmp 45, .tmp 46] ⟩]) (.seq (.ops [⟨ some 48, none, .mv (.tmp 9) ⟩, ⟨ some 49, none, .mv (.tmp 1) ⟩, ⟨ some 50, none, .mv (.tmp 11) ⟩, ⟨ some 51, none, .slV 5 (.tmp 49) (some (.tmp 50)) none none ⟩, ⟨ some 52, none, .call 52 [.tmp 48, .tmp 51] ⟩]) (.seq (.ops [⟨ some 53, none, .mv (.tmp 9) ⟩, ⟨ some 54, none, .mv (.tmp 1) ⟩, ⟨ some 55, none, .mv (.tmp 11) ⟩, ⟨ some 56, none, .slV 5 (.tmp 54) none (some (.tmp 55)) none ⟩, ⟨ some 57, none, .call 52 [.tmp 53, .tmp 56] ⟩]) (.seq (.seq (.ops [⟨ some 12, none, .mv (.const (.int .i64 0)) ⟩]) (.block 0 (.loop (.seq (.seq (.ops [⟨ some 58, none, .mv (.tmp 12) ⟩, ⟨ some 59, none, .bin .lss (.tmp 58) (.const (.int .i64 3)) ⟩]) (.cond (.tmp 59) .skip (.exit 0))) (.seq (.block 1 (.seq (.ops [⟨ some 13, none, .mv (.const (.int .i64 0)) ⟩]) (.block 2 (.loop (.seq (.seq (.ops [⟨ some 62, none, .mv (.tmp 13) ⟩, ⟨ some 63, none, .fAddr 2 (.tmp 3) ⟩, ⟨ some 64, none, .load none (.tmp 63) ⟩, ⟨ some 65, none, .bin .lss (.tmp 62) (.tmp 64) ⟩]) (.cond (.tmp 65) .skip (.exit 2))) (.seq (.block 3 (.seq (.draw [([⟨ some 68, none, .mv (.tmp 7) ⟩, ⟨ some 69, none, .mv (.tmp 12) ⟩, ⟨ some 70, none, .mv (.tmp 13) ⟩, ⟨ some 72, none, .mv (.tmp 9) ⟩, ⟨ some 73, none, .mv (.tmp 12) ⟩, ⟨ some 74, none, .mv (.tmp 13) ⟩], [⟨ some 71, none, .call 53 [.tmp 68, .tmp 69, .tmp 70] ⟩], []), ([], [⟨ some 75, none, .call 53 [.tmp 72, .tmp 73, .tmp 74] ⟩], []), ([⟨ some 76, none, .bin .neq (.tmp 71) (.tmp 75) ⟩, ⟨ some 77, none, .mv (.tmp 76) ⟩, ⟨ some 78, some (77, false), .mv (.tmp 7) ⟩, ⟨ some 79, some (77, false), .mv (.tmp 12) ⟩, ⟨ some 80, some (77, false), .mv (.tmp 13) ⟩, ⟨ some 82, some (77, false), .load (some 3) (.tmp 3) ⟩], [⟨ some 81, some (77, false), .call 53 [.tmp 78, .tmp 79, .tmp 80] ⟩], [⟨ some 82, some (77, false), .load (some 3) (.tmp 3) ⟩]), ([], [⟨ some 83, some (77, false), .call 34 [.tmp 82] ⟩], []), ([⟨ some 84, some (77, false), .bin .gtr (.tmp 81) (.tmp 83) ⟩, ⟨ some 85, none, .pick (.tmp 77) (.const (.bool true)) (.tmp 84) ⟩], [], [])]) (.cond (.tmp 85) (.seq (.ops [⟨ some 6, none, .mv (.const (.bool false)) ⟩]) .ret) .skip))) (.ops [⟨ some 66, none, .mv (.tmp 13) ⟩, ⟨ some 67, none, .bin .add (.tmp 66) (.const (.int .i64 1)) ⟩, ⟨ some 13, none, .mv (.tmp 67) ⟩]))))))) (.ops [⟨ some 60, none, .mv (.tmp 12) ⟩, ⟨ some 61, none, .bin .add (.tmp 60) (.const (.int .i64 1)) ⟩, ⟨ some 12, none, .mv (.tmp 61) ⟩])))))) (.seq (.ops [⟨ some 86, none, .mv (.tmp 7) ⟩, ⟨ some 87, none, .call 54 [.tmp 86] ⟩, ⟨ some 88, none, .mv (.tmp 9) ⟩, ⟨ some 89, none, .call 54 [.tmp 88] ⟩, ⟨ some 90, none, .eqv false .bool (.tmp 87) (.tmp 89) ⟩, ⟨ some 6, none, .mv (.tmp 90) ⟩]) .ret)))))))))))
theorem k10 : compF Try.prog Try.f10 = some (c10, [6]) := by kernel_rfl
theorem n10 : Try.f10.ntmps = 91 := by kernel_rfl
def c11 : AC := .seq (.ops [⟨ some 2, none, .box (.tmp 0) ⟩, ⟨ some 4, none, .mv (.const (.bool false)) ⟩]) (.seq (.seq (.ops [⟨ some 12, none, .call 47 [] ⟩, ⟨ some 13, none, .un .not (.tmp 12) ⟩]) (.cond (.tmp 13) (.seq (.ops [⟨ some 4, none, .mv (.const (.bool false)) ⟩]) .ret) .skip)) (.seq (.seq (.ops [⟨ some 14, none, .mv (.tmp 1) ⟩, ⟨ some 15, none, .call 48 [.tmp 14] ⟩]) (.cond (.tmp 15) (.seq (.ops [⟨ some 4, none, .mv (.const (.bool true)) ⟩]) .ret) .skip)) (.seq (.ops [⟨ some 17, none, .load (some 3) (.tmp 2) ⟩, ⟨ some 18, none, .call 51 [.tmp 17] ⟩, ⟨ some 16, none, .mv (.tmp 18) ⟩, ⟨ some 19, none, .extr (.tmp 16) 0 ⟩, ⟨ some 20, none, .extr (.tmp 16) 1 ⟩, ⟨ some 5, none, .mv (.tmp 19) ⟩, ⟨ some 6, none, .mv (.tmp 20) ⟩]) (.seq (.ops [⟨ some 21, none, .load (some 3) (.tmp 2) ⟩, ⟨ some 7, none, .alloc [.int .i64 0, .int .i64 0, .int .i64 0] ⟩, ⟨ none, none, .store 3 (.tmp 7) (.tmp 21) ⟩]) (.seq (.seq (.ops [⟨ some 22, none, .load (some 3) (.tmp 7) ⟩, ⟨ some 23, none, .call 26 [.tmp 22] ⟩, ⟨ some 24, none, .un .not (.tmp 23) ⟩]) (.cond (.tmp 24) (.seq (.ops [⟨ some 25, none, .mv (.tmp 5) ⟩, ⟨ some 26, none, .eqv false .ptr (.tmp 25) (.const (.pointer none)) ⟩, ⟨ some 27, none, .mv (.tmp 26) ⟩, ⟨ some 28, some (27, true), .mv (.tmp 6) ⟩, ⟨ some 29, some (27, true), .bin .eql (.tmp 28) (.const (.int .i64 1)) ⟩, ⟨ some 30, none, .pick (.tmp 27) (.tmp 29) (.const (.bool false)) ⟩, ⟨ some 31, none, .mv (.tmp 30) ⟩, ⟨ some 32, some (31, true), .load (some 3) (.tmp 2) ⟩, ⟨ some 33, some (31, true), .mv (.tmp 1) ⟩, ⟨ some 34, some (31, true), .call 50 [.tmp 32, .tmp 33] ⟩, ⟨ some 35, some (31, true), .un .not (.tmp 34) ⟩, ⟨ some 36, none, .pick (.tmp 31) (.tmp 35) (.const (.bool false)) ⟩, ⟨ some 37, none, .mv (.tmp 36) ⟩, ⟨ some 38, some (37, true), .load (some 3) (.tmp 2) ⟩, ⟨ some 39, some (37, true), .mv (.tmp 1) ⟩, ⟨ some 40, some (37, true), .call 49 [.tmp 38, .tmp 39] ⟩, ⟨ some 41, some (37, true), .lenS false (.tmp 40) ⟩, ⟨ some 42, some (37, true), .bin .eql (.tmp 41) (.const (.int .i64 0)) ⟩, ⟨ some 43, none, .pick (.tmp 37) (.tmp 42) (.const (.bool false)) ⟩, ⟨ some 44, none, .mv (.tmp 43) ⟩, ⟨ some 45, some (44, true), .load (some 3) (.tmp 2) ⟩, ⟨ some 46, some (44, true), .call 55 [.tmp 45, .const (.int .i64 1)] ⟩, ⟨ some 47, some (44, true), .bin .eql (.tmp 46) (.const (.int .i64 0)) ⟩, ⟨ some 48, none, .pick (.tmp 44) (.tmp 47) (.const (.bool false)) ⟩, ⟨ some 49, none, .mv (.tmp 48) ⟩, ⟨ some 50, some (49, true), .load (some 3) (.tmp 2) ⟩, ⟨ some 51, some (49, true), .call 56 [.tmp 50] ⟩, ⟨ some 52, some (49, true), .bin .eql (.tmp 51) (.const (.int .i64 0)) ⟩, ⟨ some 53, none, .pick (.tmp 49) (.tmp 52) (.const (.bool false)) ⟩, ⟨ some 4, none, .mv (.tmp 53) ⟩]) .ret) .skip)) (.seq (.seq (.ops [⟨ some 54, none, .mv (.tmp 5) ⟩, ⟨ some 55, none, .eqv false .ptr (.tmp 54) (.const (.pointer none)) ⟩, ⟨ some 56, none, .mv (.tmp 55) ⟩, ⟨ some 57, some (56, false), .mv (.tmp 6) ⟩, ⟨ some 58, some (56, false), .bin .neq (.tmp 57) (.const (.int .i64 0)) ⟩, ⟨ some 59, none, .pick (.tmp 56) (.const (.bool true)) (.tmp 58) ⟩]) (.cond (.tmp 59) (.seq (.ops [⟨ some 4, none, .mv (.const (.bool false)) ⟩]) .ret) .skip)) (.seq (.ops [⟨ some 60, none, .load (some 3) (.tmp 2) ⟩, ⟨ some 61, none, .call 38 [.tmp 60] ⟩, ⟨ some 62, none, .mv (.tmp 1) ⟩, ⟨ some 63, none, .call 58 [.tmp 62] ⟩, ⟨ some 64, none, .call 57 [.tmp 61, .tmp 63] ⟩, ⟨ some 8, none, .mv (.tmp 64) ⟩]) (.seq (.ops [⟨ some 65, none, .load (some 3) (.tmp 7) ⟩, ⟨ some 66, none, .mv (.tmp 8) ⟩, ⟨ some 67, none, .call 59 [.tmp 65, .tmp 66] ⟩, ⟨ some 9, none, .mv (.tmp 67) ⟩]) (.seq (.seq (.ops [⟨ some 68, none, .mv (.tmp 5) ⟩, ⟨ some 69, none, .mv (.tmp 1) ⟩, ⟨ some 70, none, .call 52 [.tmp 68, .tmp 69] ⟩, ⟨ some 71, none, .mv (.tmp 9) ⟩, ⟨ some 72, none, .eqv true .bool (.tmp 70) (.tmp 71) ⟩, ⟨ some 73, none, .mv (.tmp 72) ⟩, ⟨ some 74, some (73, false), .mv (.tmp 5) ⟩, ⟨ some 75, some (73, false), .call 54 [.tmp 74] ⟩, ⟨ some 76, some (73, false), .mv (.tmp 9) ⟩, ⟨ some 77, some (73, false), .eqv true .bool (.tmp 75) (.tmp 76) ⟩, ⟨ some 78, none, .pick (.tmp 73) (.const (.bool true)) (.tmp 77) ⟩, ⟨ some 79, none, .mv (.tmp 78) ⟩, ⟨ some 80, some (79, false), .load (some 3) (.tmp 2) ⟩, ⟨ some 81, some (79, false), .mv (.tmp 1) ⟩, ⟨ some 82, some (79, false), .call 50 [.tmp 80, .tmp 81] ⟩, ⟨ some 83, some (79, false), .mv (.tmp 9) ⟩, ⟨ some 84, some (79, false), .eqv true .bool (.tmp 82) (.tmp 83) ⟩, ⟨ some 85, none, .pick (.tmp 79) (.const (.bool true)) (.tmp 84) ⟩]) (.cond (.tmp 85) (.seq (.ops [⟨ some 4, none, .mv (.const (.bool false)) ⟩]) .ret) .skip)) (.seq (.seq (.ops [⟨ some 10, none, .mv (.const (.int .i64 0)) ⟩]) (.block 0 (.loop (.seq (.seq (.ops [⟨ some 86, none, .mv (.tmp 10) ⟩, ⟨ some 87, none, .bin .lss (.tmp 86) (.const (.int .i64 3)) ⟩]) (.cond (.tmp 87) .skip (.exit 0))) (.seq (.block 1 (.seq (.ops [⟨ some 11, none, .mv (.const (.int .i64 0)) ⟩]) (.block 2 (.loop (.seq (.seq (.ops [⟨ some 90, none, .mv (.tmp 11) ⟩, ⟨ some 91, none, .fAddr 2 (.tmp 2) ⟩, ⟨ some 92, none, .load none (.tmp 91) ⟩, ⟨ some 93, none, .bin .lss (.tmp 90) (.tmp 92) ⟩]) (.cond (.tmp 93) .skip (.exit 2))) (.seq (.block 3 (.seq (.draw [([⟨ some 96, none, .mv (.tmp 5) ⟩, ⟨ some 97, none, .mv (.tmp 10) ⟩, ⟨ some 98, none, .mv (.tmp 11) ⟩, ⟨ some 100, none, .load (some 3) (.tmp 7) ⟩, ⟨ some 101, none, .mv (.tmp 8) ⟩, ⟨ some 102, none, .mv (.tmp 10) ⟩, ⟨ some 103, none, .mv (.tmp 11) ⟩], [⟨ some 99, none, .call 53 [.tmp 96, .tmp 97, .tmp 98] ⟩], [⟨ some 100, none, .load (some 3) (.tmp 7) ⟩]), ([], [⟨ some 104, none, .call 60 [.tmp 100, .tmp 101, .tmp 102, .tmp 103] ⟩], []), ([⟨ some 105, none, .bin .neq (.tmp 99) (.tmp 104) ⟩], [], [])]) (.cond (.tmp 105) (.seq (.ops [⟨ some 4, none, .mv (.const (.bool false)) ⟩]) .ret) .skip))) (.ops [⟨ some 94, none, .mv (.tmp 11) ⟩, ⟨ some 95, none, .bin .add (.tmp 94) (.const (.int .i64 1)) ⟩, ⟨ some 11, none, .mv (.tmp 95) ⟩]))))))) (.ops [⟨ some 88, none, .mv (.tmp 10) ⟩, ⟨ some 89, none, .bin .add (.tmp 88) (.const (.int .i64 1)) ⟩, ⟨ some 10, none, .mv (.tmp 89) ⟩])))))) (.seq (.ops [⟨ some 106, none, .mv (.tmp 5) ⟩, ⟨ some 107, none, .call 53 [.tmp 106, .const (.int .i64 3), .const (.int .i64 0)] ⟩, ⟨ some 108, none, .bin .eql (.tmp 107) (.const (.int .i64 0)) ⟩, ⟨ some 4, none, .mv (.tmp 108) ⟩]) .ret)))))))))))
theorem k11 : compF Try.prog Try.f11 = some (c11, [4]) := by kernel_rfl
theorem n11 : Try.f11.ntmps = 109 := by kernel_rfl
def c12 : AC := .seq (.ops [⟨ some 2, none, .box (.tmp 0) ⟩, ⟨ some 4, none, .mv (.const (.bool false)) ⟩]) (.seq (.seq (.ops [⟨ some 7, none, .call 47 [] ⟩, ⟨ some 8, none, .un .not (.tmp 7) ⟩]) (.cond (.tmp 8) (.seq (.ops [⟨ some 4, none, .mv (.const (.bool false)) ⟩]) .ret) .skip)) (.seq (.ops [⟨ some 5, none, .mv (.const (.pointer none)) ⟩]) (.seq (.seq (.ops [⟨ some 9, none, .mv (.tmp 5) ⟩, ⟨ some 10, none, .call 52 [.tmp 9, .const (.slice none 0 0)] ⟩, ⟨ some 11, none, .mv (.tmp 10) ⟩, ⟨ some 12, some (11, false), .mv (.tmp 5) ⟩, ⟨ some 13, some (11, false), .call 54 [.tmp 12] ⟩, ⟨ some 14, none, .pick (.tmp 11) (.const (.bool true)) (.tmp 13) ⟩, ⟨ some 15, none, .mv (.tmp 14) ⟩, ⟨ some 16, some (15, false), .mv (.tmp 5) ⟩, ⟨ some 17, some (15, false), .call 53 [.tmp 16, .const (.int .i64 0), .const (.int .i64 0)] ⟩, ⟨ some 18, some (15, false), .bin .neq (.tmp 17) (.const (.int .i64 0)) ⟩, ⟨ some 19, none, .pick (.tmp 15) (.const (.bool true)) (.tmp 18) ⟩]) (.cond (.tmp 19) (.seq (.ops [⟨ some 4, none, .mv (.const (.bool false)) ⟩]) .ret) .skip)) (.seq (.seq (.ops [⟨ some 20, none, .load (some 3) (.tmp 2) ⟩, ⟨ some 21, none, .call 26 [.tmp 20] ⟩, ⟨ some 22, none, .un .not (.tmp 21) ⟩]) (.cond (.tmp 22) (.seq (.ops [⟨ some 23, none, .load (some 3) (.tmp 2) ⟩, ⟨ some 24, none, .mv (.tmp 1) ⟩, ⟨ some 25, none, .call 55 [.tmp 23, .tmp 24] ⟩, ⟨ some 26, none, .bin .eql (.tmp 25) (.const (.int .i64 0)) ⟩, ⟨ some 27, none, .mv (.tmp 26) ⟩, ⟨ some 28, some (27, true), .load (some 3) (.tmp 2) ⟩, ⟨ some 29, some (27, true), .call 56 [.tmp 28] ⟩, ⟨ some 30, some (27, true), .bin .eql (.tmp 29) (.const (.int .i64 0)) ⟩, ⟨ some 31, none, .pick (.tmp 27) (.tmp 30) (.const (.bool false)) ⟩, ⟨ some 4, none, .mv (.tmp 31) ⟩]) .ret) .skip)) (.seq (.ops [⟨ some 32, none, .mv (.tmp 1) ⟩, ⟨ some 33, none, .mx [.tmp 32, .const (.int .i64 0)] ⟩, ⟨ some 34, none, .mn [.tmp 33, .const (.int .i64 1000)] ⟩, ⟨ some 6, none, .mv (.tmp 34) ⟩]) (.seq (.draw [([⟨ some 35, none, .load (some 3) (.tmp 2) ⟩, ⟨ some 36, none, .mv (.tmp 1) ⟩, ⟨ some 38, none, .mv (.tmp 6) ⟩, ⟨ some 39, none, .bin .add (.tmp 38) (.const (.int .i64 1)) ⟩, ⟨ some 40, none, .bin .mul (.tmp 39) (.const (.int .i64 3)) ⟩, ⟨ some 41, none, .fAddr 2 (.tmp 2) ⟩, ⟨ some 42, none, .load none (.tmp 41) ⟩, ⟨ some 43, none, .bin .mul (.tmp 40) (.tmp 42) ⟩], [⟨ some 37, none, .call 55 [.tmp 35, .tmp 36] ⟩], [⟨ some 42, none, .load none (.tmp 41) ⟩]), ([⟨ some 44, none, .bin .eql (.tmp 37) (.tmp 43) ⟩, ⟨ some 45, none, .mv (.tmp 44) ⟩, ⟨ some 46, some (45, true), .load (some 3) (.tmp 2) ⟩, ⟨ some 48, some (45, true), .load (some 3) (.tmp 2) ⟩], [⟨ some 47, some (45, true), .call 56 [.tmp 46] ⟩], [⟨ some 48, some (45, true), .load (some 3) (.tmp 2) ⟩]), ([], [⟨ some 49, some (45, true), .call 38 [.tmp 48] ⟩], []), ([⟨ some 50, some (45, true), .bin .mul (.const (.int .i64 9)) (.tmp 49) ⟩, ⟨ some 51, some (45, true), .bin .add (.tmp 50) (.const (.int .i64 200)) ⟩, ⟨ some 52, some (45, true), .bin .eql (.tmp 47) (.tmp 51) ⟩, ⟨ some 53, none, .pick (.tmp 45) (.tmp 52) (.const (.bool false)) ⟩, ⟨ some 4, none, .mv (.tmp 53) ⟩], [], [])]) .ret))))))
theorem k12 : compF Try.prog Try.f12 = some (c12, [4]) := by kernel_rfl
theorem n12 : Try.f12.ntmps = 54 := by kernel_rfl
/-- the sectors hit, as the map has them -/
def hitF : Nat → List Int → List MEnt
  | _, [] => []
  | i, x :: r => ⟨.int .i64 x, .bool true, i⟩ :: hitF (i + 1) r
theorem hitF_app : ∀ (X : List Int) (i : Nat) (n : Int), hitF i (X ++ [n]) = hitF i X ++ [⟨.int .i64 n, .bool true, i + X.length⟩]
  | [], _, _ => rfl
  | x :: r, i, n => by
    have ih := hitF_app r (i + 1) n
    show ⟨_, _, _⟩ :: hitF (i + 1) (r ++ [n]) = ⟨_, _, _⟩ :: (hitF (i + 1) r ++ _)
    rw [ih]
    simp [Nat.add_assoc, Nat.add_comm 1]
theorem find_hit {n : Int} : ∀ {X : List Int} {i k : Nat}, n ∈ X → ∃ j e, afind ⟨false, [.i]⟩ (.int .i64 n) (hitF k X) i = some (some (i + j)) ∧ (hitF k X)[j]? = some e ∧ e.val = .bool true
  | x :: r, i, k, h => by
    by_cases e : n = x
    · subst e
      exact ⟨0, _, by simp [hitF, afind, sameKey, aeqC, aeq], rfl, rfl⟩
    · obtain ⟨j, e', h1, h2, h3⟩ := find_hit (X := r) (i := i + 1) (k := k + 1) (by simpa [e] using h)
      refine ⟨j + 1, e', ?_, h2, h3⟩
      have : i + (j + 1) = i + 1 + j := by omega
      rw [this, ← h1]
      simp [hitF, afind, sameKey, aeqC, aeq, e]
theorem find_nohit {n : Int} : ∀ {X : List Int} {i k : Nat}, n ∉ X → afind ⟨false, [.i]⟩ (.int .i64 n) (hitF k X) i = some none
  | [], _, _, _ => rfl
  | x :: r, i, k, h => by
    have h' : ¬ n = x ∧ n ∉ r := by simpa using h
    have ih := find_nohit (X := r) (i := i + 1) (k := k + 1) h'.2
    rw [← ih]
    simp [hitF, afind, sameKey, aeqC, aeq, h'.1]
/-- how many, as the map has them -/
def kq (q : Int × Int) : Value := .agg #[.int .i64 q.1, .int .i64 q.2]
def manF (c : Int × Int → Nat) : Nat → List (Int × Int) → List MEnt
  | _, [] => []
  | i, q :: r => ⟨kq q, .int .i64 (c q), i⟩ :: manF c (i + 1) r
theorem manF_app (c : Int × Int → Nat) : ∀ (K : List (Int × Int)) (i : Nat) (q : Int × Int), manF c i (K ++ [q]) = manF c i K ++ [⟨kq q, .int .i64 (c q), i + K.length⟩]
  | [], _, _ => rfl
  | x :: r, i, n => by
    have ih := manF_app c r (i + 1) n
    show ⟨_, _, _⟩ :: manF c (i + 1) (r ++ [n]) = ⟨_, _, _⟩ :: (manF c (i + 1) r ++ _)
    rw [ih]
    simp [Nat.add_assoc, Nat.add_comm 1]
theorem same_kq (q r : Int × Int) : sameKey ⟨true, [.i, .i]⟩ (kq q) (kq r) = some (decide (q = r)) := by
  obtain ⟨a, b⟩ := q
  obtain ⟨c, d⟩ := r
  simp [sameKey, kq, aeqL, aeqC, aeq]
theorem find_man {c : Int × Int → Nat} {q : Int × Int} : ∀ {K : List (Int × Int)} {i k : Nat}, q ∈ K → ∃ j, afind ⟨true, [.i, .i]⟩ (kq q) (manF c k K) i = some (some (i + j)) ∧ (manF c k K)[j]? = some ⟨kq q, .int .i64 (c q), k + j⟩ ∧ K[j]? = some q
  | x :: r, i, k, h => by
    by_cases e : q = x
    · subst e
      exact ⟨0, by simp [manF, afind, same_kq], rfl, rfl⟩
    · obtain ⟨j, h1, h2, h3⟩ := find_man (c := c) (K := r) (i := i + 1) (k := k + 1) (by simpa [e] using h)
      refine ⟨j + 1, ?_, ?_, h3⟩
      · have : i + (j + 1) = i + 1 + j := by omega
        rw [this, ← h1]
        simp [manF, afind, same_kq, e]
      · have : k + (j + 1) = k + 1 + j := by omega
        rw [this, ← h2]
        rfl
theorem find_noman {c : Int × Int → Nat} {q : Int × Int} : ∀ {K : List (Int × Int)} {i k : Nat}, q ∉ K → afind ⟨true, [.i, .i]⟩ (kq q) (manF c k K) i = some none
  | [], _, _, _ => rfl
  | x :: r, i, k, h => by
    have h' : ¬ q = x ∧ q ∉ r := by simpa using h
    have ih := find_noman (c := c) (K := r) (i := i + 1) (k := k + 1) h'.2
    rw [← ih]
    simp [manF, afind, same_kq, h'.1]
theorem manF_cong {c c' : Int × Int → Nat} : ∀ {K : List (Int × Int)} {k : Nat}, (∀ q ∈ K, c q = c' q) → manF c k K = manF c' k K
  | [], _, _ => rfl
  | x :: r, k, h => by
    unfold manF
    rw [manF_cong (K := r) fun q hq => h q (List.mem_cons_of_mem _ hq), h x List.mem_cons_self]
/-- one number in it grows -/
theorem manF_set {c c' : Int × Int → Nat} {q : Int × Int} : ∀ {K : List (Int × Int)} {k j : Nat}, K.Nodup → K[j]? = some q → (∀ r, r ≠ q → c' r = c r) → (manF c k K).set j ⟨kq q, .int .i64 (c' q), k + j⟩ = manF c' k K
  | x :: r, k, 0, hn, hj, hc => by
    have e : x = q := by simpa using hj
    subst e
    have hx : x ∉ r := (List.nodup_cons.1 hn).1
    show ⟨_, _, _⟩ :: manF c (k + 1) r = ⟨_, _, _⟩ :: manF c' (k + 1) r
    rw [manF_cong (c := c) (c' := c') fun y hy => (hc y (fun e => hx (e ▸ hy))).symm]
    rfl
  | x :: r, k, j + 1, hn, hj, hc => by
    have hj' : r[j]? = some q := by simpa using hj
    have hx : x ≠ q := fun e => (List.nodup_cons.1 hn).1 (e ▸ List.mem_of_getElem? hj')
    have ih := manF_set (c := c) (c' := c') (k := k + 1) (List.nodup_cons.1 hn).2 hj' hc
    have e : k + (j + 1) = k + 1 + j := by omega
    show ⟨_, _, _⟩ :: (manF c (k + 1) r).set j _ = ⟨_, _, _⟩ :: manF c' (k + 1) r
    rw [e, ih, hc x hx]
theorem manF_born {c : Int × Int → Nat} : ∀ {K : List (Int × Int)} {k j : Nat}, j < K.length → (manF c k K).findIdx? (fun e => decide ((e.born : Int) = ((k + j : Nat) : Int))) = some j
  | x :: r, k, 0, _ => by
    unfold manF
    rw [List.findIdx?_cons]
    simp
  | x :: r, k, j + 1, h => by
    have ih := manF_born (c := c) (K := r) (k := k + 1) (j := j) (by simpa using h)
    unfold manF
    rw [List.findIdx?_cons]
    have e : k + (j + 1) = k + 1 + j := by omega
    rw [e, ih]
    have : ¬ ((k : Int) = ((k + 1 + j : Nat) : Int)) := by omega
    simp only [decide_eq_false this]
    rfl
theorem manF_mem {c : Int × Int → Nat} {e : MEnt} : ∀ {K : List (Int × Int)} {k : Nat}, e ∈ manF c k K → ∃ j q, K[j]? = some q ∧ e = ⟨kq q, .int .i64 (c q), k + j⟩
  | x :: r, k, h => by
    rcases List.mem_cons.1 h with rfl | h
    · exact ⟨0, x, rfl, rfl⟩
    · obtain ⟨j, q, h1, h2⟩ := manF_mem (c := c) (K := r) (k := k + 1) h
      refine ⟨j + 1, q, h1, ?_⟩
      rw [h2]
      congr 1
      omega
theorem manF_at {c : Int × Int → Nat} {K : List (Int × Int)} {k j : Nat} {q : Int × Int} (h : K[j]? = some q) : ⟨kq q, .int .i64 (c q), k + j⟩ ∈ manF c k K := by
  induction K generalizing k j with
  | nil => simp at h
  | cons x r ih =>
    cases j with
    | zero =>
      have e : x = q := by simpa using h
      subst e
      exact List.mem_cons_self
    | succ j =>
      have e : k + (j + 1) = k + 1 + j := by omega
      rw [e]
      exact List.mem_cons_of_mem _ (ih (by simpa using h))
/-- whose a sector is -/
def plc (d p s x : Int) : Int × Int := (x / slot d p s, x % slot d p s % s)
def cnt (d p s : Int) (X : List Int) (q : Int × Int) : Nat := (X.map (plc d p s)).count q
/-- a budget, as it lies -/
structure Bud (h : Heap) (b mh mm : Nat) (d p s : Int) (X : List Int) (o : Bool) : Prop where
  r : right d p s = true
  c : h.cellsOf b = some ([.int .i64 d, .int .i64 p, .int .i64 s, .map (some mh), .map (some mm), .bool o], .ex, 1)
  hit : h.m mh = some (.map (hitF 0 X) X.length)
  many : ∃ K : List (Int × Int), K.Nodup ∧ (∀ q, q ∈ K ↔ q ∈ X.map (plc d p s)) ∧ h.m mm = some (.map (manF (cnt d p s X) 0 K) K.length)
  nd : X.Nodup
  lim : ∀ x ∈ X, 0 ≤ x ∧ x ≤ 3 * slot d p s - 1
  ne : mh ≠ mm
theorem bnew_ok (d p s : Int) (h : Heap) : ACalls Try.prog 51 [gv d p s] h fun v h' => (if right d p s = true then (∃ b mh mm, v = .tuple #[.pointer (some ⟨b, 0, none⟩), .int .i64 0] ∧ Bud h' b mh mm d p s [] false ∧ h.n ≤ b ∧ h.n ≤ mh ∧ h.n ≤ mm) else v = .tuple #[.pointer none, .int .i64 1]) ∧ Gr h h' := by
  refine acalls_of mix Try.func51 k51 n51 (by simp) fun hcl hb => ?_
  have hf := cellsOf_new h [.int .i64 d, .int .i64 p, .int .i64 s] .ex 1
  have g1 : Gr h (h.push (.cells [.int .i64 d, .int .i64 p, .int .i64 s] .ex 1)) := (Gr.refl hcl).push (fun x hx => by simp at hx; rcases hx with rfl | rfl | rfl <;> exact .int)
  have ac : acut [.int .i64 d, .int .i64 p, .int .i64 s] 0 3 = some [.int .i64 d, .int .i64 p, .int .i64 s] := rfl
  simp [c51, gv, mcells, hf, apart, ac]
  have hn1 : (h.push (.cells [.int .i64 d, .int .i64 p, .int .i64 s] .ex 1)).n = h.n + 1 := rfl
  generalize h.push (.cells [.int .i64 d, .int .i64 p, .int .i64 s] .ex 1) = H at *
  have rg := rightG_ok d p s H
  unfold gv at rg
  refine rg.mono ?_
  rintro _ h9 ⟨rfl, e⟩
  rw [e]
  clear e h9 rg
  simp [aun]
  cases hr : right d p s with
  | false =>
    simp [hr]
    exact g1
  | true =>
    have fil : ∀ a b : Nat, afill [.int .i64 0, .int .i64 0, .int .i64 0, .map none, .map none, .bool false] [(0, 3, .agg #[.int .i64 d, .int .i64 p, .int .i64 s]), (3, 1, .map (some a)), (4, 1, .map (some b))] = some [.int .i64 d, .int .i64 p, .int .i64 s, .map (some a), .map (some b), .bool false] := fun _ _ => rfl
    simp [hr, hf, apart, ac, fil, mcells]
    have g2 := (g1.push (o := .map [] 0) (fun e he => by cases he)).push (o := .map [] 0) (fun e he => by cases he)
    have g3 := g2.push (o := .cells [.int .i64 d, .int .i64 p, .int .i64 s, .map (some H.n), .map (some (H.n + 1)), .bool false] .ex 1) (fun x hx => by
      simp at hx
      rcases hx with rfl | rfl | rfl | rfl | rfl | rfl
      · exact .int
      · exact .int
      · exact .int
      · exact .map (by show H.n < H.n + 1 + 1 + 1; omega)
      · exact .map (by show H.n + 1 < H.n + 1 + 1 + 1; omega)
      · exact .bool)
    refine ⟨⟨H.n, H.n + 1, ⟨hr, cellsOf_new _ _ _ _, ?_, ⟨[], List.nodup_nil, fun q => by simp, ?_⟩, List.nodup_nil, (fun x hx => by cases hx), by omega⟩, by omega, by omega, by omega⟩, g3⟩
    · rw [push_m, if_neg (by show H.n ≠ H.n + 1 + 1; omega), push_m, if_neg (by show H.n ≠ H.n + 1; omega), push_m, if_pos rfl]
      rfl
    · rw [push_m, if_neg (by show H.n + 1 ≠ H.n + 1 + 1; omega), push_m, if_pos (show H.n + 1 = (H.push _).n from rfl)]
      rfl
theorem bhits_nil (a k : Int) (h : Heap) : ACalls Try.prog 53 [.pointer none, .int .i64 a, .int .i64 k] h fun v h' => v = .int .i64 0 ∧ h' = h := by
  refine acalls_of mix Try.func53 k53 n53 (by simp) fun hcl hb => ?_
  simp [c53, aeq]
theorem bwithin_nil (h : Heap) : ACalls Try.prog 54 [.pointer none] h fun v h' => v = .bool false ∧ h' = h := by
  refine acalls_of mix Try.func54 k54 n54 (by simp) fun hcl hb => ?_
  simp [c54, aeq]
theorem badd_nil (v : Value) (h : Heap) : ACalls Try.prog 52 [.pointer none, v] h fun v h' => v = .bool false ∧ h' = h := by
  refine acalls_of mix Try.func52 k52 n52 (by simp) fun hcl hb => ?_
  simp [c52, aeq]
theorem bhits_ok {h : Heap} {b mh mm : Nat} {d p s : Int} {X : List Int} {o : Bool} (B : Bud h b mh mm d p s X o) (a k : Int) :
    ACalls Try.prog 53 [.pointer (some ⟨b, 0, none⟩), .int .i64 a, .int .i64 k] h fun v h' => v = .int .i64 (cnt d p s X (a, k)) ∧ h' = h := by
  refine acalls_of mix Try.func53 k53 n53 (by simp) fun hcl hb => ?_
  obtain ⟨K, hK, hm, hK2⟩ := B.many
  have hc := B.c
  have ok : okKey ⟨true, [.i, .i]⟩ (.agg #[.int .i64 a, .int .i64 k]) = true := by
    have := same_kq (a, k) (a, k)
    unfold kq at this
    unfold okKey
    rw [this]
    simp
  have fil : afill [.int .i64 0, .int .i64 0] [(0, 1, .int .i64 a), (1, 1, .int .i64 k)] = some [.int .i64 a, .int .i64 k] := rfl
  by_cases hq : (a, k) ∈ K
  · obtain ⟨j, h1, h2, h3⟩ := find_man (c := cnt d p s X) (i := 0) (k := 0) hq
    unfold kq at h1
    simp only at h1
    simp [c53, aeq, hc, apart, fil, hK2, ok, h1, h2]
  · have h1 := find_noman (c := cnt d p s X) (i := 0) (k := 0) hq
    have hz : cnt d p s X (a, k) = 0 := by
      unfold cnt
      exact List.count_eq_zero.2 (fun q => hq ((hm _).2 q))
    unfold kq at h1
    simp only at h1
    simp [c53, aeq, hc, apart, fil, hK2, ok, h1, hz]
/-- within the budget? -/
def wth (d p s : Int) (X : List Int) (o : Bool) : Prop := o = false ∧ ∀ q, (cnt d p s X q : Int) ≤ p / 2
theorem manF_find {c : Int × Int → Nat} {q : Int × Int} : ∀ {K : List (Int × Int)} {k j : Nat}, K[j]? = some q → (manF c k K).find? (fun e => e.born == k + j) = some ⟨kq q, .int .i64 (c q), k + j⟩
  | x :: r, k, 0, h => by
    have e : x = q := by simpa using h
    subst e
    unfold manF
    rw [List.find?_cons]
    simp
  | x :: r, k, j + 1, h => by
    have ih := manF_find (c := c) (K := r) (k := k + 1) (j := j) (q := q) (by simpa using h)
    have e : k + (j + 1) = k + 1 + j := by omega
    unfold manF
    rw [e, List.find?_cons, ih]
    have : (k == k + 1 + j) = false := by simp; omega
    simp only [this]
theorem countP_lt {p q : Nat → Bool} : ∀ {l : List Nat}, (∀ x ∈ l, q x = true → p x = true) → (∃ x, x ∈ l ∧ p x = true ∧ q x = false) → l.countP q < l.countP p
  | [], _, ⟨_, h, _⟩ => by cases h
  | y :: l, h, ⟨x, hx, h1, h2⟩ => by
    rw [List.countP_cons, List.countP_cons]
    have hm : l.countP q ≤ l.countP p := List.countP_mono_left fun z hz => h z (List.mem_cons_of_mem _ hz)
    rcases List.mem_cons.1 hx with rfl | hx
    · rw [h1, h2]; simp; omega
    · have ih := countP_lt (l := l) (fun z hz => h z (List.mem_cons_of_mem _ hz)) ⟨x, hx, h1, h2⟩
      have := h y List.mem_cons_self
      by_cases hq : q y = true
      · rw [this hq, hq]; simp; omega
      · simp [hq]; omega
theorem bwithin_ok {h : Heap} {b mh mm : Nat} {d p s : Int} {X : List Int} {o : Bool} (B : Bud h b mh mm d p s X o) (hX : X.length ≤ 100000) :
    ACalls Try.prog 54 [.pointer (some ⟨b, 0, none⟩)] h fun v h' => (∃ t : Bool, v = .bool t ∧ (t = true ↔ wth d p s X o)) ∧ h' = h := by
  refine ACalls.same' (fun v ⟨t, e, _⟩ => e ▸ .bool) (acalls_of mix Try.func54 k54 n54 (by simp) fun hcl hb => ?_)
  obtain ⟨K, hK, hm, hK2⟩ := B.many
  have hp := right_prop.1 B.r
  have hc := B.c
  simp [c54, aeq, hc, apart]
  cases o with
  | true =>
    simp [wth]
    exact Heap.Ext.refl h
  | false =>
    simp [hc, apart, hK2]
    have hmn : mm < h.n := (hcl mm _ hK2).1
    have g0 : ∀ S : List Nat, Gr h (h.push (.mapIter (some mm) K.length S K.length)) := fun S => (Gr.refl hcl).push (fun b e => by cases e; show mm < h.n + 1; omega)
    have hbn := cellsOf_lt hcl hc
    refine awp_loop_of (α := List Nat) (fun S => ∀ j ∈ S, ∃ q, K[j]? = some q ∧ (cnt d p s X q : Int) ≤ p / 2)
      (fun S => [(0, .pointer (some ⟨b, 0, none⟩)), (17, .pointer (some ⟨h.n, 0, none⟩))]) (fun S => h.push (.mapIter (some mm) K.length S K.length)) (fun S => (List.range K.length).countP fun j => decide (j ∉ S)) []
      (fun j hj => by cases hj) ⟨Nat.le_succ _, Nat.le_refl _, fun _ _ e => e, (g0 []).cl⟩ (by simp; exact ⟨.ptr (by show b < h.n + 1; omega), .ptr (Nat.lt_succ_self _)⟩) ?_
    intro S hS
    have e1 : (h.push (.mapIter (some mm) K.length S K.length)).m h.n = some (.mapIter (some mm) K.length S K.length) := by rw [push_m, if_pos rfl]
    have e2 : (h.push (.mapIter (some mm) K.length S K.length)).m mm = some (.map (manF (cnt d p s X) 0 K) K.length) := by rw [push_m, if_neg (by omega), hK2]
    have e3 : ∀ ob, (h.push (.mapIter (some mm) K.length S K.length)).set h.n ob = h.push ob := fun ob => set_at rfl _ _
    have born : ∀ e ∈ manF (cnt d p s X) 0 K, e.born < K.length := fun e he => by
      obtain ⟨j, q, h1, h2⟩ := manF_mem he
      rw [h2]
      have := (List.getElem?_eq_some_iff.1 h1).1
      show 0 + j < _
      omega
    simp only [c54_0]
    simp [nextK, e1, e2, e3]
    refine ⟨born, .inr born, ?_, ?_⟩
    · intro hall
      refine ⟨⟨rfl, fun q => ?_⟩, (g0 S).ext⟩
      by_cases hq : q ∈ K
      · obtain ⟨j, hj⟩ := List.getElem?_of_mem hq
        have := hall _ (manF_at (c := cnt d p s X) (k := 0) hj)
        obtain ⟨q', h1, h2⟩ := hS (0 + j) this
        rw [Nat.zero_add] at h1
        rw [hj] at h1
        cases h1
        exact h2
      · have hz : cnt d p s X q = 0 := List.count_eq_zero.2 (fun z => hq ((hm _).2 z))
        rw [hz]
        show (0 : Int) ≤ p / 2
        omega
    · intro e he hn
      obtain ⟨j, q, hj, rfl⟩ := manF_mem he
      simp only [Nat.zero_add] at hn ⊢
      have e4 : (h.push (.mapIter (some mm) K.length (S ++ [j]) K.length)).m h.n = some (.mapIter (some mm) K.length (S ++ [j]) K.length) := by rw [push_m, if_pos rfl]
      have e5 : (h.push (.mapIter (some mm) K.length (S ++ [j]) K.length)).m mm = some (.map (manF (cnt d p s X) 0 K) K.length) := by rw [push_m, if_neg (by omega), hK2]
      have e6 := cellsOf_keep (g0 (S ++ [j])).m hc
      have hfd : (manF (cnt d p s X) 0 K).find? (fun e => e.born == j) = some ⟨kq q, .int .i64 (cnt d p s X q), j⟩ := by
        have := manF_find (c := cnt d p s X) (k := 0) hj
        simpa using this
      have hq2 : IntKind.i64.wrap (p.tdiv 2) = p / 2 := by rw [tdiv_pos (by omega), IntWalk.i64_in _ (by omega)]
      have hjl := (List.getElem?_eq_some_iff.1 hj).1
      have e7 := g0 (S ++ [j])
      generalize hH' : h.push (.mapIter (some mm) K.length (S ++ [j]) K.length) = H' at *
      simp [e4, e5, hfd, e6, apart, hq2]
      by_cases hgt : p / 2 < (cnt d p s X q : Int)
      · simp [hgt]
        refine ⟨fun hw => ?_, ?_⟩
        · have := hw.2 q
          omega
        · exact e7.ext
      · simp [hgt]
        have hS' : ∀ i ∈ S ++ [j], ∃ q, K[i]? = some q ∧ (cnt d p s X q : Int) ≤ p / 2 := fun i hi => by
          rcases List.mem_append.1 hi with hi | hi
          · exact hS i hi
          · simp at hi
            subst hi
            exact ⟨q, hj, by omega⟩
        refine ⟨S ++ [j], ?_, fun i hi => ?_, ?_, .ptr (by show b < h.n + 1; omega), .ptr (Nat.lt_succ_self _)⟩
        · refine countP_lt (fun x _ hx => ?_) ⟨j, List.mem_range.2 hjl, by simpa using hn, by simp⟩
          simp at hx ⊢
          exact hx.1
        · obtain ⟨q', h1, h2⟩ := hS' i hi
          exact ⟨q'.1, q'.2, h1, h2⟩
        · rw [hH']
          exact ⟨e7.n, Nat.le_refl _, fun _ _ e => e, e7.cl⟩
/-- a sector is hit -/
def addS (d p s : Int) (st : List Int × Bool) (n : Int) : List Int × Bool :=
  if 0 ≤ n ∧ n ≤ 3 * slot d p s - 1 then (if n ∈ st.1 then st else (st.1 ++ [n], st.2)) else (st.1, true)
/-- only a budget's blocks have changed -/
structure BFr (h : Heap) (b mh mm : Nat) (h' : Heap) : Prop where
  n : h.n ≤ h'.n
  m : ∀ y ob, h.m y = some ob → y ≠ b → y ≠ mh → y ≠ mm → h'.m y = some ob
theorem BFr.refl (h : Heap) (b mh mm : Nat) : BFr h b mh mm h := ⟨Nat.le_refl _, fun _ _ e _ _ _ => e⟩
theorem BFr.trans {a h c : Heap} {b mh mm : Nat} (f1 : BFr a b mh mm h) (f2 : BFr h b mh mm c) : BFr a b mh mm c := ⟨Nat.le_trans f1.n f2.n, fun y ob e h1 h2 h3 => f2.m y ob (f1.m y ob e h1 h2 h3) h1 h2 h3⟩
theorem cnt_app (d p s : Int) (X : List Int) (n : Int) (q : Int × Int) : cnt d p s (X ++ [n]) q = cnt d p s X q + if plc d p s n = q then 1 else 0 := by
  unfold cnt
  rw [List.map_append, List.count_append]
  congr 1
  rw [List.map_cons, List.map_nil, List.count_cons]
  simp
theorem cnt_le (d p s : Int) (X : List Int) (q : Int × Int) : cnt d p s X q ≤ X.length := by
  unfold cnt
  exact Nat.le_trans List.count_le_length (by rw [List.length_map]; exact Nat.le_refl _)
theorem manF_len (c : Int × Int → Nat) : ∀ (K : List (Int × Int)) (k : Nat), (manF c k K).length = K.length
  | [], _ => rfl
  | _ :: r, k => by
    unfold manF
    rw [List.length_cons, List.length_cons, manF_len c r]
set_option maxHeartbeats 1000000 in
theorem bsect_ok {h : Heap} {b mh mm : Nat} {d p s : Int} {X : List Int} {o : Bool} (B : Bud h b mh mm d p s X o) (n : Int) (hX : X.length ≤ 1000000) :
    ACalls Try.prog 103 [.pointer (some ⟨b, 0, none⟩), .int .i64 n] h fun v h' => v = .tuple #[] ∧ Bud h' b mh mm d p s (addS d p s (X, o) n).1 (addS d p s (X, o) n).2 ∧ BFr h b mh mm h' := by
  refine acalls_of mix Try.func103 k103 n103 (by simp) fun hcl hb => ?_
  obtain ⟨K, hK, hm, hK2⟩ := B.many
  have hc := B.c
  have hh := B.hit
  have hne := B.ne
  have hbh : b ≠ mh := fun e => by rw [← e] at hh; unfold Heap.cellsOf at hc; rw [hh] at hc; cases hc
  have hbm : b ≠ mm := fun e => by rw [← e] at hK2; unfold Heap.cellsOf at hc; rw [hK2] at hc; cases hc
  have ac : acut [.int .i64 d, .int .i64 p, .int .i64 s, .map (some mh), .map (some mm), .bool o] 0 3 = some [.int .i64 d, .int .i64 p, .int .i64 s] := rfl
  have hof := of_ok d p s n h
  unfold gv at hof
  simp [c103, hc, apart, ac]
  refine hof.mono ?_
  rintro _ h9 ⟨rfl, e⟩
  rw [e]
  clear e h9 hof
  by_cases hin : 0 ≤ n ∧ n ≤ 3 * slot d p s - 1
  · have e1 : ofR d p s n = .tuple #[cI (n / slot d p s), cI (n % slot d p s % s), cI (n % slot d p s / s), .bool true] := by unfold ofR; rw [if_pos ⟨B.r, hin⟩]
    have okh : okKey ⟨false, [.i]⟩ (.int .i64 n) = true := by simp [okKey, sameKey, aeqC]
    simp [e1, aun, hc, apart, hh, okh]
    by_cases hx : n ∈ X
    · obtain ⟨j, e, h1, h2, h3⟩ := find_hit (i := 0) (k := 0) hx
      rw [Nat.zero_add] at h1
      have ha : addS d p s (X, o) n = (X, o) := by unfold addS; rw [if_pos hin, if_pos hx]
      simp [h1, h2, h3, ha, aun]
      exact ⟨B, BFr.refl _ _ _ _⟩
    · have h1 := find_nohit (i := 0) (k := 0) hx
      have ha : addS d p s (X, o) n = (X ++ [n], o) := by unfold addS; rw [if_pos hin, if_neg hx]
      have hset : ∀ e, h.cellsOf b = some e → b ≠ mh → ∀ ob, (h.set mh ob).cellsOf b = some e := fun e q1 q2 ob => by
        unfold Heap.cellsOf at q1 ⊢
        rw [set_m, if_neg q2]
        exact q1
      have hc1 := fun ob => hset _ hc hbh ob
      have hm1 : ∀ ob, (h.set mh ob).m mm = some (.map (manF (cnt d p s X) 0 K) K.length) := fun ob => by rw [set_m, if_neg (fun e => hne e.symm)]; exact hK2
      have hh1 : ∀ ob, (h.set mh ob).m mh = some ob := fun ob => by rw [set_m, if_pos rfl]
      simp [h1, ha, hc, hh, okh, apart, aun]
      have hX1 := hitF_app X 0 n
      rw [Nat.zero_add] at hX1
      rw [← hX1]
      have hh2 := hh1 (.map (hitF 0 (X ++ [n])) (X.length + 1))
      have hm2 := hm1 (.map (hitF 0 (X ++ [n])) (X.length + 1))
      have hc2 := hc1 (.map (hitF 0 (X ++ [n])) (X.length + 1))
      have k2 : BFr h b mh mm (h.set mh (.map (hitF 0 (X ++ [n])) (X.length + 1))) := ⟨Nat.le_refl _, fun y ob e _ q2 _ => by rw [set_m, if_neg q2]; exact e⟩
      generalize h.set mh (.map (hitF 0 (X ++ [n])) (X.length + 1)) = H2 at *
      obtain ⟨a, ha'⟩ : ∃ a, n / slot d p s = a := ⟨_, rfl⟩
      obtain ⟨k, hk'⟩ : ∃ k, n % slot d p s % s = k := ⟨_, rfl⟩
      have hq : plc d p s n = (a, k) := by unfold plc; rw [ha', hk']
      rw [ha', hk']
      have ok2 : okKey ⟨true, [.i, .i]⟩ (.agg #[cI a, cI k]) = true := by
        have := same_kq (a, k) (a, k)
        unfold kq at this
        unfold okKey
        rw [this]
        simp
      have fil : afill [.int .i64 0, .int .i64 0] [(0, 1, cI a), (1, 1, cI k)] = some [cI a, cI k] := rfl
      have hcl := cnt_le d p s X (a, k)
      have hw : IntKind.i64.wrap ((cnt d p s X (a, k) : Int) + 1) = ((cnt d p s X (a, k) + 1 : Nat) : Int) := by rw [IntWalk.i64_in _ (by omega)]; omega
      have hc' : cnt d p s (X ++ [n]) (a, k) = cnt d p s X (a, k) + 1 := by rw [cnt_app, hq, if_pos rfl]
      have hcr : ∀ r, r ≠ (a, k) → cnt d p s (X ++ [n]) r = cnt d p s X r := fun r hr => by rw [cnt_app, hq, if_neg (fun e => hr e.symm)]; rfl
      have hx0 : n ∉ X := hx
      have bud : ∀ H3 K3, K3.Nodup → (∀ r, r ∈ K3 ↔ r ∈ (X ++ [n]).map (plc d p s)) → H3 = H2.set mm (.map (manF (cnt d p s (X ++ [n])) 0 K3) K3.length) → Bud H3 b mh mm d p s (X ++ [n]) o ∧ BFr h b mh mm H3 := fun H3 K3 n3 m3 e3 => by
        rw [e3]
        refine ⟨⟨B.r, ?_, by rw [set_m, if_neg hne, hh2, List.length_append]; rfl, ⟨K3, n3, m3, by rw [set_m, if_pos rfl]⟩, ?_, fun x hx => ?_, hne⟩, k2.n, fun y ob e q1 q2 q3 => by rw [set_m, if_neg q3]; exact k2.m y ob e q1 q2 q3⟩
        · unfold Heap.cellsOf at hc2 ⊢
          rw [set_m, if_neg hbm]
          exact hc2
        · exact List.nodup_append.2 ⟨B.nd, by simp, fun x hx y hy => by simp at hy; rw [hy]; exact fun e => hx0 (e ▸ hx)⟩
        · rcases List.mem_append.1 hx with hx | hx
          · exact B.lim x hx
          · simp at hx; rw [hx]; exact hin
      by_cases hqK : (a, k) ∈ K
      · obtain ⟨j, f1, f2, f3⟩ := find_man (c := cnt d p s X) (i := 0) (k := 0) hqK
        have hjl := (List.getElem?_eq_some_iff.1 f3).1
        have hborn := manF_born (c := cnt d p s X) (k := 0) hjl
        have hset := manF_set (c := cnt d p s X) (c' := cnt d p s (X ++ [n])) (k := 0) hK f3 hcr
        have hid : (manF (cnt d p s X) 0 K).set j ⟨kq (a, k), .int .i64 (cnt d p s X (a, k)), 0 + j⟩ = manF (cnt d p s X) 0 K := manF_set (c := cnt d p s X) (c' := cnt d p s X) (k := 0) hK f3 (fun _ _ => rfl)
        rw [hc'] at hset
        unfold kq at f1 f2 hset hid
        simp only [Nat.zero_add] at f1 f2 hset hid hborn
        have hsm := set_same hm2
        simp [hc2, apart, fil, hm2, ok2, f1, f2, hw, hid, hsm, hborn, hset, -Int.natCast_add]
        exact bud _ K hK (fun r => by
          rw [hm, List.map_append, List.mem_append, List.map_cons, List.map_nil, List.mem_singleton, hq]
          constructor
          · exact .inl
          · rintro (q | q)
            · exact q
            · rw [q]; exact (hm _).1 hqK) rfl
      · have f0 := find_noman (c := cnt d p s X) (i := 0) (k := 0) hqK
        have hz : cnt d p s X (a, k) = 0 := List.count_eq_zero.2 (fun z => hqK ((hm _).2 z))
        have hn3 : (K ++ [(a, k)]).Nodup := List.nodup_append.2 ⟨hK, by simp, fun x hx y hy => by simp at hy; rw [hy]; exact fun e => hqK (e ▸ hx)⟩
        have hgk : (K ++ [(a, k)])[K.length]? = some (a, k) := by simp
        have happ := manF_app (cnt d p s X) K 0 (a, k)
        rw [hz] at happ
        obtain ⟨j, f1, f2, f3⟩ := find_man (c := cnt d p s X) (K := K ++ [(a, k)]) (i := 0) (k := 0) (by simp : (a, k) ∈ K ++ [(a, k)])
        have hborn := manF_born (c := cnt d p s X) (K := K ++ [(a, k)]) (k := 0) (j := K.length) (by simp)
        have hset := manF_set (c := cnt d p s X) (c' := cnt d p s (X ++ [n])) (k := 0) hn3 hgk hcr
        have hat : (manF (cnt d p s X) 0 (K ++ [(a, k)]))[K.length]? = some ⟨kq (a, k), .int .i64 (0 : Nat), 0 + K.length⟩ := by
          rw [manF_app, List.getElem?_append_right (by rw [manF_len]; exact Nat.le_refl _), manF_len, Nat.sub_self, hz]
          rfl
        have z0 : ((0 : Nat) : Int) = 0 := rfl
        have z1 : ((0 + 1 : Nat) : Int) = 1 := rfl
        rw [hc', hz] at hset
        rw [hz] at f2
        rw [z0] at f2 happ hat
        rw [z1] at hset
        unfold kq at f0 f1 f2 hset happ hat
        simp only [Nat.zero_add] at f0 f1 f2 hset happ hborn hat
        have happ' := happ.symm
        have hsb : ∀ ob, (H2.set mm ob).m mm = some ob := fun ob => by rw [set_m, if_pos rfl]
        have hsc : ∀ ob, (H2.set mm ob).cellsOf b = some ([.int .i64 d, .int .i64 p, .int .i64 s, .map (some mh), .map (some mm), .bool o], .ex, 1) := fun ob => by
          unfold Heap.cellsOf at hc2 ⊢
          rw [set_m, if_neg hbm]
          exact hc2
        have hw1 : IntKind.i64.wrap 1 = 1 := by decide
        simp [hc2, apart, fil, hm2, ok2, f0, hw1, happ', hsb, hsc, f1, f2, hborn, hat, hset, set_set, -Int.natCast_add]
        exact bud _ (K ++ [(a, k)]) hn3 (fun r => by
          rw [List.map_append, List.mem_append, List.mem_append, hm, List.map_cons, List.map_nil, List.mem_singleton, List.mem_singleton, hq]) (by rw [List.length_append]; rfl)
  · have e1 : ofR d p s n = .tuple #[cI 0, cI 0, cI 0, .bool false] := by unfold ofR; rw [if_neg (fun q => hin q.2)]
    have ha : addS d p s (X, o) n = (X, true) := by unfold addS; rw [if_neg hin]
    have hp : aput [.int .i64 d, .int .i64 p, .int .i64 s, .map (some mh), .map (some mm), .bool o] 5 [.bool true] = [.int .i64 d, .int .i64 p, .int .i64 s, .map (some mh), .map (some mm), .bool true] := rfl
    simp [e1, aun, hc, mcells, hp, ha]
    have hc2 := cellsOf_set h b [.int .i64 d, .int .i64 p, .int .i64 s, .map (some mh), .map (some mm), .bool true] .ex 1
    exact ⟨⟨B.r, hc2, by rw [set_m, if_neg (fun e => hbh e.symm)]; exact hh, ⟨K, hK, hm, by rw [set_m, if_neg (fun e => hbm e.symm)]; exact hK2⟩, B.nd, B.lim, hne⟩, Nat.le_refl _, fun y ob e q1 _ _ => by rw [set_m, if_neg q1]; exact e⟩
theorem nodup_bound : ∀ (N : Nat) (X : List Int), X.Nodup → (∀ x ∈ X, 0 ≤ x ∧ x < (N : Int)) → X.length ≤ N
  | 0, X, _, h => by
    cases X with
    | nil => simp
    | cons x r => have := h x List.mem_cons_self; omega
  | N + 1, X, hn, h => by
    have ih := nodup_bound N (X.erase (N : Int)) (hn.erase _) (fun x hx => by
      have h1 := h x (List.mem_of_mem_erase hx)
      have h2 : x ≠ (N : Int) := fun e => by
        rw [e] at hx
        exact hn.not_mem_erase hx
      omega)
    by_cases hm : (N : Int) ∈ X
    · have := List.length_erase_of_mem hm
      omega
    · rw [List.erase_of_not_mem hm] at ih
      omega
theorem Bud.len {h : Heap} {b mh mm : Nat} {d p s : Int} {X : List Int} {o : Bool} (B : Bud h b mh mm d p s X o) : X.length ≤ 336 := by
  refine nodup_bound 336 X B.nd fun x hx => ?_
  have := B.lim x hx
  have := slot_bound (d := d) (p := p) (s := s)
  omega
theorem bud_keep {h h' : Heap} {b mh mm : Nat} {d p s : Int} {X : List Int} {o : Bool} (B : Bud h b mh mm d p s X o) (hk : ∀ y ob, h.m y = some ob → h'.m y = some ob) : Bud h' b mh mm d p s X o := by
  obtain ⟨K, h1, h2, h3⟩ := B.many
  exact ⟨B.r, cellsOf_keep hk B.c, hk _ _ B.hit, ⟨K, h1, h2, hk _ _ h3⟩, B.nd, B.lim, B.ne⟩
/-- an event -/
structure Ev where
  k : Int
  a : Int
  S : List UInt8
  t1 : Int
  t2 : Int
def ec (e : Ev) : List Value := [.int .i64 e.k, .int .i64 e.a, .string (bs e.S), .int .i64 e.t1, .int .u8 e.t2]
/-- a slice that reads as events -/
def Sl5 (h : Heap) (v : Value) (l : List Ev) : Prop :=
  (∃ c, v = .slice none 0 c ∧ l = []) ∨ ∃ b o cap c m e, v = .slice (some ⟨b, o, none⟩) l.length cap ∧ h.cellsOf b = some (c, m, e) ∧ l.length ≤ cap ∧ ∀ i (hi : i < l.length), acut c (o + i * 5) 5 = some (ec l[i])
theorem Sl5.form {h : Heap} {v : Value} {l : List Ev} (s : Sl5 h v l) : ∃ a c, v = .slice a l.length c := by
  rcases s with ⟨c, rfl, rfl⟩ | ⟨b, o, cap, c, m, e, rfl, _⟩
  · exact ⟨_, _, rfl⟩
  · exact ⟨_, _, rfl⟩
theorem Sl5.at {h : Heap} {a : Option Addr} {n c : Nat} {l : List Ev} (s : Sl5 h (.slice a n c) l) {i : Nat} (hi : i < l.length) :
    ∃ b o cs m e, a = some ⟨b, o, none⟩ ∧ h.cellsOf b = some (cs, m, e) ∧ acut cs (o + i * 5) 5 = some (ec l[i]) := by
  rcases s with ⟨c, _, rfl⟩ | ⟨b, o, cap, c, m, e, h1, h2, h3, h4⟩
  · simp at hi
  · simp only [Value.slice.injEq] at h1
    obtain ⟨rfl, _, _⟩ := h1
    exact ⟨b, o, c, m, e, rfl, h2, h4 i hi⟩
theorem Sl5.below {h : Heap} {v : Value} {l : List Ev} (s : Sl5 h v l) (hc : h.Closed) : VBelow h.n v := by
  rcases s with ⟨c, rfl, rfl⟩ | ⟨b, o, cap, c, m, e, rfl, h2, _⟩
  · exact .snil
  · exact .slice (cellsOf_lt hc h2)
theorem Sl5.keep {h h' : Heap} {v : Value} {l : List Ev} (s : Sl5 h v l) (hk : ∀ b o, h.m b = some o → h'.m b = some o) : Sl5 h' v l := by
  rcases s with ⟨c, rfl, rfl⟩ | ⟨b, o, cap, c, m, e, rfl, h2, h3, h4⟩
  · exact .inl ⟨c, rfl, rfl⟩
  · exact .inr ⟨b, o, cap, c, m, e, rfl, cellsOf_keep hk h2, h3, h4⟩
/-- the first i bytes of an event are noted -/
def addN (d p s : Int) (st : List Int × Bool) (a : Int) (S : List UInt8) : Nat → List Int × Bool
  | 0 => st
  | i + 1 => if S.getD i 0 ≠ 0 then addS d p s (addN d p s st a S i) ((a + i) / 64) else addN d p s st a S i
def endS (d p s : Int) : Int := 64 * allS d p s
def vld (d p s : Int) (e : Ev) : Prop := e.k = 15 ∧ 0 ≤ e.a ∧ e.a ≤ endS d p s ∧ (e.S.length : Int) ≤ endS d p s - e.a
instance (d p s : Int) (e : Ev) : Decidable (vld d p s e) := inferInstanceAs (Decidable (_ ∧ _))
def addE (d p s : Int) (st : List Int × Bool) (e : Ev) : List Int × Bool := if vld d p s e then addN d p s st e.a e.S e.S.length else st
def addL (d p s : Int) (st : List Int × Bool) (l : List Ev) : List Int × Bool := l.foldl (addE d p s) st
structure ZI where
  i : Nat
  H : Heap
set_option maxHeartbeats 1000000 in
/-- an event's bytes -/
theorem bytes_ok {n0 : Nat} {Q : AQ} {f : AF} {H : Heap} {b mh mm : Nat} {d p s : Int} {st : List Int × Bool} (hcl : H.Closed) (hn : n0 ≤ H.n) (B : Bud H b mh mm d p s st.1 st.2) (e : Ev) (he : vld d p s e) (Y : Nat) (hY : H.cellsOf Y = some (ec e, .ex, 1)) (hYb : Y ≠ b)
    (p11 p12 p13 : Value) (b11 : VBelow H.n p11) (b12 : VBelow H.n p12) (b13 : VBelow H.n p13)
    (f0 : f 0 = .pointer (some ⟨b, 0, none⟩)) (f6 : f 6 = .pointer (some ⟨Y, 0, none⟩)) (f11 : f 11 = p11) (f12 : f 12 = p12) (f13 : f 13 = p13) (f49 : f 49 = .int .i64 e.S.length) (f50 : f 50 = .int .i64 0)
    (hQ : ∀ g Hr, Hr.Closed → BFr H b mh mm Hr → Bud Hr b mh mm d p s (addN d p s st e.a e.S e.S.length).1 (addN d p s st e.a e.S e.S.length).2 → g 0 = .pointer (some ⟨b, 0, none⟩) → g 11 = p11 → g 12 = p12 → g 13 = p13 → Q (.exit 2) g Hr) :
    awp Try.prog n0 (.loop c52_2) Q f H := by
  have hbn := cellsOf_lt hcl B.c
  have hYn := cellsOf_lt hcl hY
  obtain ⟨he1, he2, he3, he4⟩ := he
  have hend : endS d p s ≤ 64 * 354 ∧ 0 ≤ endS d p s := by
    unfold endS allS
    have := slot_bound (d := d) (p := p) (s := s)
    split <;> omega
  have hYm : Y ≠ mh ∧ Y ≠ mm := by
    obtain ⟨K, _, _, h3⟩ := B.many
    have h2 := B.hit
    unfold Heap.cellsOf at hY
    refine ⟨fun q => ?_, fun q => ?_⟩
    · rw [q, h2] at hY
      cases hY
    · rw [q, h3] at hY
      cases hY
  refine awp_loop_of (α := ZI) (fun z => z.i ≤ e.S.length ∧ z.H.Closed ∧ BFr H b mh mm z.H ∧ Bud z.H b mh mm d p s (addN d p s st e.a e.S z.i).1 (addN d p s st e.a e.S z.i).2)
    (fun z => [(0, .pointer (some ⟨b, 0, none⟩)), (6, .pointer (some ⟨Y, 0, none⟩)), (11, p11), (12, p12), (13, p13), (49, .int .i64 e.S.length), (50, .int .i64 z.i)]) (fun z => z.H) (fun z => e.S.length - z.i) ⟨0, H⟩
    ⟨Nat.zero_le _, hcl, BFr.refl _ _ _ _, B⟩ ⟨hn, Nat.le_refl _, fun _ _ e => e, hcl⟩ (by simp [f0, f6, f11, f12, f13, f49, f50]; exact ⟨.ptr hbn, .ptr hYn, b11, b12, b13, .int, .int⟩) ?_
  rintro ⟨i, Hi⟩ ⟨hi, hci, hfr, hB⟩
  dsimp only at hi hci hfr hB ⊢
  have hYi : Hi.cellsOf Y = some (ec e, .ex, 1) := by
    have := hfr.m Y _ (m_of_cells hY) hYb hYm.1 hYm.2
    unfold Heap.cellsOf
    rw [this]
  have e1 : IntKind.i64.wrap ((i : Int) + 1) = ((i + 1 : Nat) : Int) := by rw [IntWalk.i64_in _ (by omega)]; omega
  have hnx := hfr.n
  by_cases hil : i < e.S.length
  · have hi' : (i : Int) < (e.S.length : Int) := by omega
    have g2 : (ec e)[2]? = some (.string (bs e.S)) := rfl
    have g1 : (ec e)[1]? = some (.int .i64 e.a) := rfl
    have hw : IntKind.i64.wrap (e.a + (i : Int)) = e.a + i := IntWalk.i64_in _ (by omega)
    have hq : IntKind.i64.wrap ((e.a + (i : Int)).tdiv 64) = (e.a + i) / 64 := by rw [tdiv_pos (by omega), IntWalk.i64_in _ (by omega)]
    simp only [c52_2]
    simp [hi', hYi, apart, g1, g2, aidx_of hil, bs_size, bs_data, hil]
    have hgd : e.S.getD i 0 = e.S[i] := by rw [List.getD, List.getElem?_eq_getElem hil]; rfl
    have fin : ∀ {Z : Heap}, H.n ≤ Z.n → VBelow Z.n (.pointer (some ⟨b, 0, none⟩)) ∧ VBelow Z.n (.pointer (some ⟨Y, 0, none⟩)) ∧ VBelow Z.n p11 ∧ VBelow Z.n p12 ∧ VBelow Z.n p13 := fun hz => ⟨.ptr (Nat.lt_of_lt_of_le hbn hz), .ptr (Nat.lt_of_lt_of_le hYn hz), b11.mono hz, b12.mono hz, b13.mono hz⟩
    by_cases hz : e.S[i] = 0
    · have ha : addN d p s st e.a e.S (i + 1) = addN d p s st e.a e.S i := by
        show (if e.S.getD i 0 ≠ 0 then _ else _) = _
        rw [hgd, if_neg (by simp [hz])]
      rw [← ha] at hB
      obtain ⟨q1, q2, q3, q4, q5⟩ := fin hnx
      simp [hz, e1, -Int.natCast_add]
      exact ⟨⟨i + 1, Hi⟩, by show e.S.length - (i + 1) < e.S.length - i; omega, ⟨by show i + 1 ≤ e.S.length; omega, hci, hfr, hB⟩, ⟨by show n0 ≤ Hi.n; omega, Nat.le_refl _, fun _ _ e => e, hci⟩, q1, q2, q3, q4, q5, .int, rfl, .int⟩
    · have ha : addN d p s st e.a e.S (i + 1) = addS d p s (addN d p s st e.a e.S i) ((e.a + i) / 64) := by
        show (if e.S.getD i 0 ≠ 0 then _ else _) = _
        rw [hgd, if_pos hz]
      have hz' : ¬ e.S[i].toNat = 0 := fun q => hz (UInt8.toNat_inj.1 q)
      simp [hz', hYi, apart, g1, hw, hq]
      refine (bsect_ok hB ((e.a + i) / 64) (by have := hB.len; omega)).mono' ?_
      rintro _ H9 hc9 - ⟨rfl, hB9, hf9⟩
      rw [show ((addN d p s st e.a e.S i).1, (addN d p s st e.a e.S i).2) = addN d p s st e.a e.S i from rfl, ← ha] at hB9
      have hn9 := hf9.n
      obtain ⟨q1, q2, q3, q4, q5⟩ := fin (Z := H9) (by omega)
      simp [e1, -Int.natCast_add]
      exact ⟨⟨i + 1, H9⟩, by show e.S.length - (i + 1) < e.S.length - i; omega, ⟨by show i + 1 ≤ e.S.length; omega, hc9, hfr.trans hf9, hB9⟩, ⟨by show n0 ≤ H9.n; omega, Nat.le_refl _, fun _ _ e => e, hc9⟩, q1, q2, q3, q4, q5, .int, rfl, .int⟩
  · have hie : i = e.S.length := by omega
    subst hie
    have hi' : ¬ (e.S.length : Int) < (e.S.length : Int) := by omega
    simp only [c52_2]
    simp
    exact hQ _ _ hci hfr hB (by simp) (by simp) (by simp) (by simp)
theorem addL_succ (d p s : Int) (st : List Int × Bool) (l : List Ev) (i : Nat) (h : i < l.length) : addL d p s st (l.take (i + 1)) = addE d p s (addL d p s st (l.take i)) l[i] := by
  unfold addL
  rw [List.take_succ_eq_append_getElem h, List.foldl_append]
  rfl
/-- a bool that tells -/
def Tells (r : Value) (W : Prop) : Prop := ∃ t : Bool, r = .bool t ∧ (t = true ↔ W)
set_option maxHeartbeats 1000000 in
theorem badd_ok {h : Heap} {b mh mm : Nat} {d p s : Int} {st : List Int × Bool} (B : Bud h b mh mm d p s st.1 st.2) (l : List Ev) (v : Value) (hl : ∀ H, BFr h b mh mm H → Sl5 H v l) (hln : l.length ≤ 1000000) :
    ACalls Try.prog 52 [.pointer (some ⟨b, 0, none⟩), v] h fun r h' => Tells r (wth d p s (addL d p s st l).1 (addL d p s st l).2) ∧ Bud h' b mh mm d p s (addL d p s st l).1 (addL d p s st l).2 ∧ BFr h b mh mm h' ∧ h'.Closed := by
  refine acalls_of mix Try.func52 k52 n52 (by simp) fun hcl hb => ?_
  have bl := (hl h (BFr.refl _ _ _ _)).below hcl
  obtain ⟨ad, c, rfl⟩ := (hl h (BFr.refl _ _ _ _)).form
  have hbn := cellsOf_lt hcl B.c
  have hsl := slot_bound (d := d) (p := p) (s := s)
  have hall : allS d p s ≤ 354 ∧ 0 ≤ allS d p s := by
    unfold allS
    split <;> omega
  have hend : IntKind.i64.wrap (allS d p s * 64) = endS d p s := by
    unfold endS
    rw [IntWalk.i64_in _ (by omega)]
    omega
  have hendb : endS d p s ≤ 64 * 354 ∧ 0 ≤ endS d p s := by unfold endS; omega
  have ac : ∀ o mh mm, acut [.int .i64 d, .int .i64 p, .int .i64 s, .map (some mh), .map (some mm), .bool o] 0 3 = some [.int .i64 d, .int .i64 p, .int .i64 s] := fun _ _ _ => rfl
  simp [c52, aeq]
  refine awp_loop_of (α := ZI) (fun z => z.i ≤ l.length ∧ z.H.Closed ∧ BFr h b mh mm z.H ∧ Bud z.H b mh mm d p s (addL d p s st (l.take z.i)).1 (addL d p s st (l.take z.i)).2)
    (fun z => [(0, .pointer (some ⟨b, 0, none⟩)), (11, .slice ad l.length c), (12, .int .i64 l.length), (13, .int .i64 z.i)]) (fun z => z.H) (fun z => l.length - z.i) ⟨0, h⟩
    ⟨Nat.zero_le _, hcl, BFr.refl _ _ _ _, B⟩ (Heap.Sub.refl hcl) (by simp; exact ⟨.ptr hbn, bl, .int, .int⟩) ?_
  rintro ⟨i, H⟩ ⟨hi, hci, hfr, hB⟩
  dsimp only at hi hci hfr hB ⊢
  have hnx := hfr.n
  have e1 : IntKind.i64.wrap ((i : Int) + 1) = ((i + 1 : Nat) : Int) := by rw [IntWalk.i64_in _ (by omega)]; omega
  by_cases hil : i < l.length
  · have hi' : (i : Int) < (l.length : Int) := by omega
    obtain ⟨b1, o1, cs1, m1, ee1, rfl, g1, g2⟩ := (hl H hfr).at hil
    have hsucc := addL_succ d p s st l i hil
    generalize hev : l[i] = e at *
    have hz5 : aput [.int .i64 0, .int .i64 0, .string (bs []), .int .i64 0, .int .u8 0] 0 (ec e) = ec e := rfl
    have hm5 : mcells (.agg (ec e).toArray) = some (ec e) := by simp [mcells]
    have hle5 : (ec e).length = 5 := rfl
    have gp : Gr H (H.push (.cells (ec e) .ex 1)) := (Gr.refl hci).push (fun x hx => by
      simp [ec] at hx
      rcases hx with rfl | rfl | rfl | rfl | rfl
      · exact .int
      · exact .int
      · exact .string
      · exact .int
      · exact .int)
    have hYp := cellsOf_new H (ec e) .ex 1
    have hBp := bud_keep hB gp.m
    have hfp : BFr h b mh mm (H.push (.cells (ec e) .ex 1)) := hfr.trans ⟨gp.n, fun y ob e _ _ _ => gp.m y ob e⟩
    simp only [c52_0]
    simp [hi', aidx_of hil, g1, g2, apart, bs_lit, cellsOf_at, hm5, hz5, hle5, set_at]
    have hnp : (H.push (.cells (ec e) .ex 1)).n = H.n + 1 := rfl
    generalize H.push (.cells (ec e) .ex 1) = Hp at *
    have hcB := hBp.c
    have al := all_ok d p s Hp
    unfold gv at al
    simp [hcB, ac, apart]
    refine al.mono ?_
    rintro _ h9 ⟨rfl, e⟩
    rw [e]
    clear e h9 al
    have gk : (ec e)[0]? = some (.int .i64 e.k) := rfl
    have ga : (ec e)[1]? = some (.int .i64 e.a) := rfl
    have gS : (ec e)[2]? = some (.string (bs e.S)) := rfl
    have hcp := gp.cl
    have hBn := hfp.n
    have skip : ¬ vld d p s e → ∃ y : ZI, l.length - y.i < l.length - i ∧ (y.i ≤ l.length ∧ y.H.Closed ∧ BFr h b mh mm y.H ∧ Bud y.H b mh mm d p s (addL d p s st (l.take y.i)).1 (addL d p s st (l.take y.i)).2) ∧
        Heap.Sub h.n y.H Hp ∧ VBelow y.H.n (.pointer (some ⟨b, 0, none⟩)) ∧ VBelow y.H.n (.slice (some ⟨b1, o1, none⟩) l.length c) ∧ VBelow y.H.n (.int .i64 l.length) ∧ ((i + 1 : Nat) : Int) = (y.i : Int) ∧ VBelow y.H.n (.int .i64 y.i) := fun hv => by
      have ha : addL d p s st (l.take (i + 1)) = addL d p s st (l.take i) := by rw [hsucc]; unfold addE; rw [if_neg hv]
      rw [← ha] at hBp
      exact ⟨⟨i + 1, Hp⟩, by show l.length - (i + 1) < l.length - i; omega, ⟨by show i + 1 ≤ l.length; omega, hcp, hfp, hBp⟩, ⟨hBn, Nat.le_refl _, fun _ _ e => e, hcp⟩, .ptr (Nat.lt_of_lt_of_le hbn hBn), bl.mono hBn, .int, rfl, .int⟩
    simp [hend, hYp, apart, gk, ga, gS]
    by_cases v1 : e.k = 15
    · simp [v1, hYp, apart, ga, gS]
      by_cases v2 : e.a < 0
      · simp [v2, e1, -Int.natCast_add]
        exact skip fun q => by have := q.2.1; omega
      · simp [v2, hYp, apart, ga, gS]
        by_cases v3 : endS d p s < e.a
        · simp [v3, e1, -Int.natCast_add]
          exact skip fun q => by have := q.2.2.1; omega
        · have hsb : IntKind.i64.wrap (endS d p s - e.a) = endS d p s - e.a := IntWalk.i64_in _ (by omega)
          simp [v3, hYp, apart, ga, gS, hsb, bs_size]
          by_cases v4 : endS d p s - e.a < (e.S.length : Int)
          · simp [v4, e1, -Int.natCast_add]
            exact skip fun q => by have := q.2.2.2; omega
          · have hv : vld d p s e := ⟨v1, by omega, by omega, by omega⟩
            simp [v4, hYp, apart, gS, bs_size]
            have hbH := cellsOf_lt hci hB.c
            refine bytes_ok (st := addL d p s st (l.take i)) hcp hBn hBp e hv H.n hYp (by omega) (.slice (some ⟨b1, o1, none⟩) l.length c) (.int .i64 l.length) (.int .i64 i) (bl.mono hBn) .int .int (by simp) (by simp) (by simp) (by simp) (by simp) (by simp) (by simp) ?_
            intro g Hr hcr hfr2 hBr q0 q11 q12 q13
            have ha : addL d p s st (l.take (i + 1)) = addN d p s (addL d p s st (l.take i)) e.a e.S e.S.length := by rw [hsucc]; unfold addE; rw [if_pos hv]
            rw [← ha] at hBr
            have hnr := hfr2.n
            have hbr : h.n ≤ Hr.n := Nat.le_trans hBn hnr
            simp [q0, q11, q12, q13, e1, -Int.natCast_add]
            exact ⟨⟨i + 1, Hr⟩, by show l.length - (i + 1) < l.length - i; omega, ⟨by show i + 1 ≤ l.length; omega, hcr, hfp.trans hfr2, hBr⟩, ⟨hbr, Nat.le_refl _, fun _ _ e => e, hcr⟩, .ptr (Nat.lt_of_lt_of_le hbn hbr), bl.mono hbr, .int, rfl, .int⟩
    · simp [v1, e1, -Int.natCast_add]
      exact skip fun q => v1 q.1
  · have hie : i = l.length := by omega
    subst hie
    rw [List.take_of_length_le (Nat.le_refl _)] at hB
    simp only [c52_0]
    simp
    refine (bwithin_ok hB (by have := hB.len; omega)).mono ?_
    rintro _ h9 ⟨⟨t, rfl, ht⟩, e⟩
    rw [e]
    clear e h9
    simp
    exact ⟨⟨t, rfl, ht⟩, hB, hfr, hci⟩
theorem Tells.below {n : Nat} {v : Value} {W : Prop} (t : Tells v W) : VBelow n v := by
  obtain ⟨x, rfl, _⟩ := t
  exact .bool
theorem gv_bel {n : Nat} {d p s : Int} : ∀ x ∈ [Value.int .i64 d, .int .i64 p, .int .i64 s], VBelow n x := fun x hx => by
  simp at hx
  rcases hx with rfl | rfl | rfl <;> exact .int
theorem bfr_old {h H' H : Heap} {b mh mm : Nat} (hcl : h.Closed) (g : Gr h H') (hb : h.n ≤ b) (hh : h.n ≤ mh) (hm : h.n ≤ mm) (f : BFr H' b mh mm H) : ∀ y ob, h.m y = some ob → H.m y = some ob := fun y ob e => by
  have := (hcl y ob e).1
  exact f.m y ob (g.m y ob e) (by omega) (by omega) (by omega)
/-- within, of a geometry -/
def inW (d p s : Int) (l : List Ev) : Prop := right d p s = true ∧ wth d p s (addL d p s ([], false) l).1 (addL d p s ([], false) l).2
theorem bin_ok (d p s : Int) (l : List Ev) (v : Value) (h : Heap) (hl : Sl5 h v l) (hln : l.length ≤ 1000000) :
    ACalls Try.prog 50 [gv d p s, v] h fun r h' => Tells r (inW d p s l) ∧ h' = h := by
  refine ACalls.same' (fun v t => t.below) (acalls_of mix Try.func50 k50 n50 (by simp) fun hcl hb => ?_)
  have hf := cellsOf_new h [.int .i64 d, .int .i64 p, .int .i64 s] .ex 1
  have g1 : Gr h (h.push (.cells [.int .i64 d, .int .i64 p, .int .i64 s] .ex 1)) := (Gr.refl hcl).push gv_bel
  have ac : acut [.int .i64 d, .int .i64 p, .int .i64 s] 0 3 = some [.int .i64 d, .int .i64 p, .int .i64 s] := rfl
  simp [c50, gv, mcells, hf, apart, ac]
  generalize h.push (.cells [.int .i64 d, .int .i64 p, .int .i64 s] .ex 1) = H at *
  have bn := bnew_ok d p s H
  unfold gv at bn
  refine bn.mono ?_
  rintro _ H2 ⟨q, g2⟩
  cases hr : right d p s with
  | false =>
    rw [hr] at q
    obtain rfl : _ = _ := q
    simp
    refine (badd_nil _ _).mono ?_
    rintro _ h9 ⟨rfl, e⟩
    rw [e]
    clear e h9
    simp
    exact ⟨⟨false, rfl, by unfold inW; rw [hr]; simp⟩, g1.ext.trans g2.ext⟩
  | true =>
    rw [hr, if_pos rfl] at q
    obtain ⟨b, mh, mm, rfl, B, q1, q2, q3⟩ := q
    simp
    refine (badd_ok (st := ([], false)) B l v (fun Z f => (hl.keep g1.m).keep (bfr_old g1.cl g2 q1 q2 q3 f)) hln).mono ?_
    rintro r H3 ⟨⟨t, rfl, ht⟩, B3, f3, c3⟩
    simp
    refine ⟨⟨t, rfl, by unfold inW; rw [hr]; simpa using ht⟩, ?_⟩
    have := bfr_old g1.cl g2 q1 q2 q3 f3
    have n3 := f3.n
    exact ⟨by have := g1.n; have := g2.n; omega, fun y ob e => this y ob (g1.m y ob e)⟩
theorem bsteps_ok (d p s c : Int) (h : Heap) : ACalls Try.prog 55 [gv d p s, .int .i64 c] h fun v h' => v = .int .i64 (if right d p s = true then (min (max c 0) 1000 + 1) * 3 * s else 0) ∧ h' = h := by
  refine ACalls.same .int (acalls_of mix Try.func55 k55 n55 (by simp) fun hcl hb => ?_)
  have hf := cellsOf_new h [.int .i64 d, .int .i64 p, .int .i64 s] .ex 1
  have g1 : Gr h (h.push (.cells [.int .i64 d, .int .i64 p, .int .i64 s] .ex 1)) := (Gr.refl hcl).push gv_bel
  have ac : acut [.int .i64 d, .int .i64 p, .int .i64 s] 0 3 = some [.int .i64 d, .int .i64 p, .int .i64 s] := rfl
  simp [c55, gv, mcells, hf, apart, ac]
  generalize h.push (.cells [.int .i64 d, .int .i64 p, .int .i64 s] .ex 1) = H at *
  have rg := rightG_ok d p s H
  unfold gv at rg
  refine rg.mono ?_
  rintro _ h9 ⟨rfl, e⟩
  rw [e]
  clear e h9 rg
  simp [aun]
  cases hr : right d p s with
  | false =>
    simp [hr]
    exact g1.ext
  | true =>
    have hp := right_prop.1 hr
    have hm : 0 ≤ min (max c 0) 1000 ∧ min (max c 0) 1000 ≤ 1000 := by omega
    have mb := mulb (a := min (max c 0) 1000 + 1) (b := s) (m := 1001) (n := 8) (by omega) (by omega) (by omega) (by omega)
    have w1 : IntKind.i64.wrap (min (max c 0) 1000 + 1) = min (max c 0) 1000 + 1 := IntWalk.i64_in _ (by omega)
    have w2 : IntKind.i64.wrap ((min (max c 0) 1000 + 1) * 3) = (min (max c 0) 1000 + 1) * 3 := IntWalk.i64_in _ (by omega)
    have e3 : (min (max c 0) 1000 + 1) * 3 * s = 3 * ((min (max c 0) 1000 + 1) * s) := by rw [Int.mul_comm _ 3, Int.mul_assoc]
    have w3 : IntKind.i64.wrap ((min (max c 0) 1000 + 1) * 3 * s) = (min (max c 0) 1000 + 1) * 3 * s := IntWalk.i64_in _ (by omega)
    simp [hr, hf, apart, afold, amax2, amin2, w1, w2, w3]
    exact g1.ext
theorem bbound_ok (d p s : Int) (h : Heap) : ACalls Try.prog 56 [gv d p s] h fun v h' => v = .int .i64 (if right d p s = true then 9 * allS d p s + 200 else 0) ∧ h' = h := by
  refine ACalls.same .int (acalls_of mix Try.func56 k56 n56 (by simp) fun hcl hb => ?_)
  have hf := cellsOf_new h [.int .i64 d, .int .i64 p, .int .i64 s] .ex 1
  have g1 : Gr h (h.push (.cells [.int .i64 d, .int .i64 p, .int .i64 s] .ex 1)) := (Gr.refl hcl).push gv_bel
  have ac : acut [.int .i64 d, .int .i64 p, .int .i64 s] 0 3 = some [.int .i64 d, .int .i64 p, .int .i64 s] := rfl
  simp [c56, gv, mcells, hf, apart, ac]
  generalize h.push (.cells [.int .i64 d, .int .i64 p, .int .i64 s] .ex 1) = H at *
  have rg := rightG_ok d p s H
  unfold gv at rg
  refine rg.mono ?_
  rintro _ h9 ⟨rfl, e⟩
  rw [e]
  clear e h9 rg
  simp [aun]
  cases hr : right d p s with
  | false =>
    simp [hr]
    exact g1.ext
  | true =>
    have al := all_ok d p s H
    unfold gv at al
    simp [hr, hf, apart, ac]
    refine al.mono ?_
    rintro _ h9 ⟨rfl, e⟩
    rw [e]
    clear e h9 al
    have hsl := slot_bound (d := d) (p := p) (s := s)
    have hall : allS d p s ≤ 354 ∧ 0 ≤ allS d p s := by
      unfold allS
      split <;> omega
    have w1 : IntKind.i64.wrap (9 * allS d p s) = 9 * allS d p s := IntWalk.i64_in _ (by omega)
    have w2 : IntKind.i64.wrap (9 * allS d p s + 200) = 9 * allS d p s + 200 := IntWalk.i64_in _ (by omega)
    simp [hr, w1, w2]
    exact g1.ext
theorem clone1_ok (m : Nat) (es : List MEnt) (cl : Nat) (h : Heap) (hm : h.m m = some (.map es cl)) : ACalls Try.prog 127 [.map (some m)] h fun v h' => v = .map (some h.n) ∧ h' = h.push (.map es cl) := by
  refine acalls_of mix Try.func127 k127 n127 (by simp) fun hcl hb => ?_
  simp [c127, aeq, hm]
theorem clone2_ok (m : Nat) (es : List MEnt) (cl : Nat) (h : Heap) (hm : h.m m = some (.map es cl)) : ACalls Try.prog 128 [.map (some m)] h fun v h' => v = .map (some h.n) ∧ h' = h.push (.map es cl) := by
  refine acalls_of mix Try.func128 k128 n128 (by simp) fun hcl hb => ?_
  simp [c128, aeq, hm]
theorem bcopy_ok {h : Heap} {b mh mm : Nat} {d p s : Int} {X : List Int} {o : Bool} (B : Bud h b mh mm d p s X o) :
    ACalls Try.prog 102 [.pointer (some ⟨b, 0, none⟩)] h fun v h' => ∃ b' mh' mm', v = .pointer (some ⟨b', 0, none⟩) ∧ h.n ≤ b' ∧ h.n ≤ mh' ∧ h.n ≤ mm' ∧ Bud h' b' mh' mm' d p s X o ∧ Gr h h' := by
  refine acalls_of mix Try.func102 k102 n102 (by simp) fun hcl hb => ?_
  obtain ⟨K, hK1, hK2, hK3⟩ := B.many
  have hc := B.c
  have ac : acut [.int .i64 d, .int .i64 p, .int .i64 s, .map (some mh), .map (some mm), .bool o] 0 3 = some [.int .i64 d, .int .i64 p, .int .i64 s] := rfl
  simp [c102, hc, apart, ac]
  refine (clone1_ok mh _ _ h B.hit).mono ?_
  rintro _ h9 ⟨rfl, e⟩
  rw [e]
  clear e h9
  have g1 : Gr h (h.push (.map (hitF 0 X) X.length)) := (Gr.refl hcl).push (fun e he => by
    have := (hcl _ _ B.hit).2 e he
    exact ⟨this.1.mono (Nat.le_succ _), this.2.mono (Nat.le_succ _)⟩)
  have hc1 := cellsOf_keep g1.m hc
  have hm1 := g1.m _ _ hK3
  have hh1 : (h.push (.map (hitF 0 X) X.length)).m h.n = some (.map (hitF 0 X) X.length) := by rw [push_m, if_pos rfl]
  have hn1 : (h.push (.map (hitF 0 X) X.length)).n = h.n + 1 := rfl
  generalize h.push (.map (hitF 0 X) X.length) = H1 at *
  simp [hc1, apart, ac]
  refine (clone2_ok mm _ _ H1 hm1).mono ?_
  rintro _ h9 ⟨rfl, e⟩
  rw [e]
  clear e h9
  have g2 : Gr H1 (H1.push (.map (manF (cnt d p s X) 0 K) K.length)) := (Gr.refl g1.cl).push (fun e he => by
    have := (g1.cl _ _ hm1).2 e he
    exact ⟨this.1.mono (Nat.le_succ _), this.2.mono (Nat.le_succ _)⟩)
  have hc2 := cellsOf_keep g2.m hc1
  have hh2 := g2.m _ _ hh1
  have hm2 : (H1.push (.map (manF (cnt d p s X) 0 K) K.length)).m H1.n = some (.map (manF (cnt d p s X) 0 K) K.length) := by rw [push_m, if_pos rfl]
  have hn2 : (H1.push (.map (manF (cnt d p s X) 0 K) K.length)).n = H1.n + 1 := rfl
  generalize H1.push (.map (manF (cnt d p s X) 0 K) K.length) = H2 at *
  have fil : ∀ a b : Nat, afill [.int .i64 0, .int .i64 0, .int .i64 0, .map none, .map none, .bool false] [(0, 3, .agg #[.int .i64 d, .int .i64 p, .int .i64 s]), (3, 1, .map (some a)), (4, 1, .map (some b)), (5, 1, .bool o)] = some [.int .i64 d, .int .i64 p, .int .i64 s, .map (some a), .map (some b), .bool o] := fun _ _ => rfl
  have g3 : Gr H2 (H2.push (.cells [.int .i64 d, .int .i64 p, .int .i64 s, .map (some h.n), .map (some H1.n), .bool o] .ex 1)) := (Gr.refl g2.cl).push (fun x hx => by
    simp at hx
    rcases hx with rfl | rfl | rfl | rfl | rfl | rfl
    · exact .int
    · exact .int
    · exact .int
    · exact .map (by show h.n < H2.n + 1; omega)
    · exact .map (by show H1.n < H2.n + 1; omega)
    · exact .bool)
  simp [hc2, apart, ac, fil, mcells]
  exact ⟨by omega, h.n, Nat.le_refl _, H1.n, by omega, ⟨B.r, cellsOf_new _ _ _ _, g3.m _ _ hh2, ⟨K, hK1, hK2, g3.m _ _ hm2⟩, B.nd, B.lim, by omega⟩, ⟨by have := g3.n; omega, g3.cl, fun y ob e => g3.m y ob (g2.m y ob (g1.m y ob e))⟩⟩
open Classical in
/-- what is trimmed: the state, and what was taken -/
noncomputable def trimE (d p s : Int) (z : (List Int × Bool) × List Ev) (e : Ev) : (List Int × Bool) × List Ev :=
  if wth d p s (addE d p s z.1 e).1 (addE d p s z.1 e).2 then (addE d p s z.1 e, z.2 ++ [e]) else z
noncomputable def trimS (d p s : Int) (l : List Ev) : (List Int × Bool) × List Ev := l.foldl (trimE d p s) (([], false), [])
theorem trimS_succ (d p s : Int) (l : List Ev) (i : Nat) (h : i < l.length) : trimS d p s (l.take (i + 1)) = trimE d p s (trimS d p s (l.take i)) l[i] := by
  unfold trimS
  rw [List.take_succ_eq_append_getElem h, List.foldl_append]
  rfl
theorem trim_len (d p s : Int) : ∀ (l : List Ev) (z : (List Int × Bool) × List Ev), (l.foldl (trimE d p s) z).2.length ≤ z.2.length + l.length
  | [], z => by simp
  | e :: r, z => by
    have ih := trim_len d p s r (trimE d p s z e)
    have : (trimE d p s z e).2.length ≤ z.2.length + 1 := by
      unfold trimE
      split <;> simp
    simp only [List.foldl_cons, List.length_cons]
    omega
theorem cut5 (l : List Ev) : ∀ i (hi : i < l.length), acut (l.flatMap ec) (0 + i * 5) 5 = some (ec l[i]) := by
  induction l with
  | nil => intro i hi; simp at hi
  | cons e r ih =>
    intro i hi
    have hl : ∀ z : List Ev, (z.flatMap ec).length = z.length * 5 := fun z => by
      induction z with
      | nil => rfl
      | cons a z ih =>
        rw [List.flatMap_cons, List.length_append, ih, List.length_cons]
        show 5 + _ = _
        omega
    have hl5 : (ec e).length = 5 := rfl
    cases i with
    | zero =>
      unfold acut
      rw [List.flatMap_cons, if_pos (by rw [List.length_append, hl5]; omega)]
      rfl
    | succ i =>
      have := ih i (by simpa using hi)
      unfold acut at this ⊢
      have hi' : i < r.length := by simpa using hi
      rw [if_pos (by rw [hl]; omega)] at this
      rw [List.flatMap_cons, if_pos (by rw [List.length_append, hl5, hl]; omega), List.drop_append, List.drop_of_length_le (by rw [hl5]; omega), List.nil_append, hl5, show 0 + (i + 1) * 5 - 5 = 0 + i * 5 by omega]
      exact this
theorem lat_sl5 {H : Heap} {nm : Option Nat} {v : Value} {n : Nat} {l : List Ev} (q : LAt H 5 nm v n (l.flatMap ec)) (hn : l.length = n) : Sl5 H v l := by
  subst hn
  rcases q with ⟨_, h1, h2, h3⟩ | ⟨x, md, e, h1, h2, h3, h4, h5⟩
  · exact .inl ⟨0, h1, List.eq_nil_of_length_eq_zero h2⟩
  · exact .inr ⟨x, 0, _, _, _, _, h2, h3, Nat.le_refl _, fun i hi => cut5 l i hi⟩
theorem bud_keep' {h h' : Heap} {b mh mm : Nat} {d p s : Int} {X : List Int} {o : Bool} (B : Bud h b mh mm d p s X o) (hk : ∀ y ob, h.m y = some ob → (y = b ∨ y = mh ∨ y = mm) → h'.m y = some ob) : Bud h' b mh mm d p s X o := by
  obtain ⟨K, h1, h2, h3⟩ := B.many
  refine ⟨B.r, ?_, hk _ _ B.hit (.inr (.inl rfl)), ⟨K, h1, h2, hk _ _ h3 (.inr (.inr rfl))⟩, B.nd, B.lim, B.ne⟩
  have := hk b _ (m_of_cells B.c) (.inl rfl)
  unfold Heap.cellsOf
  rw [this]
structure ZT where
  i : Nat
  H : Heap
  b : Nat
  mh : Nat
  mm : Nat
  nm : Option Nat
  vo : Value
set_option maxHeartbeats 2000000 in
theorem btrim_ok (d p s : Int) (hr : right d p s = true) (l : List Ev) (v : Value) (h : Heap) (hl : Sl5 h v l) (hln : l.length ≤ 1000000) :
    ACalls Try.prog 49 [gv d p s, v] h fun r h' => (∃ nm, LAt h' 5 nm r (trimS d p s l).2.length ((trimS d p s l).2.flatMap ec)) ∧ Gr h h' := by
  refine acalls_of mix Try.func49 k49 n49 (by simp) fun hcl hb => ?_
  have bl := hl.below hcl
  obtain ⟨ad, c, rfl⟩ := hl.form
  have hf := cellsOf_new h [.int .i64 d, .int .i64 p, .int .i64 s] .ex 1
  have g1 : Gr h (h.push (.cells [.int .i64 d, .int .i64 p, .int .i64 s] .ex 1)) := (Gr.refl hcl).push gv_bel
  have ac : acut [.int .i64 d, .int .i64 p, .int .i64 s] 0 3 = some [.int .i64 d, .int .i64 p, .int .i64 s] := rfl
  simp [c49, gv, mcells, hf, apart, ac]
  generalize h.push (.cells [.int .i64 d, .int .i64 p, .int .i64 s] .ex 1) = H1 at *
  have bn := bnew_ok d p s H1
  unfold gv at bn
  refine bn.mono ?_
  rintro _ H2 ⟨q, g2⟩
  rw [hr, if_pos rfl] at q
  obtain ⟨b, mh, mm, rfl, B, q1, q2, q3⟩ := q
  have g12 : Gr h H2 := ⟨Nat.le_trans g1.n g2.n, g2.cl, fun y ob e => g2.m y ob (g1.m y ob e)⟩
  simp
  have hb2 := cellsOf_lt g2.cl B.c
  refine awp_loop_of (α := ZT) (fun z => z.i ≤ l.length ∧ Gr h z.H ∧ Bud z.H z.b z.mh z.mm d p s (trimS d p s (l.take z.i)).1.1 (trimS d p s (l.take z.i)).1.2 ∧
      LAt z.H 5 z.nm z.vo (trimS d p s (l.take z.i)).2.length ((trimS d p s (l.take z.i)).2.flatMap ec) ∧ (∀ y, z.nm = some y → h.n ≤ y))
    (fun z => [(5, .pointer (some ⟨z.b, 0, none⟩)), (7, z.vo), (18, .slice ad l.length c), (19, .int .i64 l.length), (20, .int .i64 z.i)]) (fun z => z.H) (fun z => l.length - z.i) ⟨0, H2, b, mh, mm, none, .slice none 0 0⟩
    ⟨Nat.zero_le _, g12, B, .inl ⟨rfl, rfl, rfl, rfl⟩, fun y e => by cases e⟩ ⟨g12.n, Nat.le_refl _, fun _ _ e => e, g12.cl⟩ (by simp; exact ⟨.ptr hb2, .snil, bl.mono g12.n, .int, .int⟩) ?_
  rintro ⟨i, H, b, mh, mm, nm, vo⟩ ⟨hi, g, hB, hL, hnm⟩
  dsimp only at hi g hB hL hnm ⊢
  have e1 : IntKind.i64.wrap ((i : Int) + 1) = ((i + 1 : Nat) : Int) := by rw [IntWalk.i64_in _ (by omega)]; omega
  by_cases hil : i < l.length
  · have hi' : (i : Int) < (l.length : Int) := by omega
    obtain ⟨bb, o1, cs1, m1, ee1, rfl, gg1, gg2⟩ := (hl.keep g.m).at hil
    have hsucc := trimS_succ d p s l i hil
    have hlen : (trimS d p s (l.take i)).2.length ≤ i := by
      have := trim_len d p s (l.take i) (([], false), [])
      rw [List.length_take] at this
      unfold trimS
      simp only [List.length_nil] at this
      omega
    generalize hT : trimS d p s (l.take i) = T at *
    generalize hev : l[i] = e at *
    have hz5 : aput [.int .i64 0, .int .i64 0, .string (bs []), .int .i64 0, .int .u8 0] 0 (ec e) = ec e := rfl
    have hm5 : mcells (.agg (ec e).toArray) = some (ec e) := by simp [mcells]
    have hle5 : (ec e).length = 5 := rfl
    have hec : ∀ n, ∀ x ∈ ec e, VBelow n x := fun n x hx => by
      simp [ec] at hx
      rcases hx with rfl | rfl | rfl | rfl | rfl
      · exact .int
      · exact .int
      · exact .string
      · exact .int
      · exact .int
    have gp : Gr H (H.push (.cells (ec e) .ex 1)) := (Gr.refl g.cl).push (hec _)
    have hYp := cellsOf_new H (ec e) .ex 1
    have hBp := bud_keep hB gp.m
    simp only [c49_0]
    simp [hi', aidx_of hil, gg1, gg2, apart, bs_lit, cellsOf_at, hm5, hz5, hle5, set_at]
    have hnp : (H.push (.cells (ec e) .ex 1)).n = H.n + 1 := rfl
    generalize H.push (.cells (ec e) .ex 1) = Hp at *
    refine (bcopy_ok hBp).mono ?_
    rintro _ Hc ⟨b2, mh2, mm2, rfl, r1, r2, r3, B2, gc⟩
    have hYc := cellsOf_keep gc.m hYp
    have ca5 : acut (ec e) 0 5 = some (ec e) := rfl
    have fil : afill [.int .i64 0, .int .i64 0, .string (bs []), .int .i64 0, .int .u8 0] [(0, 5, .agg (ec e).toArray)] = some (ec e) := by simp [afill, mcells, hle5, hz5]
    simp [hYc, apart, ca5, fil, bs_lit]
    have gd : Gr Hc (Hc.push (.cells (ec e) .ex 1)) := (Gr.refl gc.cl).push (hec _)
    have hsl : Sl5 (Hc.push (.cells (ec e) .ex 1)) (.slice (some ⟨Hc.n, 0, none⟩) 1 1) [e] := .inr ⟨Hc.n, 0, 1, ec e, .ex, 1, rfl, cellsOf_new _ _ _ _, Nat.le_refl _, fun i hi => by
      obtain rfl : i = 0 := by simp at hi; exact hi
      rfl⟩
    have hnd : (Hc.push (.cells (ec e) .ex 1)).n = Hc.n + 1 := rfl
    have hYd := cellsOf_keep gd.m hYc
    have B2d := bud_keep B2 gd.m
    have hb2n := cellsOf_lt gc.cl B2.c
    have hmh2 := (gc.cl _ _ B2.hit).1
    have hmm2 : mm2 < Hc.n := by
      obtain ⟨K, _, _, h3⟩ := B2.many
      exact (gc.cl _ _ h3).1
    have hslk : ∀ Z, BFr (Hc.push (.cells (ec e) .ex 1)) b2 mh2 mm2 Z → Sl5 Z (.slice (some ⟨Hc.n, 0, none⟩) 1 1) [e] := fun Z f => .inr ⟨Hc.n, 0, 1, ec e, .ex, 1, rfl, (by
      have := f.m Hc.n _ (m_of_cells (cellsOf_new Hc (ec e) .ex 1)) (by omega) (by omega) (by omega)
      unfold Heap.cellsOf
      rw [this]), Nat.le_refl _, fun i hi => by
      obtain rfl : i = 0 := by simp at hi; exact hi
      rfl⟩
    generalize Hc.push (.cells (ec e) .ex 1) = Hd at *
    refine (badd_ok (st := T.1) B2d [e] _ hslk (by simp)).mono ?_
    rintro r H3 ⟨⟨t, rfl, ht⟩, B3, f3, c3⟩
    have hadd : addL d p s T.1 [e] = addE d p s T.1 e := rfl
    rw [hadd] at ht B3
    have keep3 : ∀ y ob, H.m y = some ob → H3.m y = some ob := fun y ob e => f3.m y ob (gd.m y ob (gc.m y ob (gp.m y ob e))) (by have := (g.cl y ob e).1; omega) (by have := (g.cl y ob e).1; omega) (by have := (g.cl y ob e).1; omega)
    have n3 : H.n ≤ H3.n := by have := f3.n; have := gc.n; omega
    have g3 : Gr h H3 := ⟨Nat.le_trans g.n n3, c3, fun y ob e => keep3 y ob (g.m y ob e)⟩
    have hYm3 : H3.cellsOf H.n = some (ec e, .ex, 1) := by
      have := f3.m H.n _ (m_of_cells hYd) (by omega) (by omega) (by omega)
      unfold Heap.cellsOf
      rw [this]
    have hL3 : LAt H3 5 nm vo T.2.length (T.2.flatMap ec) := hL.keep fun y e => by
      subst e
      obtain ⟨ob, hob⟩ : ∃ ob, H.m y = some ob := by
        rcases hL with ⟨q, _⟩ | ⟨y', md, e, q, _, h3, _⟩
        · cases q
        · cases q; exact ⟨_, m_of_cells h3⟩
      rw [hob, keep3 y ob hob]
    have hmmn : mm < H.n := by
      obtain ⟨K, _, _, h3⟩ := hB.many
      exact (g.cl _ _ h3).1
    have bl3 := bl.mono g3.n
    cases t with
    | false =>
      have hw : ¬ wth d p s (addE d p s T.1 e).1 (addE d p s T.1 e).2 := fun q => by
        have := ht.2 q
        cases this
      have hT' : trimS d p s (l.take (i + 1)) = T := by
        rw [hsucc]
        unfold trimE
        rw [if_neg hw]
      have hB3 := bud_keep hB keep3
      rw [← hT'] at hB3 hL3
      have hb3 := cellsOf_lt c3 hB3.c
      simp [e1, -Int.natCast_add]
      exact ⟨⟨i + 1, H3, b, mh, mm, nm, vo⟩, by show l.length - (i + 1) < l.length - i; omega, ⟨by show i + 1 ≤ l.length; omega, g3, hB3, hL3, hnm⟩, ⟨g3.n, Nat.le_refl _, fun _ _ e => e, c3⟩, ⟨rfl, .ptr hb3⟩, ⟨rfl, hL3.below c3⟩, bl3, .int, rfl, .int⟩
    | true =>
      have hw : wth d p s (addE d p s T.1 e).1 (addE d p s T.1 e).2 := ht.1 rfl
      have hT' : trimS d p s (l.take (i + 1)) = (addE d p s T.1 e, T.2 ++ [e]) := by
        rw [hsucc]
        unfold trimE
        rw [if_pos hw]
      have ge : Gr H3 (H3.push (.cells (ec e) .ex 1)) := (Gr.refl c3).push (hec _)
      have hLe : LAt (H3.push (.cells (ec e) .ex 1)) 5 nm vo T.2.length (T.2.flatMap ec) := hL3.keep fun y e => by
        subst e
        have := hL3.lt c3
        rw [push_m, if_neg (by omega)]
      have haf : afirst (H3.push (.cells (ec e) .ex 1)) 5 1 (.slice (some ⟨H3.n, 0, none⟩) 1 1) = some (ec e) := by
        simp [afirst, cellsOf_new, ca5]
      have Be := bud_keep B3 ge.m
      have hne : (H3.push (.cells (ec e) .ex 1)).n = H3.n + 1 := rfl
      obtain ⟨a, q, v2, H5, happ, l5, keep5, n5, c5⟩ := lat_app (t := 74) (esz := 5) (bytes := 48) (k := 1) (new := ec e) ge.cl hLe (by omega) rfl (hec _) (by omega)
      subst q
      simp [hYm3, apart, ca5, fil, bs_lit, alen, haf, happ, e1, -Int.natCast_add]
      generalize H3.push (.cells (ec e) .ex 1) = He at *
      have k5 : ∀ y ob, H3.m y = some ob → nm ≠ some y → H5.m y = some ob := fun y ob e hn => keep5 y ob (ge.m y ob e) hn
      have hnmlt : ∀ y, nm = some y → y < H.n := fun y e => by
        subst e
        exact hL.lt g.cl
      have B5 : Bud H5 b2 mh2 mm2 d p s (addE d p s T.1 e).1 (addE d p s T.1 e).2 := bud_keep' Be fun y ob e q => keep5 y ob e (fun e' => by
        have := hnmlt y e'
        rcases q with q | q | q <;> omega)
      have g5 : Gr h H5 := ⟨by have := g3.n; omega, c5, fun y ob e => k5 y ob (g3.m y ob e) (fun e' => by
        have := hnm y e'
        have := (hcl y ob e).1
        omega)⟩
      have hb5 := cellsOf_lt c5 B5.c
      have hlT : (T.2 ++ [e]).length = T.2.length + 1 := by rw [List.length_append]; rfl
      have hfT : (T.2 ++ [e]).flatMap ec = T.2.flatMap ec ++ ec e := by rw [List.flatMap_append]; simp
      refine ⟨⟨i + 1, H5, b2, mh2, mm2, some He.n, v2⟩, by show l.length - (i + 1) < l.length - i; omega, ⟨by show i + 1 ≤ l.length; omega, g5, ?_, ?_, fun y e => by cases e; have := g3.n; omega⟩, ⟨g5.n, Nat.le_refl _, fun _ _ e => e, c5⟩, ⟨rfl, .ptr hb5⟩, ⟨rfl, l5.below c5⟩, bl.mono g5.n, .int, rfl, .int⟩
      · show Bud H5 b2 mh2 mm2 d p s (trimS d p s (l.take (i + 1))).1.1 (trimS d p s (l.take (i + 1))).1.2
        rw [hT']
        exact B5
      · show LAt H5 5 (some He.n) v2 (trimS d p s (l.take (i + 1))).2.length ((trimS d p s (l.take (i + 1))).2.flatMap ec)
        rw [hT']
        show LAt H5 5 (some He.n) v2 (T.2 ++ [e]).length ((T.2 ++ [e]).flatMap ec)
        rw [hlT, hfT]
        exact l5
  · have hie : i = l.length := by omega
    subst hie
    rw [List.take_of_length_le (Nat.le_refl _)] at hL
    simp only [c49_0]
    simp
    exact ⟨⟨nm, hL⟩, g⟩
theorem btrim_no (d p s : Int) (hr : right d p s = false) (v : Value) (h : Heap) :
    ACalls Try.prog 49 [gv d p s, v] h fun r h' => r = .slice none 0 0 ∧ h' = h := by
  refine ACalls.same .snil (acalls_of mix Try.func49 k49 n49 (by simp) fun hcl hb => ?_)
  have hf := cellsOf_new h [.int .i64 d, .int .i64 p, .int .i64 s] .ex 1
  have g1 : Gr h (h.push (.cells [.int .i64 d, .int .i64 p, .int .i64 s] .ex 1)) := (Gr.refl hcl).push gv_bel
  have ac : acut [.int .i64 d, .int .i64 p, .int .i64 s] 0 3 = some [.int .i64 d, .int .i64 p, .int .i64 s] := rfl
  simp [c49, gv, mcells, hf, apart, ac]
  generalize h.push (.cells [.int .i64 d, .int .i64 p, .int .i64 s] .ex 1) = H1 at *
  have bn := bnew_ok d p s H1
  unfold gv at bn
  refine bn.mono ?_
  rintro _ H2 ⟨q, g2⟩
  rw [hr] at q
  obtain rfl : _ = _ := q
  simp
  exact g1.ext.trans g2.ext
/-- more than is played? -/
def greatV (l : List Ev) : Bool := decide (60 < l.length) || l.any fun e => decide (400 < e.S.length)
theorem great_ok (l : List Ev) (v : Value) (h : Heap) (hl : Sl5 h v l) (hln : l.length ≤ 9223372036854775807) : ACalls Try.prog 48 [v] h fun r h' => r = .bool (greatV l) ∧ h' = h := by
  refine ACalls.same .bool (acalls_of mix Try.func48 k48 n48 (by simp) fun hcl hb => ?_)
  have bl := hl.below hcl
  obtain ⟨ad, c, rfl⟩ := hl.form
  simp [c48]
  by_cases h60 : 60 < l.length
  · have : (60 : Int) < (l.length : Int) := by omega
    simp [this, greatV, h60]
    exact Heap.Ext.refl h
  have h60' : ¬ (60 : Int) < (l.length : Int) := by omega
  simp [h60']
  refine awp_loop_of (α := ZI) (fun z => z.i ≤ l.length ∧ Gr h z.H ∧ ∀ e ∈ l.take z.i, ¬ 400 < e.S.length)
    (fun z => [(8, .slice ad l.length c), (9, .int .i64 l.length), (10, .int .i64 z.i)]) (fun z => z.H) (fun z => l.length - z.i) ⟨0, h⟩
    ⟨Nat.zero_le _, Gr.refl hcl, fun e he => by cases he⟩ (Heap.Sub.refl hcl) (by simp; exact ⟨bl, .int, .int⟩) ?_
  rintro ⟨i, H⟩ ⟨hi, g, hS⟩
  dsimp only at hi g hS ⊢
  have e1 : IntKind.i64.wrap ((i : Int) + 1) = ((i + 1 : Nat) : Int) := by rw [IntWalk.i64_in _ (by omega)]; omega
  by_cases hil : i < l.length
  · have hi' : (i : Int) < (l.length : Int) := by omega
    obtain ⟨bb, o1, cs1, m1, ee1, rfl, gg1, gg2⟩ := (hl.keep g.m).at hil
    have htk : l.take (i + 1) = l.take i ++ [l[i]] := List.take_succ_eq_append_getElem hil
    have hmem : l[i] ∈ l := List.getElem_mem hil
    generalize hev : l[i] = e at *
    have hz5 : aput [.int .i64 0, .int .i64 0, .string (bs []), .int .i64 0, .int .u8 0] 0 (ec e) = ec e := rfl
    have hm5 : mcells (.agg (ec e).toArray) = some (ec e) := by simp [mcells]
    have hle5 : (ec e).length = 5 := rfl
    have gp : Gr H (H.push (.cells (ec e) .ex 1)) := (Gr.refl g.cl).push (fun x hx => by
      simp [ec] at hx
      rcases hx with rfl | rfl | rfl | rfl | rfl
      · exact .int
      · exact .int
      · exact .string
      · exact .int
      · exact .int)
    have hYp := cellsOf_new H (ec e) .ex 1
    have gS : (ec e)[2] = .string (bs e.S) := rfl
    simp only [c48_0]
    simp [hi', aidx_of hil, gg1, gg2, apart, bs_lit, cellsOf_at, hm5, hz5, hle5, set_at, gS, bs_size]
    have gn : Gr h (H.push (.cells (ec e) .ex 1)) := ⟨Nat.le_trans g.n gp.n, gp.cl, fun y ob e => gp.m y ob (g.m y ob e)⟩
    generalize H.push (.cells (ec e) .ex 1) = Hp at *
    by_cases h4 : 400 < e.S.length
    · have : (400 : Int) < (e.S.length : Int) := by omega
      have hg : greatV l = true := by
        unfold greatV
        rw [Bool.or_eq_true]
        exact .inr (List.any_eq_true.2 ⟨e, hmem, by simpa using h4⟩)
      simp [this, hg]
      exact gn.ext
    · have h4' : ¬ (400 : Int) < (e.S.length : Int) := by omega
      simp [h4', e1, -Int.natCast_add]
      exact ⟨⟨i + 1, Hp⟩, by show l.length - (i + 1) < l.length - i; omega, ⟨by show i + 1 ≤ l.length; omega, gn, fun x hx => by
        have hx : x ∈ l.take (i + 1) := hx
        rw [htk] at hx
        rcases List.mem_append.1 hx with hx | hx
        · have := hS x hx
          show x.S.length ≤ 400
          omega
        · simp at hx; rw [hx]; show e.S.length ≤ 400; omega⟩, ⟨gn.n, Nat.le_refl _, fun _ _ e => e, gn.cl⟩, bl.mono gn.n, .int, rfl, .int⟩
  · have hie : i = l.length := by omega
    subst hie
    rw [List.take_of_length_le (Nat.le_refl _)] at hS
    have hg : greatV l = false := by
      unfold greatV
      rw [Bool.or_eq_false_iff]
      exact ⟨by simpa using h60, List.any_eq_false.2 fun e he => by simpa using hS e he⟩
    simp only [c48_0]
    simp [hg]
    exact g.ext
def ev1 : Ev := ⟨15, 0, [120], 0, 0⟩
def ev2 : Ev := ⟨15, 64, [120], 0, 0⟩
theorem st1 : addL 1 2 1 ([], false) [ev1] = ([0], false) := by decide
theorem st11 : addL 1 2 1 ([], false) [ev1, ev1] = ([0], false) := by decide
theorem st12 : addL 1 2 1 ([], false) [ev1, ev2] = ([0, 1], false) := by decide
theorem wth1 : wth 1 2 1 [0] false := ⟨rfl, fun q => by
  have := cnt_le 1 2 1 [0] q
  simp at this
  omega⟩
theorem wth2 : ¬ wth 1 2 1 [0, 1] false := fun w => by
  have := w.2 (0, 0)
  revert this
  decide
theorem trm : (trimS 1 2 1 [ev1, ev2]).2 = [ev1] := by
  have e1 : addE 1 2 1 ([], false) ev1 = ([0], false) := st1
  have e2 : addE 1 2 1 ([0], false) ev2 = ([0, 1], false) := by decide
  show (trimE 1 2 1 (trimE 1 2 1 (([], false), []) ev1) ev2).2 = _
  have s1 : trimE 1 2 1 (([], false), []) ev1 = (([0], false), [ev1]) := by
    unfold trimE
    rw [e1, if_pos wth1]
    rfl
  rw [s1]
  unfold trimE
  rw [e2, if_neg wth2]
theorem sl5_one (H : Heap) (e : Ev) : Sl5 (H.push (.cells (ec e) .ex 1)) (.slice (some ⟨H.n, 0, none⟩) 1 1) [e] := .inr ⟨H.n, 0, 1, ec e, .ex, 1, rfl, cellsOf_new _ _ _ _, Nat.le_refl _, fun i hi => by
  obtain rfl : i = 0 := by simp at hi; exact hi
  rfl⟩
theorem sl5_two (H : Heap) (e f : Ev) : Sl5 (H.push (.cells (ec e ++ ec f) .ex 1)) (.slice (some ⟨H.n, 0, none⟩) 2 2) [e, f] := .inr ⟨H.n, 0, 2, ec e ++ ec f, .ex, 1, rfl, cellsOf_new _ _ _ _, Nat.le_refl _, fun i hi => by
  match i, hi with
  | 0, _ => rfl
  | 1, _ => rfl⟩
theorem ec_bel {n : Nat} (e : Ev) : ∀ x ∈ ec e, VBelow n x := fun x hx => by
  simp [ec] at hx
  rcases hx with rfl | rfl | rfl | rfl | rfl
  · exact .int
  · exact .int
  · exact .string
  · exact .int
  · exact .int
theorem ec2_bel {n : Nat} (e f : Ev) : ∀ x ∈ ec e ++ ec f, VBelow n x := fun x hx => by
  rcases List.mem_append.1 hx with hx | hx
  · exact ec_bel e x hx
  · exact ec_bel f x hx
set_option maxHeartbeats 1000000 in
theorem bawake_ok (h : Heap) : ACalls Try.prog 47 [] h fun v h' => v = .bool true ∧ h' = h := by
  refine ACalls.same .bool (acalls_of mix Try.func47 k47 n47 (by simp) fun hcl hb => ?_)
  have ag : afill [.int .i64 0, .int .i64 0, .int .i64 0] [(0, 1, .int .i64 1), (1, 1, .int .i64 2), (2, 1, .int .i64 1)] = some [.int .i64 1, .int .i64 2, .int .i64 1] := rfl
  have a1 : afill [.int .i64 0, .int .i64 0, .string (bs []), .int .i64 0, .int .u8 0] [(0, 1, .int .i64 15), (1, 1, .int .i64 0), (2, 1, .string (bs [120]))] = some (ec ev1) := rfl
  have a2 : afill [.int .i64 0, .int .i64 0, .string (bs []), .int .i64 0, .int .u8 0] [(0, 1, .int .i64 15), (1, 1, .int .i64 64), (2, 1, .string (bs [120]))] = some (ec ev2) := rfl
  have pg : aput [.int .i64 0, .int .i64 0, .int .i64 0] 0 [.int .i64 1, .int .i64 2, .int .i64 1] = [.int .i64 1, .int .i64 2, .int .i64 1] := rfl
  have pe : ∀ e : Ev, aput [.int .i64 0, .int .i64 0, .string (bs []), .int .i64 0, .int .u8 0] 0 (ec e) = ec e := fun _ => rfl
  have hle5 : ∀ e : Ev, (ec e).length = 5 := fun _ => rfl
  have hm5 : ∀ e : Ev, mcells (.agg (ec e).toArray) = some (ec e) := fun e => by simp [mcells]
  have mg : mcells (.agg #[.int .i64 1, .int .i64 2, .int .i64 1]) = some [.int .i64 1, .int .i64 2, .int .i64 1] := rfl
  simp [c47, bs_lit, ag, a1, a2, pg, pe, hle5, hm5, mg, set_at, cellsOf_at]
  have g1 : Gr h (h.push (.cells [.int .i64 1, .int .i64 2, .int .i64 1] .ex 1)) := (Gr.refl hcl).push gv_bel
  have g2 : Gr (h.push (.cells [.int .i64 1, .int .i64 2, .int .i64 1] .ex 1)) ((h.push (.cells [.int .i64 1, .int .i64 2, .int .i64 1] .ex 1)).push (.cells (ec ev1) .ex 1)) := (Gr.refl g1.cl).push (ec_bel _)
  have g3 : Gr ((h.push (.cells [.int .i64 1, .int .i64 2, .int .i64 1] .ex 1)).push (.cells (ec ev1) .ex 1)) (((h.push (.cells [.int .i64 1, .int .i64 2, .int .i64 1] .ex 1)).push (.cells (ec ev1) .ex 1)).push (.cells (ec ev2) .ex 1)) := (Gr.refl g2.cl).push (ec_bel _)
  have f1 := cellsOf_keep g3.m (cellsOf_keep g2.m (cellsOf_new h [.int .i64 1, .int .i64 2, .int .i64 1] .ex 1))
  have f2 := cellsOf_keep g3.m (cellsOf_new (h.push (.cells [.int .i64 1, .int .i64 2, .int .i64 1] .ex 1)) (ec ev1) .ex 1)
  have f3 := cellsOf_new ((h.push (.cells [.int .i64 1, .int .i64 2, .int .i64 1] .ex 1)).push (.cells (ec ev1) .ex 1)) (ec ev2) .ex 1
  have n1 : (h.push (.cells [.int .i64 1, .int .i64 2, .int .i64 1] .ex 1)).n = h.n + 1 := rfl
  have n2 : ((h.push (.cells [.int .i64 1, .int .i64 2, .int .i64 1] .ex 1)).push (.cells (ec ev1) .ex 1)).n = h.n + 1 + 1 := rfl
  rw [n1] at f2
  rw [n2] at f3
  have gA : Gr h (((h.push (.cells [.int .i64 1, .int .i64 2, .int .i64 1] .ex 1)).push (.cells (ec ev1) .ex 1)).push (.cells (ec ev2) .ex 1)) := ⟨by show h.n ≤ h.n + 1 + 1 + 1; omega, g3.cl, fun y ob e => g3.m y ob (g2.m y ob (g1.m y ob e))⟩
  generalize (((h.push (.cells [.int .i64 1, .int .i64 2, .int .i64 1] .ex 1)).push (.cells (ec ev1) .ex 1)).push (.cells (ec ev2) .ex 1)) = A at *
  clear g1 g2 g3 n1 n2
  have ac : acut [.int .i64 1, .int .i64 2, .int .i64 1] 0 3 = some [.int .i64 1, .int .i64 2, .int .i64 1] := rfl
  have ca5 : ∀ e : Ev, acut (ec e) 0 5 = some (ec e) := fun _ => rfl
  have b1 : ∀ e : Ev, afill [.int .i64 0, .int .i64 0, .string (bs []), .int .i64 0, .int .u8 0] [(0, 5, .agg (ec e).toArray)] = some (ec e) := fun e => by simp [afill, hm5, hle5, pe]
  have b2 : ∀ e f : Ev, afill [.int .i64 0, .int .i64 0, .string (bs []), .int .i64 0, .int .u8 0, .int .i64 0, .int .i64 0, .string (bs []), .int .i64 0, .int .u8 0] [(0, 5, .agg (ec e).toArray), (5, 5, .agg (ec f).toArray)] = some (ec e ++ ec f) := fun e f => rfl
  have i1 : inW 1 2 1 [ev1] := ⟨rfl, by rw [st1]; exact wth1⟩
  have i2 : inW 1 2 1 [ev1, ev1] := ⟨rfl, by rw [st11]; exact wth1⟩
  have i3 : ¬ inW 1 2 1 [ev1, ev2] := fun q => by
    have := q.2
    rw [st12] at this
    exact wth2 this
  have tt : ∀ {v : Value} {W : Prop}, Tells v W → W → v = .bool true := fun t w => by
    obtain ⟨x, rfl, q⟩ := t
    rw [q.2 w]
  have tf : ∀ {v : Value} {W : Prop}, Tells v W → ¬ W → v = .bool false := fun t w => by
    obtain ⟨x, rfl, q⟩ := t
    cases x with
    | false => rfl
    | true => exact absurd (q.1 rfl) w
  simp [f1, f2, apart, ac, ca5, b1, bs_lit]
  have gB : Gr A (A.push (.cells (ec ev1) .ex 1)) := (Gr.refl gA.cl).push (ec_bel _)
  have sl1 := sl5_one A ev1
  have f1B := cellsOf_keep gB.m f1
  have f2B := cellsOf_keep gB.m f2
  have f3B := cellsOf_keep gB.m f3
  generalize A.push (.cells (ec ev1) .ex 1) = B at *
  have k1 := bin_ok 1 2 1 [ev1] _ B sl1 (by simp)
  unfold gv at k1
  refine k1.mono ?_
  rintro v h9 ⟨t, e⟩
  rw [e, tt t i1]
  clear e h9 t k1
  simp [f1B, f2B, apart, ac, ca5, b2, bs_lit]
  have gC : Gr B (B.push (.cells (ec ev1 ++ ec ev1) .ex 1)) := (Gr.refl gB.cl).push (ec2_bel _ _)
  have sl2 := sl5_two B ev1 ev1
  have f1C := cellsOf_keep gC.m f1B
  have f2C := cellsOf_keep gC.m f2B
  have f3C := cellsOf_keep gC.m f3B
  generalize B.push (.cells (ec ev1 ++ ec ev1) .ex 1) = C at *
  have k1 := bin_ok 1 2 1 [ev1, ev1] _ C sl2 (by simp)
  unfold gv at k1
  refine k1.mono ?_
  rintro v h9 ⟨t, e⟩
  rw [e, tt t i2]
  clear e h9 t k1
  simp [f1C, f2C, f3C, apart, ac, ca5, b2, bs_lit]
  have gD : Gr C (C.push (.cells (ec ev1 ++ ec ev2) .ex 1)) := (Gr.refl gC.cl).push (ec2_bel _ _)
  have sl3 := sl5_two C ev1 ev2
  have f1D := cellsOf_keep gD.m f1C
  have f2D := cellsOf_keep gD.m f2C
  have f3D := cellsOf_keep gD.m f3C
  generalize C.push (.cells (ec ev1 ++ ec ev2) .ex 1) = D at *
  have k1 := bin_ok 1 2 1 [ev1, ev2] _ D sl3 (by simp)
  unfold gv at k1
  refine k1.mono ?_
  rintro v h9 ⟨t, e⟩
  rw [e, tf t i3]
  clear e h9 t k1
  simp [f1D, f2D, f3D, apart, ac, ca5, b2, bs_lit, aun]
  have gE : Gr D (D.push (.cells (ec ev1 ++ ec ev2) .ex 1)) := (Gr.refl gD.cl).push (ec2_bel _ _)
  have sl4 := sl5_two D ev1 ev2
  generalize D.push (.cells (ec ev1 ++ ec ev2) .ex 1) = E at *
  have k1 := btrim_ok 1 2 1 rfl [ev1, ev2] _ E sl4 (by simp)
  unfold gv at k1
  refine k1.mono ?_
  rintro v h9 ⟨t, gF⟩
  obtain ⟨nm, t⟩ := t
  rw [trm] at t
  obtain ⟨a, rfl⟩ := t.form
  simp
  exact gA.ext.trans (gB.ext.trans (gC.ext.trans (gD.ext.trans (gE.ext.trans gF.ext))))
set_option maxHeartbeats 1000000 in
theorem bsteps_law (d p s c : Int) (h : Heap) : ACalls Try.prog 12 [gv d p s, .int .i64 c] h fun v _ => v = .bool true := by
  refine acalls_of mix Try.func12 k12 n12 (by simp) fun hcl hb => ?_
  have hf := cellsOf_new h [.int .i64 d, .int .i64 p, .int .i64 s] .ex 1
  have g1 : Gr h (h.push (.cells [.int .i64 d, .int .i64 p, .int .i64 s] .ex 1)) := (Gr.refl hcl).push gv_bel
  have ac : acut [.int .i64 d, .int .i64 p, .int .i64 s] 0 3 = some [.int .i64 d, .int .i64 p, .int .i64 s] := rfl
  simp [c12, gv, mcells]
  generalize h.push (.cells [.int .i64 d, .int .i64 p, .int .i64 s] .ex 1) = H at *
  refine (bawake_ok _).mono ?_
  rintro _ h9 ⟨rfl, e⟩
  rw [e]
  clear e h9
  simp [aun]
  refine (badd_nil _ _).mono ?_
  rintro _ h9 ⟨rfl, e⟩
  rw [e]
  clear e h9
  simp
  refine (bwithin_nil _).mono ?_
  rintro _ h9 ⟨rfl, e⟩
  rw [e]
  clear e h9
  simp
  refine (bhits_nil _ _ _).mono ?_
  rintro _ h9 ⟨rfl, e⟩
  rw [e]
  clear e h9
  simp [hf, apart, ac]
  have rr := refRight_ok d p s H
  unfold gv at rr
  refine rr.mono ?_
  rintro _ h9 ⟨rfl, e⟩
  rw [e]
  clear e h9 rr
  have bs' := bsteps_ok d p s c H
  have bb := bbound_ok d p s H
  unfold gv at bs' bb
  cases hr : right d p s with
  | false =>
    rw [hr] at bs' bb
    simp [aun, hf, apart, ac]
    refine bs'.mono ?_
    rintro _ h9 ⟨rfl, e⟩
    rw [e]
    clear e h9
    simp [hf, apart, ac]
    refine bb.mono ?_
    rintro _ h9 ⟨rfl, e⟩
    rw [e]
    clear e h9
    simp
  | true =>
    rw [hr] at bs' bb
    have hp := right_prop.1 hr
    have al := all_ok d p s H
    unfold gv at al
    have hm : 0 ≤ min (max c 0) 1000 ∧ min (max c 0) 1000 ≤ 1000 := by omega
    have mb := mulb (a := min (max c 0) 1000 + 1) (b := s) (m := 1001) (n := 8) (by omega) (by omega) (by omega) (by omega)
    have e3 : (min (max c 0) 1000 + 1) * 3 * s = 3 * ((min (max c 0) 1000 + 1) * s) := by rw [Int.mul_comm _ 3, Int.mul_assoc]
    have w1 : IntKind.i64.wrap (min (max c 0) 1000 + 1) = min (max c 0) 1000 + 1 := IntWalk.i64_in _ (by omega)
    have w2 : IntKind.i64.wrap ((min (max c 0) 1000 + 1) * 3) = (min (max c 0) 1000 + 1) * 3 := IntWalk.i64_in _ (by omega)
    have w3 : IntKind.i64.wrap ((min (max c 0) 1000 + 1) * 3 * s) = (min (max c 0) 1000 + 1) * 3 * s := IntWalk.i64_in _ (by omega)
    have hsl := slot_bound (d := d) (p := p) (s := s)
    have hall : allS d p s ≤ 354 ∧ 0 ≤ allS d p s := by
      unfold allS
      split <;> omega
    have x1 : IntKind.i64.wrap (9 * allS d p s) = 9 * allS d p s := IntWalk.i64_in _ (by omega)
    have x2 : IntKind.i64.wrap (9 * allS d p s + 200) = 9 * allS d p s + 200 := IntWalk.i64_in _ (by omega)
    simp [aun, afold, amax2, amin2, hf, apart, ac, w1, w2, w3]
    refine bs'.mono ?_
    rintro _ h9 ⟨rfl, e⟩
    rw [e]
    clear e h9
    simp [hf, apart, ac]
    refine bb.mono ?_
    rintro _ h9 ⟨rfl, e⟩
    rw [e]
    clear e h9
    simp [hf, apart, ac]
    refine al.mono ?_
    rintro _ h9 ⟨rfl, e⟩
    rw [e]
    clear e h9
    simp [x1, x2]
end Go.Proofs.Ythhhcpbkedikfaa.buda
