/-
  Contracts.
-/
import Derived.Test.YthhhcpbkedikfaaShar
import Derived.Test.YthhhcpbkedikfaaHead
import Derived.Test.YthhhcpbkedikfaaSha
import Derived.Test.YthhhcpbkedikfaaNum
import Derived.Test.YthhhcpbkedikfaaAbEnter
import Derived.Test.YthhhcpbkedikfaaProg
import Derived.IntWalk
import Derived.KernelRfl
set_option linter.unusedSimpArgs false
set_option linter.unusedVariables false
namespace Go.Proofs.Ythhhcpbkedikfaa.shaw
open Go Go.Ab Go.Proofs Go.RowKit Go.Proofs.Ythhhcpbkedikfaa.num Go.Proofs.Ythhhcpbkedikfaa.sha Go.Proofs.Ythhhcpbkedikfaa.head Go.Proofs.Ythhhcpbkedikfaa.shar
set_option maxRecDepth 100000
attribute [local simp] s_ops s_seq s_cond s_cond_t s_cond_f s_block s_exit s_ret s_skip s_then_n s_then_n' s_then_e s_then_e' s_then_r s_then_r' s_block_n s_block_r s_block_e s_post_r s_post_n s_res0 s_res1 s_res2 s_res3 s_res4 s_nil s_cons s_guard s_guard_tt s_guard_ff s_guard_tf s_guard_ft s_guard_u s_call s_kL s_put s_put0 s_set s_tmp s_const s_func s_init s_mkF s_mkF0 s_mv s_bin s_pick s_op aop oK_some oK_none bK_some bK_none b_add b_sub b_mul b_quo b_rem b_and b_or b_xor b_andNot b_shl b_shr b_eql b_neq b_lss b_leq b_gtr b_geq b_sadd b_seql b_sneq b_slss b_sleq b_sgtr b_sgeq s_draw s_stage s_stage0 s_kW s_kR s_rc0 s_rc s_rcg rK_some rK_none rG_b rG_u s_callv s_callv_f s_nextM s_postR_r s_postR_n s_resA0 s_resAt s_resAc s_resC s_tup0 s_tup1 s_tup2 s_tup3
def c61 : AC := .seq (.ops [⟨ some 0, none, .mv (.const (.bool false)) ⟩]) (.seq (.ops [⟨ some 2, none, .buildS 1 [.string ⟨ ⟨[] ⟩ ⟩] [(0, 1, .const (.string ⟨ ⟨[97, 98, 99] ⟩ ⟩))] ⟩, ⟨ some 3, none, .call 67 [.tmp 2] ⟩, ⟨ some 4, none, .call 76 [.tmp 3] ⟩, ⟨ some 1, none, .mv (.tmp 4) ⟩]) (.seq (.ops [⟨ some 5, none, .mv (.tmp 1) ⟩, ⟨ some 6, none, .lenS true (.tmp 5) ⟩, ⟨ some 7, none, .bin .eql (.tmp 6) (.const (.int .i64 64)) ⟩, ⟨ some 8, none, .mv (.tmp 7) ⟩, ⟨ some 9, some (8, true), .mv (.tmp 1) ⟩, ⟨ some 10, some (8, true), .slS (.tmp 9) none (some (.const (.int .i64 8))) ⟩, ⟨ some 11, some (8, true), .bin .eql (.tmp 10) (.const (.string ⟨ ⟨[98, 97, 55, 56, 49, 54, 98, 102] ⟩ ⟩)) ⟩, ⟨ some 12, none, .pick (.tmp 8) (.tmp 11) (.const (.bool false)) ⟩, ⟨ some 13, none, .mv (.tmp 12) ⟩, ⟨ some 14, some (13, true), .buildS 2 [.string ⟨ ⟨[] ⟩ ⟩, .string ⟨ ⟨[] ⟩ ⟩] [(0, 1, .const (.string ⟨ ⟨[97] ⟩ ⟩)), (1, 1, .const (.string ⟨ ⟨[98, 99] ⟩ ⟩))] ⟩, ⟨ some 15, some (13, true), .call 67 [.tmp 14] ⟩, ⟨ some 16, some (13, true), .call 76 [.tmp 15] ⟩, ⟨ some 17, some (13, true), .mv (.tmp 1) ⟩, ⟨ some 18, some (13, true), .bin .eql (.tmp 16) (.tmp 17) ⟩, ⟨ some 19, none, .pick (.tmp 13) (.tmp 18) (.const (.bool false)) ⟩, ⟨ some 0, none, .mv (.tmp 19) ⟩]) .ret))
theorem k61 : compF Try.prog Try.f61 = some (c61, [0]) := by kernel_rfl
theorem n61 : Try.f61.ntmps = 20 := by kernel_rfl
def c62 : AC := .seq (.ops [⟨ some 2, none, .mv (.const (.bool false)) ⟩]) (.seq (.ops [⟨ some 3, none, .mv (.const (.int .i64 0)) ⟩]) (.seq (.seq (.ops [⟨ some 6, none, .mv (.tmp 0) ⟩, ⟨ some 7, none, .lenS false (.tmp 6) ⟩, ⟨ some 8, none, .mv (.const (.int .i64 0)) ⟩]) (.block 0 (.loop (.seq (.ops [⟨ some 9, none, .bin .lss (.tmp 8) (.tmp 7) ⟩]) (.seq (.cond (.tmp 9) .skip (.exit 0)) (.seq (.block 1 (.seq (.ops [⟨ some 10, none, .iAddrS 1 (.tmp 6) (.tmp 8) ⟩, ⟨ some 11, none, .load none (.tmp 10) ⟩, ⟨ some 5, none, .mv (.tmp 11) ⟩]) (.seq (.ops [⟨ some 12, none, .mv (.tmp 3) ⟩, ⟨ some 13, none, .mv (.tmp 5) ⟩, ⟨ some 14, none, .lenS true (.tmp 13) ⟩, ⟨ some 15, none, .bin .add (.tmp 12) (.tmp 14) ⟩, ⟨ some 3, none, .mv (.tmp 15) ⟩]) (.seq (.ops [⟨ some 16, none, .mv (.tmp 3) ⟩, ⟨ some 17, none, .bin .gtr (.tmp 16) (.const (.int .i64 3000)) ⟩]) (.cond (.tmp 17) (.seq (.ops [⟨ some 2, none, .mv (.const (.bool true)) ⟩]) .ret) .skip))))) (.ops [⟨ some 18, none, .bin .add (.tmp 8) (.const (.int .i64 1)) ⟩, ⟨ some 8, none, .mv (.tmp 18) ⟩]))))))) (.seq (.ops [⟨ some 19, none, .mv (.tmp 0) ⟩, ⟨ some 20, none, .lenS false (.tmp 19) ⟩, ⟨ some 21, none, .bin .gtr (.tmp 20) (.const (.int .i64 60)) ⟩, ⟨ some 2, none, .mv (.tmp 21) ⟩]) .ret)))
theorem k62 : compF Try.prog Try.f62 = some (c62, [2]) := by kernel_rfl
theorem n62 : Try.f62.ntmps = 22 := by kernel_rfl
def c66 : AC := .seq (.ops [⟨ some 2, none, .mv (.const (.string ⟨ ⟨[] ⟩ ⟩)) ⟩]) (.seq (.ops [⟨ some 3, none, .mv (.const (.string ⟨ ⟨[] ⟩ ⟩)) ⟩]) (.seq (.seq (.ops [⟨ some 4, none, .mv (.const (.int .i64 0)) ⟩]) (.block 0 (.loop (.seq (.seq (.ops [⟨ some 5, none, .mv (.tmp 4) ⟩, ⟨ some 6, none, .mv (.tmp 0) ⟩, ⟨ some 7, none, .lenS false (.tmp 6) ⟩, ⟨ some 8, none, .bin .lss (.tmp 5) (.tmp 7) ⟩]) (.cond (.tmp 8) .skip (.exit 0))) (.seq (.block 1 (.ops [⟨ some 11, none, .mv (.tmp 3) ⟩, ⟨ some 12, none, .mv (.tmp 0) ⟩, ⟨ some 13, none, .mv (.tmp 4) ⟩, ⟨ some 14, none, .iAddrS 1 (.tmp 12) (.tmp 13) ⟩, ⟨ some 15, none, .load none (.tmp 14) ⟩, ⟨ some 16, none, .bin .add (.tmp 11) (.tmp 15) ⟩, ⟨ some 3, none, .mv (.tmp 16) ⟩])) (.ops [⟨ some 9, none, .mv (.tmp 4) ⟩, ⟨ some 10, none, .bin .add (.tmp 9) (.const (.int .i64 1)) ⟩, ⟨ some 4, none, .mv (.tmp 10) ⟩])))))) (.seq (.ops [⟨ some 17, none, .mv (.tmp 3) ⟩, ⟨ some 2, none, .mv (.tmp 17) ⟩]) .ret)))
theorem k66 : compF Try.prog Try.f66 = some (c66, [2]) := by kernel_rfl
theorem n66 : Try.f66.ntmps = 18 := by kernel_rfl
def c76_0 : AC := .seq (.ops [⟨ some 8, none, .bin .lss (.tmp 7) (.const (.int .i64 32)) ⟩]) (.seq (.cond (.tmp 8) .skip (.exit 0)) (.seq (.block 1 (.seq (.ops [⟨ some 9, none, .iValA 32 1 none (.tmp 6) (.tmp 7) ⟩, ⟨ some 5, none, .mv (.tmp 9) ⟩]) (.seq (.ops [⟨ some 10, none, .mv (.tmp 5) ⟩, ⟨ some 11, none, .bin .shr (.tmp 10) (.const (.int .u64 4)) ⟩, ⟨ some 12, none, .iStr (.const (.string ⟨ ⟨[48, 49, 50, 51, 52, 53, 54, 55, 56, 57, 97, 98, 99, 100, 101, 102] ⟩ ⟩)) (.tmp 11) ⟩, ⟨ some 13, none, .call 111 [.tmp 3, .tmp 12] ⟩]) (.ops [⟨ some 14, none, .mv (.tmp 5) ⟩, ⟨ some 15, none, .bin .and (.tmp 14) (.const (.int .u8 15)) ⟩, ⟨ some 16, none, .iStr (.const (.string ⟨ ⟨[48, 49, 50, 51, 52, 53, 54, 55, 56, 57, 97, 98, 99, 100, 101, 102] ⟩ ⟩)) (.tmp 15) ⟩, ⟨ some 17, none, .call 111 [.tmp 3, .tmp 16] ⟩])))) (.ops [⟨ some 18, none, .bin .add (.tmp 7) (.const (.int .i64 1)) ⟩, ⟨ some 7, none, .mv (.tmp 18) ⟩])))
def c76 : AC := .seq (.ops [⟨ some 1, none, .box (.tmp 0) ⟩, ⟨ some 2, none, .mv (.const (.string ⟨ ⟨[] ⟩ ⟩)) ⟩]) (.seq (.ops [⟨ some 3, none, .allocT 184 [.pointer none, .slice none 0 0] ⟩]) (.seq (.seq (.ops [⟨ some 6, none, .load (some 32) (.tmp 1) ⟩, ⟨ some 7, none, .mv (.const (.int .i64 0)) ⟩]) (.block 0 (.loop c76_0))) (.seq (.ops [⟨ some 19, none, .call 112 [.tmp 3] ⟩, ⟨ some 2, none, .mv (.tmp 19) ⟩]) .ret)))
theorem k76 : compF Try.prog Try.f76 = some (c76, [2]) := by kernel_rfl
theorem n76 : Try.f76.ntmps = 20 := by kernel_rfl
def c77_0 : AC := .seq (.ops [⟨ some 13, none, .bin .lss (.tmp 12) (.const (.int .i64 32)) ⟩]) (.seq (.cond (.tmp 13) .skip (.exit 0)) (.seq (.block 1 (.seq (.ops [⟨ some 14, none, .mv (.tmp 12) ⟩, ⟨ some 5, none, .mv (.tmp 14) ⟩]) (.seq (.draw [([⟨ some 15, none, .mv (.tmp 0) ⟩, ⟨ some 16, none, .mv (.tmp 5) ⟩, ⟨ some 17, none, .bin .mul (.const (.int .i64 2)) (.tmp 16) ⟩, ⟨ some 18, none, .iStr (.tmp 15) (.tmp 17) ⟩, ⟨ some 20, none, .mv (.tmp 0) ⟩, ⟨ some 21, none, .mv (.tmp 5) ⟩, ⟨ some 22, none, .bin .mul (.const (.int .i64 2)) (.tmp 21) ⟩, ⟨ some 23, none, .bin .add (.tmp 22) (.const (.int .i64 1)) ⟩, ⟨ some 24, none, .iStr (.tmp 20) (.tmp 23) ⟩], [⟨ some 19, none, .call 113 [.const (.string ⟨ ⟨[48, 49, 50, 51, 52, 53, 54, 55, 56, 57, 97, 98, 99, 100, 101, 102] ⟩ ⟩), .tmp 18] ⟩], []), ([], [⟨ some 25, none, .call 113 [.const (.string ⟨ ⟨[48, 49, 50, 51, 52, 53, 54, 55, 56, 57, 97, 98, 99, 100, 101, 102] ⟩ ⟩), .tmp 24] ⟩], []), ([⟨ some 6, none, .mv (.tmp 19) ⟩, ⟨ some 7, none, .mv (.tmp 25) ⟩], [], [])]) (.seq (.seq (.ops [⟨ some 26, none, .mv (.tmp 6) ⟩, ⟨ some 27, none, .bin .lss (.tmp 26) (.const (.int .i64 0)) ⟩, ⟨ some 28, none, .mv (.tmp 27) ⟩, ⟨ some 29, some (28, false), .mv (.tmp 7) ⟩, ⟨ some 30, some (28, false), .bin .lss (.tmp 29) (.const (.int .i64 0)) ⟩, ⟨ some 31, none, .pick (.tmp 28) (.const (.bool true)) (.tmp 30) ⟩]) (.cond (.tmp 31) (.seq (.ops [⟨ some 32, none, .build (zl .u8 32) [] ⟩, ⟨ none, none, .store 32 (.tmp 2) (.tmp 32) ⟩, ⟨ some 3, none, .mv (.const (.bool false)) ⟩]) .ret) .skip)) (.ops [⟨ some 33, none, .mv (.tmp 5) ⟩, ⟨ some 34, none, .mv (.tmp 6) ⟩, ⟨ some 35, none, .bin .shl (.tmp 34) (.const (.int .u64 4)) ⟩, ⟨ some 36, none, .mv (.tmp 7) ⟩, ⟨ some 37, none, .bin .or (.tmp 35) (.tmp 36) ⟩, ⟨ some 38, none, .toInt .u8 (.tmp 37) ⟩, ⟨ some 39, none, .iAddrA 32 1 (.tmp 4) (.tmp 33) ⟩, ⟨ none, none, .store 1 (.tmp 39) (.tmp 38) ⟩]))))) (.ops [⟨ some 40, none, .bin .add (.tmp 12) (.const (.int .i64 1)) ⟩, ⟨ some 12, none, .mv (.tmp 40) ⟩])))
def c77 : AC := .seq (.ops [⟨ some 2, none, .alloc (zl .u8 32) ⟩, ⟨ some 3, none, .mv (.const (.bool false)) ⟩]) (.seq (.ops [⟨ some 4, none, .alloc (zl .u8 32) ⟩]) (.seq (.seq (.ops [⟨ some 8, none, .mv (.tmp 0) ⟩, ⟨ some 9, none, .lenS true (.tmp 8) ⟩, ⟨ some 10, none, .bin .neq (.tmp 9) (.const (.int .i64 64)) ⟩]) (.cond (.tmp 10) (.seq (.ops [⟨ some 11, none, .build (zl .u8 32) [] ⟩, ⟨ none, none, .store 32 (.tmp 2) (.tmp 11) ⟩, ⟨ some 3, none, .mv (.const (.bool false)) ⟩]) .ret) .skip)) (.seq (.seq (.ops [⟨ some 12, none, .mv (.const (.int .i64 0)) ⟩]) (.block 0 (.loop c77_0))) (.seq (.ops [⟨ some 41, none, .load (some 32) (.tmp 4) ⟩, ⟨ none, none, .store 32 (.tmp 2) (.tmp 41) ⟩, ⟨ some 3, none, .mv (.const (.bool true)) ⟩]) .ret))))
theorem k77 : compR Try.prog Try.f77 = some (c77, [.c 2 (some 32), .t 3]) := by kernel_rfl
theorem n77 : Try.f77.ntmps = 42 := by kernel_rfl
def c78_0 : AC := .seq (.seq (.ops [⟨ some 6, none, .mv (.tmp 5) ⟩, ⟨ some 7, none, .bin .lss (.tmp 6) (.const (.int .i64 32)) ⟩]) (.cond (.tmp 7) .skip (.exit 0))) (.seq (.block 1 (.draw [([⟨ some 10, none, .mv (.tmp 4) ⟩, ⟨ some 11, none, .mv (.tmp 3) ⟩, ⟨ some 12, none, .mv (.tmp 5) ⟩, ⟨ some 13, none, .iAddrA 32 1 (.tmp 1) (.tmp 12) ⟩, ⟨ some 14, none, .load none (.tmp 13) ⟩, ⟨ some 15, none, .bin .quo (.tmp 14) (.const (.int .u8 16)) ⟩, ⟨ some 16, none, .mv (.tmp 5) ⟩, ⟨ some 17, none, .iAddrA 32 1 (.tmp 1) (.tmp 16) ⟩, ⟨ some 18, none, .load none (.tmp 17) ⟩, ⟨ some 19, none, .bin .quo (.tmp 18) (.const (.int .u8 16)) ⟩, ⟨ some 20, none, .bin .add (.tmp 19) (.const (.int .u8 1)) ⟩, ⟨ some 21, none, .slS (.tmp 11) (some (.tmp 15)) (some (.tmp 20)) ⟩, ⟨ some 22, none, .bin .add (.tmp 10) (.tmp 21) ⟩, ⟨ some 23, none, .mv (.tmp 3) ⟩, ⟨ some 24, none, .mv (.tmp 5) ⟩, ⟨ some 25, none, .iAddrA 32 1 (.tmp 1) (.tmp 24) ⟩, ⟨ some 26, none, .load none (.tmp 25) ⟩, ⟨ some 27, none, .bin .rem (.tmp 26) (.const (.int .u8 16)) ⟩, ⟨ some 28, none, .mv (.tmp 5) ⟩, ⟨ some 29, none, .iAddrA 32 1 (.tmp 1) (.tmp 28) ⟩, ⟨ some 30, none, .load none (.tmp 29) ⟩, ⟨ some 31, none, .bin .rem (.tmp 30) (.const (.int .u8 16)) ⟩, ⟨ some 32, none, .bin .add (.tmp 31) (.const (.int .u8 1)) ⟩, ⟨ some 33, none, .slS (.tmp 23) (some (.tmp 27)) (some (.tmp 32)) ⟩, ⟨ some 34, none, .bin .add (.tmp 22) (.tmp 33) ⟩], [⟨ some 4, none, .mv (.tmp 34) ⟩], []), ([], [], [])])) (.ops [⟨ some 8, none, .mv (.tmp 5) ⟩, ⟨ some 9, none, .bin .add (.tmp 8) (.const (.int .i64 1)) ⟩, ⟨ some 5, none, .mv (.tmp 9) ⟩]))
def c78 : AC := .seq (.ops [⟨ some 1, none, .box (.tmp 0) ⟩, ⟨ some 2, none, .mv (.const (.string ⟨ ⟨[] ⟩ ⟩)) ⟩]) (.seq (.ops [⟨ some 3, none, .mv (.const (.string ⟨ ⟨[48, 49, 50, 51, 52, 53, 54, 55, 56, 57, 97, 98, 99, 100, 101, 102] ⟩ ⟩)) ⟩]) (.seq (.ops [⟨ some 4, none, .mv (.const (.string ⟨ ⟨[] ⟩ ⟩)) ⟩]) (.seq (.seq (.ops [⟨ some 5, none, .mv (.const (.int .i64 0)) ⟩]) (.block 0 (.loop c78_0))) (.seq (.ops [⟨ some 35, none, .mv (.tmp 4) ⟩, ⟨ some 2, none, .mv (.tmp 35) ⟩]) .ret))))
theorem k78 : compF Try.prog Try.f78 = some (c78, [2]) := by kernel_rfl
theorem n78 : Try.f78.ntmps = 36 := by kernel_rfl
def c79 : AC := .seq (.ops [⟨ some 4, none, .alloc (zl .u8 32) ⟩]) (.seq (.seq (.ops [⟨ some 8, none, .mv (.tmp 0) ⟩, ⟨ some 9, none, .lenS true (.tmp 8) ⟩, ⟨ some 10, none, .bin .gtr (.tmp 9) (.const (.int .i64 64)) ⟩]) (.cond (.tmp 10) (.seq (.ops [⟨ some 11, none, .mv (.tmp 0) ⟩, ⟨ some 12, none, .buildS 1 [.string ⟨ ⟨[] ⟩ ⟩] [(0, 1, .tmp 11)] ⟩, ⟨ some 13, none, .call 67 [.tmp 12] ⟩, ⟨ some 5, none, .alloc (zl .u8 32) ⟩, ⟨ none, none, .store 32 (.tmp 5) (.tmp 13) ⟩]) (.ops [⟨ some 14, none, .slA 32 1 (.tmp 5) none none none ⟩, ⟨ some 15, none, .toStr (.tmp 14) ⟩, ⟨ some 0, none, .mv (.tmp 15) ⟩])) .skip)) (.seq (.ops [⟨ some 16, none, .call 63 [] ⟩, ⟨ some 6, none, .mv (.tmp 16) ⟩]) (.seq (.ops [⟨ some 17, none, .mv (.tmp 6) ⟩, ⟨ some 18, none, .mv (.tmp 0) ⟩, ⟨ some 19, none, .call 114 [.tmp 18, .const (.int .u8 54)] ⟩, ⟨ some 20, none, .buildS 1 [.string ⟨ ⟨[] ⟩ ⟩] [(0, 1, .tmp 19)] ⟩, ⟨ some 21, none, .call 64 [.tmp 17, .tmp 20] ⟩]) (.seq (.ops [⟨ some 22, none, .mv (.tmp 6) ⟩, ⟨ some 23, none, .mv (.tmp 1) ⟩, ⟨ some 24, none, .call 64 [.tmp 22, .tmp 23] ⟩]) (.seq (.ops [⟨ some 25, none, .mv (.tmp 6) ⟩, ⟨ some 26, none, .call 65 [.tmp 25] ⟩, ⟨ some 7, none, .alloc (zl .u8 32) ⟩, ⟨ none, none, .store 32 (.tmp 7) (.tmp 26) ⟩]) (.seq (.draw [([⟨ some 27, none, .mv (.tmp 0) ⟩, ⟨ some 29, none, .slA 32 1 (.tmp 7) none none none ⟩, ⟨ some 30, none, .toStr (.tmp 29) ⟩], [⟨ some 28, none, .call 114 [.tmp 27, .const (.int .u8 92)] ⟩], [⟨ some 30, none, .toStr (.tmp 29) ⟩]), ([], [⟨ some 31, none, .buildS 2 [.string ⟨ ⟨[] ⟩ ⟩, .string ⟨ ⟨[] ⟩ ⟩] [(0, 1, .tmp 28), (1, 1, .tmp 30)] ⟩], []), ([], [⟨ some 32, none, .call 67 [.tmp 31] ⟩], []), ([], [⟨ none, none, .store 32 (.tmp 4) (.tmp 32) ⟩], []), ([], [], [])]) .ret))))))
theorem k79 : compR Try.prog Try.f79 = some (c79, [.c 4 (some 32)]) := by kernel_rfl
theorem n79 : Try.f79.ntmps = 33 := by kernel_rfl
def c80_0 : AC := .seq (.seq (.ops [⟨ some 20, none, .mv (.tmp 9) ⟩, ⟨ some 21, none, .bin .lss (.tmp 20) (.const (.int .i64 64)) ⟩]) (.cond (.tmp 21) .skip (.exit 0))) (.seq (.block 1 (.seq (.ops [⟨ some 10, none, .mv (.const (.int .u8 0)) ⟩]) (.seq (.seq (.ops [⟨ some 24, none, .mv (.tmp 9) ⟩, ⟨ some 25, none, .mv (.tmp 1) ⟩, ⟨ some 26, none, .lenS true (.tmp 25) ⟩, ⟨ some 27, none, .bin .lss (.tmp 24) (.tmp 26) ⟩]) (.cond (.tmp 27) (.ops [⟨ some 28, none, .mv (.tmp 1) ⟩, ⟨ some 29, none, .mv (.tmp 9) ⟩, ⟨ some 30, none, .iStr (.tmp 28) (.tmp 29) ⟩, ⟨ some 10, none, .mv (.tmp 30) ⟩]) .skip)) (.seq (.ops [⟨ some 31, none, .mv (.tmp 7) ⟩, ⟨ some 32, none, .mv (.tmp 10) ⟩, ⟨ some 33, none, .bin .xor (.tmp 32) (.const (.int .u8 54)) ⟩, ⟨ some 34, none, .buildS 1 [.int .u8 0] [(0, 1, .tmp 33)] ⟩, ⟨ some 35, none, .app 1 1 5 (.tmp 31) (.tmp 34) ⟩, ⟨ some 7, none, .mv (.tmp 35) ⟩]) (.ops [⟨ some 36, none, .mv (.tmp 8) ⟩, ⟨ some 37, none, .mv (.tmp 10) ⟩, ⟨ some 38, none, .bin .xor (.tmp 37) (.const (.int .u8 92)) ⟩, ⟨ some 39, none, .buildS 1 [.int .u8 0] [(0, 1, .tmp 38)] ⟩, ⟨ some 40, none, .app 1 1 5 (.tmp 36) (.tmp 39) ⟩, ⟨ some 8, none, .mv (.tmp 40) ⟩]))))) (.ops [⟨ some 22, none, .mv (.tmp 9) ⟩, ⟨ some 23, none, .bin .add (.tmp 22) (.const (.int .i64 1)) ⟩, ⟨ some 9, none, .mv (.tmp 23) ⟩]))
def c80 : AC := .seq (.ops [⟨ some 3, none, .box (.tmp 0) ⟩, ⟨ some 6, none, .alloc (zl .u8 32) ⟩]) (.seq (.seq (.ops [⟨ some 11, none, .mv (.tmp 1) ⟩, ⟨ some 12, none, .lenS true (.tmp 11) ⟩, ⟨ some 13, none, .bin .gtr (.tmp 12) (.const (.int .i64 64)) ⟩]) (.cond (.tmp 13) (.ops [⟨ some 14, none, .load (some 2) (.tmp 3) ⟩, ⟨ some 15, none, .mv (.tmp 1) ⟩, ⟨ some 16, none, .call 73 [.tmp 14, .tmp 15] ⟩, ⟨ some 17, none, .call 115 [.tmp 16] ⟩, ⟨ some 1, none, .mv (.tmp 17) ⟩]) .skip)) (.seq (.ops [⟨ some 18, none, .buildS 0 [] [] ⟩, ⟨ some 19, none, .buildS 0 [] [] ⟩, ⟨ some 7, none, .mv (.tmp 18) ⟩, ⟨ some 8, none, .mv (.tmp 19) ⟩]) (.seq (.seq (.ops [⟨ some 9, none, .mv (.const (.int .i64 0)) ⟩]) (.block 0 (.loop c80_0))) (.seq (.draw [([⟨ some 41, none, .load (some 2) (.tmp 3) ⟩, ⟨ some 42, none, .mv (.tmp 8) ⟩, ⟨ some 43, none, .toStr (.tmp 42) ⟩, ⟨ some 44, none, .load (some 2) (.tmp 3) ⟩, ⟨ some 45, none, .mv (.tmp 7) ⟩, ⟨ some 46, none, .toStr (.tmp 45) ⟩, ⟨ some 47, none, .mv (.tmp 2) ⟩, ⟨ some 48, none, .bin .add (.tmp 46) (.tmp 47) ⟩], [⟨ some 49, none, .call 73 [.tmp 44, .tmp 48] ⟩], [⟨ some 41, none, .load (some 2) (.tmp 3) ⟩, ⟨ some 43, none, .toStr (.tmp 42) ⟩]), ([], [⟨ some 50, none, .call 115 [.tmp 49] ⟩], [⟨ some 41, none, .load (some 2) (.tmp 3) ⟩, ⟨ some 43, none, .toStr (.tmp 42) ⟩]), ([⟨ some 51, none, .bin .add (.tmp 43) (.tmp 50) ⟩], [⟨ some 52, none, .call 73 [.tmp 41, .tmp 51] ⟩], []), ([], [⟨ none, none, .store 32 (.tmp 6) (.tmp 52) ⟩], []), ([], [], [])]) .ret))))
theorem k80 : compR Try.prog Try.f80 = some (c80, [.c 6 (some 32)]) := by kernel_rfl
theorem n80 : Try.f80.ntmps = 53 := by kernel_rfl
def c81_0 : AC := .seq (.ops [⟨ some 8, none, .bin .lss (.tmp 7) (.const (.int .i64 32)) ⟩]) (.seq (.cond (.tmp 8) .skip (.exit 0)) (.seq (.block 1 (.seq (.ops [⟨ some 9, none, .mv (.tmp 7) ⟩, ⟨ some 6, none, .mv (.tmp 9) ⟩]) (.draw [([⟨ some 10, none, .mv (.tmp 5) ⟩, ⟨ some 11, none, .mv (.tmp 6) ⟩, ⟨ some 12, none, .iAddrA 32 1 (.tmp 2) (.tmp 11) ⟩, ⟨ some 13, none, .load none (.tmp 12) ⟩, ⟨ some 14, none, .mv (.tmp 6) ⟩, ⟨ some 15, none, .iAddrA 32 1 (.tmp 3) (.tmp 14) ⟩, ⟨ some 16, none, .load none (.tmp 15) ⟩, ⟨ some 17, none, .bin .xor (.tmp 13) (.tmp 16) ⟩, ⟨ some 18, none, .bin .or (.tmp 10) (.tmp 17) ⟩], [⟨ some 5, none, .mv (.tmp 18) ⟩], []), ([], [], [])]))) (.ops [⟨ some 19, none, .bin .add (.tmp 7) (.const (.int .i64 1)) ⟩, ⟨ some 7, none, .mv (.tmp 19) ⟩])))
def c81 : AC := .seq (.ops [⟨ some 2, none, .box (.tmp 0) ⟩, ⟨ some 3, none, .box (.tmp 1) ⟩, ⟨ some 4, none, .mv (.const (.bool false)) ⟩]) (.seq (.ops [⟨ some 5, none, .mv (.const (.int .u8 0)) ⟩]) (.seq (.seq (.ops [⟨ some 7, none, .mv (.const (.int .i64 0)) ⟩]) (.block 0 (.loop c81_0))) (.seq (.ops [⟨ some 20, none, .mv (.tmp 5) ⟩, ⟨ some 21, none, .bin .eql (.tmp 20) (.const (.int .u8 0)) ⟩, ⟨ some 4, none, .mv (.tmp 21) ⟩]) .ret)))
theorem k81 : compF Try.prog Try.f81 = some (c81, [4]) := by kernel_rfl
theorem n81 : Try.f81.ntmps = 22 := by kernel_rfl
def c111 : AC := .seq (.ops [⟨ some 4, none, .mv (.const .nilIface) ⟩]) (.seq (.ops [⟨ some 5, none, .mv (.tmp 0) ⟩, ⟨ some 6, none, .call 133 [.tmp 5] ⟩]) (.seq (.ops [⟨ some 7, none, .mv (.tmp 0) ⟩, ⟨ some 8, none, .mv (.tmp 0) ⟩, ⟨ some 9, none, .nilck (.tmp 8) ⟩, ⟨ some 10, none, .fAddr 1 (.tmp 9) ⟩, ⟨ some 11, none, .load none (.tmp 10) ⟩, ⟨ some 12, none, .mv (.tmp 1) ⟩, ⟨ some 13, none, .buildS 1 [.int .u8 0] [(0, 1, .tmp 12)] ⟩, ⟨ some 14, none, .app 1 1 5 (.tmp 11) (.tmp 13) ⟩, ⟨ some 15, none, .nilck (.tmp 7) ⟩, ⟨ some 16, none, .fAddr 1 (.tmp 15) ⟩, ⟨ none, none, .store 1 (.tmp 16) (.tmp 14) ⟩]) (.seq (.ops [⟨ some 4, none, .mv (.const .nilIface) ⟩]) .ret)))
theorem k111 : compF Try.prog Try.f111 = some (c111, [4]) := by kernel_rfl
theorem n111 : Try.f111.ntmps = 17 := by kernel_rfl
def c112 : AC := .seq (.ops [⟨ some 2, none, .mv (.const (.string ⟨ ⟨[] ⟩ ⟩)) ⟩]) (.seq (.draw [([⟨ some 3, none, .mv (.tmp 0) ⟩, ⟨ some 4, none, .nilck (.tmp 3) ⟩, ⟨ some 5, none, .fAddr 1 (.tmp 4) ⟩, ⟨ some 6, none, .load none (.tmp 5) ⟩, ⟨ some 7, none, .sdata (.tmp 6) ⟩, ⟨ some 8, none, .mv (.tmp 0) ⟩, ⟨ some 9, none, .nilck (.tmp 8) ⟩, ⟨ some 10, none, .fAddr 1 (.tmp 9) ⟩, ⟨ some 11, none, .load none (.tmp 10) ⟩, ⟨ some 12, none, .lenS false (.tmp 11) ⟩], [⟨ some 13, none, .ustr 5 (.tmp 7) (.tmp 12) ⟩], []), ([⟨ some 2, none, .mv (.tmp 13) ⟩], [], [])]) .ret)
theorem k112 : compF Try.prog Try.f112 = some (c112, [2]) := by kernel_rfl
theorem n112 : Try.f112.ntmps = 14 := by kernel_rfl
def c113 : AC := .seq (.ops [⟨ some 4, none, .mv (.const (.int .i64 0)) ⟩]) (.seq (.ops [⟨ some 5, none, .mv (.tmp 0) ⟩, ⟨ some 6, none, .mv (.tmp 1) ⟩, ⟨ some 7, none, .call 134 [.tmp 5, .tmp 6] ⟩, ⟨ some 4, none, .mv (.tmp 7) ⟩]) .ret)
theorem k113 : compF Try.prog Try.f113 = some (c113, [4]) := by kernel_rfl
theorem n113 : Try.f113.ntmps = 8 := by kernel_rfl
def c114_0 : AC := .seq (.ops [⟨ some 14, none, .bin .lss (.tmp 13) (.tmp 12) ⟩]) (.seq (.cond (.tmp 14) .skip (.exit 0)) (.seq (.block 1 (.seq (.ops [⟨ some 15, none, .mv (.tmp 13) ⟩, ⟨ some 6, none, .mv (.tmp 15) ⟩]) (.ops [⟨ some 16, none, .mv (.tmp 5) ⟩, ⟨ some 17, none, .mv (.tmp 6) ⟩, ⟨ some 18, none, .iAddrS 1 (.tmp 16) (.tmp 17) ⟩, ⟨ some 19, none, .load none (.tmp 18) ⟩, ⟨ some 20, none, .mv (.tmp 1) ⟩, ⟨ some 21, none, .bin .xor (.tmp 19) (.tmp 20) ⟩, ⟨ some 22, none, .iAddrS 1 (.tmp 16) (.tmp 17) ⟩, ⟨ none, none, .store 1 (.tmp 22) (.tmp 21) ⟩]))) (.ops [⟨ some 23, none, .bin .add (.tmp 13) (.const (.int .i64 1)) ⟩, ⟨ some 13, none, .mv (.tmp 23) ⟩])))
def c114 : AC := .seq (.ops [⟨ some 4, none, .mv (.const (.string ⟨ ⟨[] ⟩ ⟩)) ⟩]) (.seq (.ops [⟨ some 7, none, .mkSl [.int .u8 0] 1 (.const (.int .i64 64)) (.const (.int .i64 64)) ⟩, ⟨ some 5, none, .mv (.tmp 7) ⟩]) (.seq (.ops [⟨ some 8, none, .mv (.tmp 5) ⟩, ⟨ some 9, none, .mv (.tmp 0) ⟩, ⟨ some 10, none, .copy 1 (.tmp 8) (.tmp 9) ⟩]) (.seq (.seq (.ops [⟨ some 11, none, .mv (.tmp 5) ⟩, ⟨ some 12, none, .lenS false (.tmp 11) ⟩, ⟨ some 13, none, .mv (.const (.int .i64 0)) ⟩]) (.block 0 (.loop c114_0))) (.seq (.ops [⟨ some 24, none, .mv (.tmp 5) ⟩, ⟨ some 25, none, .toStr (.tmp 24) ⟩, ⟨ some 4, none, .mv (.tmp 25) ⟩]) .ret))))
theorem k114 : compF Try.prog Try.f114 = some (c114, [4]) := by kernel_rfl
theorem n114 : Try.f114.ntmps = 26 := by kernel_rfl
def c115_0 : AC := .seq (.seq (.ops [⟨ some 6, none, .mv (.tmp 4) ⟩, ⟨ some 7, none, .bin .lss (.tmp 6) (.const (.int .i64 32)) ⟩]) (.cond (.tmp 7) .skip (.exit 0))) (.seq (.block 1 (.ops [⟨ some 10, none, .mv (.tmp 3) ⟩, ⟨ some 11, none, .mv (.tmp 4) ⟩, ⟨ some 12, none, .iAddrA 32 1 (.tmp 1) (.tmp 11) ⟩, ⟨ some 13, none, .load none (.tmp 12) ⟩, ⟨ some 14, none, .buildS 1 [.int .u8 0] [(0, 1, .tmp 13)] ⟩, ⟨ some 15, none, .app 1 1 5 (.tmp 10) (.tmp 14) ⟩, ⟨ some 3, none, .mv (.tmp 15) ⟩])) (.ops [⟨ some 8, none, .mv (.tmp 4) ⟩, ⟨ some 9, none, .bin .add (.tmp 8) (.const (.int .i64 1)) ⟩, ⟨ some 4, none, .mv (.tmp 9) ⟩]))
def c115 : AC := .seq (.ops [⟨ some 1, none, .box (.tmp 0) ⟩, ⟨ some 2, none, .mv (.const (.string ⟨ ⟨[] ⟩ ⟩)) ⟩]) (.seq (.ops [⟨ some 5, none, .buildS 0 [] [] ⟩, ⟨ some 3, none, .mv (.tmp 5) ⟩]) (.seq (.seq (.ops [⟨ some 4, none, .mv (.const (.int .i64 0)) ⟩]) (.block 0 (.loop c115_0))) (.seq (.ops [⟨ some 16, none, .mv (.tmp 3) ⟩, ⟨ some 17, none, .toStr (.tmp 16) ⟩, ⟨ some 2, none, .mv (.tmp 17) ⟩]) .ret)))
theorem k115 : compF Try.prog Try.f115 = some (c115, [2]) := by kernel_rfl
theorem n115 : Try.f115.ntmps = 18 := by kernel_rfl
def c133 : AC := .seq (.ops [⟨ some 2, none, .mv (.tmp 0) ⟩, ⟨ some 3, none, .nilck (.tmp 2) ⟩, ⟨ some 4, none, .fAddr 0 (.tmp 3) ⟩, ⟨ some 5, none, .load none (.tmp 4) ⟩, ⟨ some 6, none, .eqv false .ptr (.tmp 5) (.const (.pointer none)) ⟩]) (.cond (.tmp 6) (.ops [⟨ some 7, none, .mv (.tmp 0) ⟩, ⟨ some 8, none, .mv (.tmp 0) ⟩, ⟨ some 9, none, .uptr (.tmp 8) ⟩, ⟨ some 10, none, .noesc (.tmp 9) ⟩, ⟨ some 11, none, .ptru 184 2 (.tmp 10) ⟩, ⟨ some 12, none, .nilck (.tmp 7) ⟩, ⟨ some 13, none, .fAddr 0 (.tmp 12) ⟩, ⟨ none, none, .store 1 (.tmp 13) (.tmp 11) ⟩]) (.seq (.ops [⟨ some 14, none, .mv (.tmp 0) ⟩, ⟨ some 15, none, .nilck (.tmp 14) ⟩, ⟨ some 16, none, .fAddr 0 (.tmp 15) ⟩, ⟨ some 17, none, .load none (.tmp 16) ⟩, ⟨ some 18, none, .mv (.tmp 0) ⟩, ⟨ some 19, none, .eqv true .pp (.tmp 17) (.tmp 18) ⟩]) (.cond (.tmp 19) .refuse .skip)))
theorem k133 : compF Try.prog Try.f133 = some (c133, []) := by kernel_rfl
theorem n133 : Try.f133.ntmps = 20 := by kernel_rfl
def c134 : AC := .seq (.ops [⟨ some 4, none, .mv (.const (.int .i64 0)) ⟩]) (.seq (.ops [⟨ some 5, none, .mv (.tmp 0) ⟩, ⟨ some 6, none, .mv (.tmp 1) ⟩, ⟨ some 7, none, .idxB (.tmp 5) (.tmp 6) ⟩, ⟨ some 4, none, .mv (.tmp 7) ⟩]) .ret)
theorem k134 : compF Try.prog Try.f134 = some (c134, [4]) := by kernel_rfl
theorem n134 : Try.f134.ntmps = 8 := by kernel_rfl
def c13 : AC := .seq (.ops [⟨ some 4, none, .mv (.const (.bool false)) ⟩]) (.seq (.seq (.ops [⟨ some 9, none, .call 61 [] ⟩, ⟨ some 10, none, .un .not (.tmp 9) ⟩]) (.cond (.tmp 10) (.seq (.ops [⟨ some 4, none, .mv (.const (.bool false)) ⟩]) .ret) .skip)) (.seq (.seq (.ops [⟨ some 11, none, .mv (.tmp 0) ⟩, ⟨ some 12, none, .call 62 [.tmp 11] ⟩, ⟨ some 13, none, .mv (.tmp 12) ⟩, ⟨ some 14, some (13, false), .mv (.tmp 1) ⟩, ⟨ some 15, some (13, false), .call 62 [.tmp 14] ⟩, ⟨ some 16, none, .pick (.tmp 13) (.const (.bool true)) (.tmp 15) ⟩]) (.cond (.tmp 16) (.seq (.ops [⟨ some 4, none, .mv (.const (.bool true)) ⟩]) .ret) .skip)) (.seq (.ops [⟨ some 17, none, .call 63 [] ⟩, ⟨ some 18, none, .call 63 [] ⟩, ⟨ some 5, none, .mv (.tmp 17) ⟩, ⟨ some 6, none, .mv (.tmp 18) ⟩]) (.seq (.seq (.ops [⟨ some 7, none, .mv (.const (.int .i64 0)) ⟩]) (.block 0 (.loop (.seq (.seq (.ops [⟨ some 19, none, .mv (.tmp 7) ⟩, ⟨ some 20, none, .mv (.tmp 0) ⟩, ⟨ some 21, none, .lenS false (.tmp 20) ⟩, ⟨ some 22, none, .bin .lss (.tmp 19) (.tmp 21) ⟩, ⟨ some 23, none, .mv (.tmp 22) ⟩, ⟨ some 24, some (23, false), .mv (.tmp 7) ⟩, ⟨ some 25, some (23, false), .mv (.tmp 1) ⟩, ⟨ some 26, some (23, false), .lenS false (.tmp 25) ⟩, ⟨ some 27, some (23, false), .bin .lss (.tmp 24) (.tmp 26) ⟩, ⟨ some 28, none, .pick (.tmp 23) (.const (.bool true)) (.tmp 27) ⟩]) (.cond (.tmp 28) .skip (.exit 0))) (.seq (.block 1 (.seq (.seq (.ops [⟨ some 31, none, .mv (.tmp 7) ⟩, ⟨ some 32, none, .mv (.tmp 0) ⟩, ⟨ some 33, none, .lenS false (.tmp 32) ⟩, ⟨ some 34, none, .bin .lss (.tmp 31) (.tmp 33) ⟩]) (.cond (.tmp 34) (.ops [⟨ some 35, none, .mv (.tmp 5) ⟩, ⟨ some 36, none, .mv (.tmp 0) ⟩, ⟨ some 37, none, .mv (.tmp 7) ⟩, ⟨ some 38, none, .iAddrS 1 (.tmp 36) (.tmp 37) ⟩, ⟨ some 39, none, .load none (.tmp 38) ⟩, ⟨ some 40, none, .buildS 1 [.string ⟨ ⟨[] ⟩ ⟩] [(0, 1, .tmp 39)] ⟩, ⟨ some 41, none, .call 64 [.tmp 35, .tmp 40] ⟩]) .skip)) (.seq (.seq (.ops [⟨ some 42, none, .mv (.tmp 7) ⟩, ⟨ some 43, none, .mv (.tmp 1) ⟩, ⟨ some 44, none, .lenS false (.tmp 43) ⟩, ⟨ some 45, none, .bin .lss (.tmp 42) (.tmp 44) ⟩]) (.cond (.tmp 45) (.ops [⟨ some 46, none, .mv (.tmp 6) ⟩, ⟨ some 47, none, .mv (.tmp 1) ⟩, ⟨ some 48, none, .mv (.tmp 7) ⟩, ⟨ some 49, none, .iAddrS 1 (.tmp 47) (.tmp 48) ⟩, ⟨ some 50, none, .load none (.tmp 49) ⟩, ⟨ some 51, none, .buildS 1 [.string ⟨ ⟨[] ⟩ ⟩] [(0, 1, .tmp 50)] ⟩, ⟨ some 52, none, .call 64 [.tmp 46, .tmp 51] ⟩]) .skip)) (.ops [⟨ some 53, none, .mv (.tmp 5) ⟩, ⟨ some 54, none, .call 65 [.tmp 53] ⟩])))) (.ops [⟨ some 29, none, .mv (.tmp 7) ⟩, ⟨ some 30, none, .bin .add (.tmp 29) (.const (.int .i64 1)) ⟩, ⟨ some 7, none, .mv (.tmp 30) ⟩])))))) (.seq (.ops [⟨ some 55, none, .mv (.tmp 0) ⟩, ⟨ some 56, none, .call 66 [.tmp 55] ⟩, ⟨ some 57, none, .mv (.tmp 1) ⟩, ⟨ some 58, none, .call 66 [.tmp 57] ⟩, ⟨ some 59, none, .bin .eql (.tmp 56) (.tmp 58) ⟩, ⟨ some 8, none, .mv (.tmp 59) ⟩]) (.seq (.ops [⟨ some 60, none, .mv (.tmp 5) ⟩, ⟨ some 61, none, .call 65 [.tmp 60] ⟩, ⟨ some 62, none, .mv (.tmp 0) ⟩, ⟨ some 63, none, .call 67 [.tmp 62] ⟩, ⟨ some 64, none, .eqa false (ckl 32) (.tmp 61) (.tmp 63) ⟩, ⟨ some 65, none, .mv (.tmp 64) ⟩, ⟨ some 66, some (65, true), .mv (.tmp 6) ⟩, ⟨ some 67, some (65, true), .call 65 [.tmp 66] ⟩, ⟨ some 68, some (65, true), .mv (.tmp 1) ⟩, ⟨ some 69, some (65, true), .call 67 [.tmp 68] ⟩, ⟨ some 70, some (65, true), .eqa false (ckl 32) (.tmp 67) (.tmp 69) ⟩, ⟨ some 71, none, .pick (.tmp 65) (.tmp 70) (.const (.bool false)) ⟩, ⟨ some 72, none, .mv (.tmp 71) ⟩, ⟨ some 73, some (72, true), .mv (.tmp 8) ⟩, ⟨ some 74, some (72, true), .un .not (.tmp 73) ⟩, ⟨ some 75, some (72, true), .mv (.tmp 74) ⟩, ⟨ some 76, some (75, false), .mv (.tmp 5) ⟩, ⟨ some 77, some (75, false), .call 65 [.tmp 76] ⟩, ⟨ some 78, some (75, false), .mv (.tmp 6) ⟩, ⟨ some 79, some (75, false), .call 65 [.tmp 78] ⟩, ⟨ some 80, some (75, false), .eqa false (ckl 32) (.tmp 77) (.tmp 79) ⟩, ⟨ some 81, some (75, false), .mv (.tmp 80) ⟩, ⟨ some 82, some (81, true), .mv (.tmp 5) ⟩, ⟨ some 83, some (81, true), .call 68 [.tmp 82] ⟩, ⟨ some 84, some (81, true), .mv (.tmp 6) ⟩, ⟨ some 85, some (81, true), .call 68 [.tmp 84] ⟩, ⟨ some 86, some (81, true), .bin .eql (.tmp 83) (.tmp 85) ⟩, ⟨ some 87, some (75, false), .pick (.tmp 81) (.tmp 86) (.const (.bool false)) ⟩, ⟨ some 88, some (72, true), .pick (.tmp 75) (.const (.bool true)) (.tmp 87) ⟩, ⟨ some 89, none, .pick (.tmp 72) (.tmp 88) (.const (.bool false)) ⟩, ⟨ some 4, none, .mv (.tmp 89) ⟩]) .ret))))))
theorem k13 : compF Try.prog Try.f13 = some (c13, [4]) := by kernel_rfl
theorem n13 : Try.f13.ntmps = 90 := by kernel_rfl
def c15 : AC := .seq (.ops [⟨ some 2, none, .mv (.const (.bool false)) ⟩]) (.seq (.seq (.ops [⟨ some 11, none, .call 61 [] ⟩, ⟨ some 12, none, .un .not (.tmp 11) ⟩]) (.cond (.tmp 12) (.seq (.ops [⟨ some 2, none, .mv (.const (.bool false)) ⟩]) .ret) .skip)) (.seq (.seq (.ops [⟨ some 13, none, .mv (.tmp 0) ⟩, ⟨ some 14, none, .call 62 [.tmp 13] ⟩]) (.cond (.tmp 14) (.seq (.ops [⟨ some 2, none, .mv (.const (.bool true)) ⟩]) .ret) .skip)) (.seq (.ops [⟨ some 15, none, .call 70 [] ⟩, ⟨ some 3, none, .alloc [.slice none 0 0, .slice none 0 0] ⟩, ⟨ none, none, .store 2 (.tmp 3) (.tmp 15) ⟩]) (.seq (.ops [⟨ some 16, none, .mv (.tmp 0) ⟩, ⟨ some 17, none, .call 66 [.tmp 16] ⟩, ⟨ some 4, none, .mv (.tmp 17) ⟩]) (.seq (.ops [⟨ some 18, none, .load (some 2) (.tmp 3) ⟩, ⟨ some 19, none, .mv (.tmp 4) ⟩, ⟨ some 20, none, .call 73 [.tmp 18, .tmp 19] ⟩, ⟨ some 5, none, .alloc (zl .u8 32) ⟩, ⟨ none, none, .store 32 (.tmp 5) (.tmp 20) ⟩]) (.seq (.ops [⟨ some 21, none, .call 63 [] ⟩, ⟨ some 6, none, .mv (.tmp 21) ⟩]) (.seq (.ops [⟨ some 7, none, .mv (.const (.int .i64 0)) ⟩]) (.seq (.seq (.ops [⟨ some 22, none, .mv (.tmp 0) ⟩, ⟨ some 23, none, .lenS false (.tmp 22) ⟩, ⟨ some 24, none, .mv (.const (.int .i64 0)) ⟩]) (.block 0 (.loop (.seq (.ops [⟨ some 25, none, .bin .lss (.tmp 24) (.tmp 23) ⟩]) (.seq (.cond (.tmp 25) .skip (.exit 0)) (.seq (.block 1 (.seq (.ops [⟨ some 26, none, .iAddrS 1 (.tmp 22) (.tmp 24) ⟩, ⟨ some 27, none, .load none (.tmp 26) ⟩, ⟨ some 9, none, .mv (.tmp 27) ⟩]) (.seq (.ops [⟨ some 28, none, .mv (.tmp 6) ⟩, ⟨ some 29, none, .mv (.tmp 9) ⟩, ⟨ some 30, none, .buildS 1 [.string ⟨ ⟨[] ⟩ ⟩] [(0, 1, .tmp 29)] ⟩, ⟨ some 31, none, .call 64 [.tmp 28, .tmp 30] ⟩]) (.seq (.ops [⟨ some 32, none, .mv (.tmp 7) ⟩, ⟨ some 33, none, .mv (.tmp 9) ⟩, ⟨ some 34, none, .lenS true (.tmp 33) ⟩, ⟨ some 35, none, .bin .add (.tmp 32) (.tmp 34) ⟩, ⟨ some 7, none, .mv (.tmp 35) ⟩]) (.seq (.ops [⟨ some 36, none, .mv (.tmp 6) ⟩, ⟨ some 37, none, .call 68 [.tmp 36] ⟩, ⟨ some 38, none, .mv (.tmp 7) ⟩, ⟨ some 39, none, .bin .neq (.tmp 37) (.tmp 38) ⟩, ⟨ some 40, none, .mv (.tmp 39) ⟩, ⟨ some 41, some (40, false), .mv (.tmp 6) ⟩, ⟨ some 42, some (40, false), .call 65 [.tmp 41] ⟩, ⟨ some 43, some (40, false), .mv (.tmp 6) ⟩, ⟨ some 44, some (40, false), .call 65 [.tmp 43] ⟩, ⟨ some 45, some (40, false), .eqa true (ckl 32) (.tmp 42) (.tmp 44) ⟩, ⟨ some 46, none, .pick (.tmp 40) (.const (.bool true)) (.tmp 45) ⟩]) (.cond (.tmp 46) (.seq (.ops [⟨ some 2, none, .mv (.const (.bool false)) ⟩]) .ret) .skip)))))) (.ops [⟨ some 47, none, .bin .add (.tmp 24) (.const (.int .i64 1)) ⟩, ⟨ some 24, none, .mv (.tmp 47) ⟩]))))))) (.seq (.draw [([⟨ some 48, none, .mv (.tmp 0) ⟩, ⟨ some 50, none, .load (some 32) (.tmp 5) ⟩], [⟨ some 49, none, .call 67 [.tmp 48] ⟩], [⟨ some 50, none, .load (some 32) (.tmp 5) ⟩]), ([⟨ some 51, none, .eqa false (ckl 32) (.tmp 49) (.tmp 50) ⟩, ⟨ some 52, none, .mv (.tmp 51) ⟩, ⟨ some 53, some (52, true), .mv (.tmp 4) ⟩, ⟨ some 56, some (52, true), .load (some 32) (.tmp 5) ⟩], [⟨ some 54, some (52, true), .buildS 1 [.string ⟨ ⟨[] ⟩ ⟩] [(0, 1, .tmp 53)] ⟩], [⟨ some 56, some (52, true), .load (some 32) (.tmp 5) ⟩]), ([], [⟨ some 55, some (52, true), .call 67 [.tmp 54] ⟩], [⟨ some 56, some (52, true), .load (some 32) (.tmp 5) ⟩]), ([⟨ some 57, some (52, true), .eqa false (ckl 32) (.tmp 55) (.tmp 56) ⟩, ⟨ some 58, none, .pick (.tmp 52) (.tmp 57) (.const (.bool false)) ⟩, ⟨ some 59, none, .mv (.tmp 58) ⟩, ⟨ some 60, some (59, true), .mv (.tmp 6) ⟩, ⟨ some 62, some (59, true), .load (some 32) (.tmp 5) ⟩], [⟨ some 61, some (59, true), .call 65 [.tmp 60] ⟩], [⟨ some 62, some (59, true), .load (some 32) (.tmp 5) ⟩]), ([⟨ some 63, some (59, true), .eqa false (ckl 32) (.tmp 61) (.tmp 62) ⟩, ⟨ some 64, none, .pick (.tmp 59) (.tmp 63) (.const (.bool false)) ⟩, ⟨ some 10, none, .mv (.tmp 64) ⟩], [], [])]) (.seq (.ops [⟨ some 65, none, .mv (.tmp 6) ⟩, ⟨ some 66, none, .call 75 [.tmp 65] ⟩]) (.seq (.draw [([⟨ some 67, none, .mv (.tmp 10) ⟩, ⟨ some 68, none, .mv (.tmp 67) ⟩, ⟨ some 69, some (68, true), .mv (.tmp 6) ⟩], [⟨ some 70, some (68, true), .call 68 [.tmp 69] ⟩], []), ([⟨ some 71, some (68, true), .bin .eql (.tmp 70) (.const (.int .i64 0)) ⟩, ⟨ some 72, none, .pick (.tmp 68) (.tmp 71) (.const (.bool false)) ⟩, ⟨ some 73, none, .mv (.tmp 72) ⟩, ⟨ some 74, some (73, true), .mv (.tmp 6) ⟩, ⟨ some 76, some (73, true), .load (some 2) (.tmp 3) ⟩], [⟨ some 75, some (73, true), .call 65 [.tmp 74] ⟩], [⟨ some 76, some (73, true), .load (some 2) (.tmp 3) ⟩]), ([], [⟨ some 77, some (73, true), .call 73 [.tmp 76, .const (.string ⟨ ⟨[] ⟩ ⟩)] ⟩], []), ([⟨ some 78, some (73, true), .eqa false (ckl 32) (.tmp 75) (.tmp 77) ⟩, ⟨ some 79, none, .pick (.tmp 73) (.tmp 78) (.const (.bool false)) ⟩, ⟨ some 2, none, .mv (.tmp 79) ⟩], [], [])]) .ret)))))))))))
theorem k15 : compF Try.prog Try.f15 = some (c15, [2]) := by kernel_rfl
theorem n15 : Try.f15.ntmps = 80 := by kernel_rfl
def c16 : AC := .seq (.ops [⟨ some 2, none, .mv (.const (.bool false)) ⟩]) (.seq (.seq (.ops [⟨ some 4, none, .call 61 [] ⟩, ⟨ some 5, none, .un .not (.tmp 4) ⟩]) (.cond (.tmp 5) (.seq (.ops [⟨ some 2, none, .mv (.const (.bool false)) ⟩]) .ret) .skip)) (.seq (.seq (.ops [⟨ some 6, none, .mv (.tmp 0) ⟩, ⟨ some 7, none, .lenS true (.tmp 6) ⟩, ⟨ some 8, none, .bin .gtr (.tmp 7) (.const (.int .i64 300)) ⟩]) (.cond (.tmp 8) (.seq (.ops [⟨ some 2, none, .mv (.const (.bool true)) ⟩]) .ret) .skip)) (.seq (.ops [⟨ some 3, none, .mv (.const (.pointer none)) ⟩]) (.seq (.ops [⟨ some 9, none, .mv (.tmp 3) ⟩, ⟨ some 10, none, .mv (.tmp 0) ⟩, ⟨ some 11, none, .buildS 1 [.string ⟨ ⟨[] ⟩ ⟩] [(0, 1, .tmp 10)] ⟩, ⟨ some 12, none, .call 64 [.tmp 9, .tmp 11] ⟩]) (.seq (.ops [⟨ some 13, none, .mv (.tmp 3) ⟩, ⟨ some 14, none, .call 75 [.tmp 13] ⟩]) (.seq (.ops [⟨ some 15, none, .mv (.tmp 3) ⟩, ⟨ some 16, none, .call 68 [.tmp 15] ⟩, ⟨ some 17, none, .bin .eql (.tmp 16) (.const (.int .i64 0)) ⟩, ⟨ some 18, none, .mv (.tmp 17) ⟩, ⟨ some 19, some (18, true), .mv (.tmp 3) ⟩, ⟨ some 20, some (18, true), .call 65 [.tmp 19] ⟩, ⟨ some 21, some (18, true), .call 67 [.const (.slice none 0 0)] ⟩, ⟨ some 22, some (18, true), .eqa false (ckl 32) (.tmp 20) (.tmp 21) ⟩, ⟨ some 23, none, .pick (.tmp 18) (.tmp 22) (.const (.bool false)) ⟩, ⟨ some 2, none, .mv (.tmp 23) ⟩]) .ret))))))
theorem k16 : compF Try.prog Try.f16 = some (c16, [2]) := by kernel_rfl
theorem n16 : Try.f16.ntmps = 24 := by kernel_rfl
def c17 : AC := .seq (.ops [⟨ some 2, none, .box (.tmp 0) ⟩, ⟨ some 4, none, .mv (.const (.bool false)) ⟩]) (.seq (.seq (.ops [⟨ some 10, none, .call 61 [] ⟩, ⟨ some 11, none, .un .not (.tmp 10) ⟩]) (.cond (.tmp 11) (.seq (.ops [⟨ some 4, none, .mv (.const (.bool false)) ⟩]) .ret) .skip)) (.seq (.seq (.ops [⟨ some 12, none, .mv (.tmp 1) ⟩, ⟨ some 13, none, .lenS true (.tmp 12) ⟩, ⟨ some 14, none, .bin .gtr (.tmp 13) (.const (.int .i64 300)) ⟩]) (.cond (.tmp 14) (.seq (.ops [⟨ some 4, none, .mv (.const (.bool true)) ⟩]) .ret) .skip)) (.seq (.ops [⟨ some 15, none, .load (some 32) (.tmp 2) ⟩, ⟨ some 16, none, .call 76 [.tmp 15] ⟩, ⟨ some 5, none, .mv (.tmp 16) ⟩]) (.seq (.ops [⟨ some 18, none, .mv (.tmp 5) ⟩, ⟨ some 19, none, .call 77 [.tmp 18] ⟩, ⟨ some 17, none, .mv (.tmp 19) ⟩, ⟨ some 20, none, .extr (.tmp 17) 0 ⟩, ⟨ some 21, none, .extr (.tmp 17) 1 ⟩, ⟨ some 6, none, .alloc (zl .u8 32) ⟩, ⟨ none, none, .store 32 (.tmp 6) (.tmp 20) ⟩, ⟨ some 7, none, .mv (.tmp 21) ⟩]) (.seq (.ops [⟨ some 23, none, .mv (.tmp 1) ⟩, ⟨ some 24, none, .call 77 [.tmp 23] ⟩, ⟨ some 22, none, .mv (.tmp 24) ⟩, ⟨ some 25, none, .extr (.tmp 22) 0 ⟩, ⟨ some 26, none, .extr (.tmp 22) 1 ⟩, ⟨ some 8, none, .alloc (zl .u8 32) ⟩, ⟨ none, none, .store 32 (.tmp 8) (.tmp 25) ⟩, ⟨ some 9, none, .mv (.tmp 26) ⟩]) (.seq (.seq (.ops [⟨ some 27, none, .mv (.tmp 5) ⟩, ⟨ some 28, none, .load (some 32) (.tmp 2) ⟩, ⟨ some 29, none, .call 78 [.tmp 28] ⟩, ⟨ some 30, none, .bin .neq (.tmp 27) (.tmp 29) ⟩, ⟨ some 31, none, .mv (.tmp 30) ⟩, ⟨ some 32, some (31, false), .load (some 32) (.tmp 6) ⟩, ⟨ some 33, some (31, false), .load (some 32) (.tmp 2) ⟩, ⟨ some 34, some (31, false), .eqa true (ckl 32) (.tmp 32) (.tmp 33) ⟩, ⟨ some 35, none, .pick (.tmp 31) (.const (.bool true)) (.tmp 34) ⟩, ⟨ some 36, none, .mv (.tmp 35) ⟩, ⟨ some 37, some (36, false), .mv (.tmp 7) ⟩, ⟨ some 38, some (36, false), .un .not (.tmp 37) ⟩, ⟨ some 39, none, .pick (.tmp 36) (.const (.bool true)) (.tmp 38) ⟩]) (.cond (.tmp 39) (.seq (.ops [⟨ some 4, none, .mv (.const (.bool false)) ⟩]) .ret) .skip)) (.seq (.seq (.ops [⟨ some 40, none, .mv (.tmp 9) ⟩, ⟨ some 41, none, .un .not (.tmp 40) ⟩]) (.cond (.tmp 41) (.seq (.ops [⟨ some 42, none, .load (some 32) (.tmp 8) ⟩, ⟨ some 43, none, .build (zl .u8 32) [] ⟩, ⟨ some 44, none, .eqa false (ckl 32) (.tmp 42) (.tmp 43) ⟩, ⟨ some 45, none, .mv (.tmp 44) ⟩, ⟨ some 46, some (45, true), .mv (.tmp 1) ⟩, ⟨ some 47, some (45, true), .lenS true (.tmp 46) ⟩, ⟨ some 48, some (45, true), .bin .neq (.tmp 47) (.const (.int .i64 64)) ⟩, ⟨ some 49, some (45, true), .mv (.tmp 48) ⟩, ⟨ some 50, some (49, false), .load (some 32) (.tmp 8) ⟩, ⟨ some 51, some (49, false), .call 78 [.tmp 50] ⟩, ⟨ some 52, some (49, false), .mv (.tmp 1) ⟩, ⟨ some 53, some (49, false), .bin .neq (.tmp 51) (.tmp 52) ⟩, ⟨ some 54, some (45, true), .pick (.tmp 49) (.const (.bool true)) (.tmp 53) ⟩, ⟨ some 55, none, .pick (.tmp 45) (.tmp 54) (.const (.bool false)) ⟩, ⟨ some 4, none, .mv (.tmp 55) ⟩]) .ret) .skip)) (.seq (.ops [⟨ some 56, none, .load (some 32) (.tmp 8) ⟩, ⟨ some 57, none, .call 78 [.tmp 56] ⟩, ⟨ some 58, none, .mv (.tmp 1) ⟩, ⟨ some 59, none, .bin .eql (.tmp 57) (.tmp 58) ⟩, ⟨ some 4, none, .mv (.tmp 59) ⟩]) .ret))))))))
theorem k17 : compF Try.prog Try.f17 = some (c17, [4]) := by kernel_rfl
theorem n17 : Try.f17.ntmps = 60 := by kernel_rfl
def c18 : AC := .seq (.ops [⟨ some 5, none, .box (.tmp 2) ⟩, ⟨ some 6, none, .mv (.const (.bool false)) ⟩]) (.seq (.seq (.ops [⟨ some 10, none, .call 61 [] ⟩, ⟨ some 11, none, .un .not (.tmp 10) ⟩]) (.cond (.tmp 11) (.seq (.ops [⟨ some 6, none, .mv (.const (.bool false)) ⟩]) .ret) .skip)) (.seq (.seq (.ops [⟨ some 12, none, .mv (.tmp 1) ⟩, ⟨ some 13, none, .call 62 [.tmp 12] ⟩, ⟨ some 14, none, .mv (.tmp 13) ⟩, ⟨ some 15, some (14, false), .mv (.tmp 0) ⟩, ⟨ some 16, some (14, false), .lenS true (.tmp 15) ⟩, ⟨ some 17, some (14, false), .bin .gtr (.tmp 16) (.const (.int .i64 300)) ⟩, ⟨ some 18, none, .pick (.tmp 14) (.const (.bool true)) (.tmp 17) ⟩]) (.cond (.tmp 18) (.seq (.ops [⟨ some 6, none, .mv (.const (.bool true)) ⟩]) .ret) .skip)) (.seq (.ops [⟨ some 19, none, .call 70 [] ⟩, ⟨ some 7, none, .alloc [.slice none 0 0, .slice none 0 0] ⟩, ⟨ none, none, .store 2 (.tmp 7) (.tmp 19) ⟩]) (.seq (.ops [⟨ some 20, none, .mv (.tmp 1) ⟩, ⟨ some 21, none, .call 66 [.tmp 20] ⟩, ⟨ some 8, none, .mv (.tmp 21) ⟩]) (.seq (.ops [⟨ some 22, none, .mv (.tmp 0) ⟩, ⟨ some 23, none, .mv (.tmp 1) ⟩, ⟨ some 24, none, .call 79 [.tmp 22, .tmp 23] ⟩, ⟨ some 9, none, .alloc (zl .u8 32) ⟩, ⟨ none, none, .store 32 (.tmp 9) (.tmp 24) ⟩]) (.seq (.draw [([⟨ some 25, none, .load (some 32) (.tmp 9) ⟩, ⟨ some 26, none, .load (some 2) (.tmp 7) ⟩, ⟨ some 27, none, .mv (.tmp 0) ⟩, ⟨ some 28, none, .mv (.tmp 8) ⟩], [⟨ some 29, none, .call 80 [.tmp 26, .tmp 27, .tmp 28] ⟩], [⟨ some 25, none, .load (some 32) (.tmp 9) ⟩]), ([⟨ some 30, none, .eqa false (ckl 32) (.tmp 25) (.tmp 29) ⟩, ⟨ some 31, none, .mv (.tmp 30) ⟩, ⟨ some 32, some (31, true), .load (some 32) (.tmp 9) ⟩, ⟨ some 33, some (31, true), .mv (.tmp 0) ⟩, ⟨ some 34, some (31, true), .mv (.tmp 8) ⟩], [⟨ some 35, some (31, true), .buildS 1 [.string ⟨ ⟨[] ⟩ ⟩] [(0, 1, .tmp 34)] ⟩], [⟨ some 32, some (31, true), .load (some 32) (.tmp 9) ⟩]), ([], [⟨ some 36, some (31, true), .call 79 [.tmp 33, .tmp 35] ⟩], [⟨ some 32, some (31, true), .load (some 32) (.tmp 9) ⟩]), ([⟨ some 37, some (31, true), .eqa false (ckl 32) (.tmp 32) (.tmp 36) ⟩, ⟨ some 38, none, .pick (.tmp 31) (.tmp 37) (.const (.bool false)) ⟩, ⟨ some 39, none, .mv (.tmp 38) ⟩, ⟨ some 40, some (39, true), .iAddrA 2 32 (.tmp 5) (.const (.int .i64 0)) ⟩, ⟨ some 41, some (39, true), .load (some 32) (.tmp 40) ⟩, ⟨ some 42, some (39, true), .iAddrA 2 32 (.tmp 5) (.const (.int .i64 1)) ⟩, ⟨ some 43, some (39, true), .load (some 32) (.tmp 42) ⟩, ⟨ some 45, some (39, true), .iAddrA 2 32 (.tmp 5) (.const (.int .i64 0)) ⟩, ⟨ some 46, some (39, true), .load (some 32) (.tmp 45) ⟩, ⟨ some 47, some (39, true), .iAddrA 2 32 (.tmp 5) (.const (.int .i64 1)) ⟩, ⟨ some 48, some (39, true), .load (some 32) (.tmp 47) ⟩, ⟨ some 49, some (39, true), .eqa false (ckl 32) (.tmp 46) (.tmp 48) ⟩], [⟨ some 44, some (39, true), .call 81 [.tmp 41, .tmp 43] ⟩], [⟨ some 46, some (39, true), .load (some 32) (.tmp 45) ⟩, ⟨ some 48, some (39, true), .load (some 32) (.tmp 47) ⟩]), ([⟨ some 50, some (39, true), .eqv false .bool (.tmp 44) (.tmp 49) ⟩, ⟨ some 51, none, .pick (.tmp 39) (.tmp 50) (.const (.bool false)) ⟩, ⟨ some 52, none, .mv (.tmp 51) ⟩, ⟨ some 53, some (52, true), .load (some 32) (.tmp 9) ⟩, ⟨ some 54, some (52, true), .load (some 32) (.tmp 9) ⟩], [⟨ some 55, some (52, true), .call 81 [.tmp 53, .tmp 54] ⟩], []), ([⟨ some 56, none, .pick (.tmp 52) (.tmp 55) (.const (.bool false)) ⟩, ⟨ some 6, none, .mv (.tmp 56) ⟩], [], [])]) .ret))))))
theorem k18 : compF Try.prog Try.f18 = some (c18, [6]) := by kernel_rfl
theorem n18 : Try.f18.ntmps = 57 := by kernel_rfl
/-! a strings.Builder -/
def BldAt (H : Heap) (x : Nat) (nm : Option Nat) (l : List UInt8) : Prop := ∃ ad bv, H.cellsOf x = some ([ad, bv], .exT 184, 1) ∧ (ad = .pointer none ∨ ad = .pointer (some ⟨x, 0, none⟩)) ∧ RestAt H nm bv l
theorem rest_neT {h : Heap} {nm : Option Nat} {rv : Value} {R : List UInt8} (r : RestAt h nm rv R) {b : Nat} {c : List Value} {t e : Nat} (hb : h.cellsOf b = some (c, .exT t, e)) : ∀ x, nm = some x → x ≠ b := by
  rcases r with ⟨q, _⟩ | ⟨x', o, cap, c', q, _, h3, _⟩
  · intro x e; rw [q] at e; cases e
  · intro x e hx
    rw [q] at e
    cases e
    rw [hx, hb] at h3
    simp at h3
theorem copyCheck_ok (x : Nat) (ad bv : Value) (h : Heap) (hx : h.cellsOf x = some ([ad, bv], .exT 184, 1)) (had : ad = .pointer none ∨ ad = .pointer (some ⟨x, 0, none⟩)) (hbv : VBelow h.n bv) :
    ACalls Try.prog 133 [.pointer (some ⟨x, 0, none⟩)] h fun v h' => v = .tuple #[] ∧ h' = h.set x (.cells [.pointer (some ⟨x, 0, none⟩), bv] (.exT 184) 1) := by
  refine acalls_of mix Try.func133 k133 n133 (by simp) fun hcl hb => ?_
  have hxn := cellsOf_lt hcl hx
  rcases had with rfl | rfl
  · have hp : aput [.pointer none, bv] 0 [.pointer (some ⟨x, 0, none⟩)] = [.pointer (some ⟨x, 0, none⟩), bv] := rfl
    simp [c133, hx, apart, aeq, mcells, hp]
  · have hs := set_same (m_of_cells hx)
    simp [c133, hx, apart, aeq, aun, hs]
theorem bld_start (h : Heap) : BldAt (h.push (.cells [.pointer none, .slice none 0 0] (.exT 184) 1)) h.n none [] := ⟨_, _, cellsOf_new _ _ _ _, .inl rfl, .inl ⟨rfl, rfl, rfl⟩⟩
theorem writeByte_ok (x : Nat) (nm : Option Nat) (l : List UInt8) (c : UInt8) (h : Heap) (hB : BldAt h x nm l) (hn : l.length + 1 ≤ 100000000) :
    ACalls Try.prog 111 [.pointer (some ⟨x, 0, none⟩), .int .u8 (c.toNat : Int)] h fun v h' => v = .nilIface ∧ ∃ nm2, nm2 ≠ none ∧ BldAt h' x nm2 (l ++ [c]) ∧ (∀ y ob, h.m y = some ob → y ≠ x → nm ≠ some y → h'.m y = some ob) ∧ h.n ≤ h'.n ∧ (nm2 = nm ∨ ∃ z, nm2 = some z ∧ h.n ≤ z) := by
  obtain ⟨ad, bv, hx, had, hr⟩ := hB
  refine acalls_of mix Try.func111 k111 n111 (by simp) fun hcl hb => ?_
  have hxn := cellsOf_lt hcl hx
  have hbv := hr.below hcl
  simp [c111]
  refine (copyCheck_ok x ad bv h hx had hbv).mono ?_
  rintro _ h9 ⟨rfl, e⟩
  rw [e]
  clear e h9
  have c1 : (h.set x (.cells [.pointer (some ⟨x, 0, none⟩), bv] (.exT 184) 1)).Closed := closed_set hcl hxn (fun z hz => by
    simp at hz
    rcases hz with rfl | rfl
    · exact .ptr hxn
    · exact hbv)
  have x1 : (h.set x (.cells [.pointer (some ⟨x, 0, none⟩), bv] (.exT 184) 1)).cellsOf x = some ([.pointer (some ⟨x, 0, none⟩), bv], .exT 184, 1) := cellsOf_set _ _ _ _ _
  have r1 : RestAt (h.set x (.cells [.pointer (some ⟨x, 0, none⟩), bv] (.exT 184) 1)) nm bv l := hr.keep fun y e => by rw [set_m, if_neg (rest_neT hr hx y e)]
  have k1 : ∀ y ob, h.m y = some ob → y ≠ x → (h.set x (.cells [.pointer (some ⟨x, 0, none⟩), bv] (.exT 184) 1)).m y = some ob := fun y ob e hne => by rw [set_m, if_neg hne]; exact e
  have n1 : (h.set x (.cells [.pointer (some ⟨x, 0, none⟩), bv] (.exT 184) 1)).n = h.n := rfl
  generalize h.set x (.cells [.pointer (some ⟨x, 0, none⟩), bv] (.exT 184) 1) = H1 at *
  have fil : afill [.int .u8 0] [(0, 1, .int .u8 (c.toNat : Int))] = some (ubs [c]) := rfl
  have c2 : (H1.push (.cells (ubs [c]) .ex 1)).Closed := closed_push c1 ubs_bel
  have r2 : RestAt (H1.push (.cells (ubs [c]) .ex 1)) nm bv l := r1.keep fun y e => by
    rcases r1 with ⟨q, _⟩ | ⟨y', o, cap, c', q, _, h3, _⟩
    · rw [q] at e; cases e
    · rw [q] at e; cases e
      rw [push_m, if_neg (by have := cellsOf_lt c1 h3; omega)]
  have x2 : (H1.push (.cells (ubs [c]) .ex 1)).cellsOf x = some ([.pointer (some ⟨x, 0, none⟩), bv], .exT 184, 1) := cellsOf_push c1 x1
  have hfst : afirst (H1.push (.cells (ubs [c]) .ex 1)) 1 1 (.slice (some ⟨H1.n, 0, none⟩) 1 1) = some (ubs [c]) := by simp [afirst, cellsOf_new, acut, ubs]
  obtain ⟨a, cp, rfl, rv2, H2, nm2, happ, r3, k3, n3, c3, hnm2⟩ := rest_app c2 r2 [c] (by simp; omega)
  have happ' : aapp (H1.push (.cells (ubs [c]) .ex 1)) 5 1 1 a l.length cp (ubs [c]) 1 = some (rv2, H2) := happ
  have x3 : H2.cellsOf x = some ([.pointer (some ⟨x, 0, none⟩), .slice a l.length cp], .exT 184, 1) := by
    have := k3 x _ (m_of_cells x2) (fun e => rest_neT hr hx x e rfl)
    unfold Heap.cellsOf
    rw [this]
  have hne2 := rest_neT r3 x3
  obtain ⟨a3, cp3, hf3⟩ := r3.form
  have hp : aput [.pointer (some ⟨x, 0, none⟩), .slice a l.length cp] 1 [rv2] = [.pointer (some ⟨x, 0, none⟩), rv2] := rfl
  have hm : mcells rv2 = some [rv2] := by rw [hf3]; rfl
  simp [x1, apart, fil, alen, hfst, happ', x3, hm, hp]
  refine ⟨nm2, ?_, ⟨_, _, cellsOf_set _ _ _ _ _, .inr rfl, r3.keep fun y e => by rw [set_m, if_neg (hne2 y e)]⟩, fun y ob e hne hnm => ?_, by show h.n ≤ H2.n; have : H1.n + 1 ≤ H2.n := n3; omega, ?_⟩
  · intro q
    rcases r3 with ⟨_, _, q2⟩ | ⟨_, _, _, _, q2, _⟩
    · simp at q2
    · rw [q] at q2; cases q2
  · rw [set_m, if_neg hne]
    exact k3 y ob (by rw [push_m, if_neg (by have := (hcl y ob e).1; omega)]; exact k1 y ob e hne) hnm
  · rcases hnm2 with q | q
    · exact .inl q
    · exact .inr ⟨_, q, by show h.n ≤ H1.n + 1; omega⟩
theorem bstring_ok (x : Nat) (nm : Option Nat) (l : List UInt8) (h : Heap) (hB : BldAt h x nm l) (hl : l = [] → nm = none) (hn : l.length ≤ 100000000) :
    ACalls Try.prog 112 [.pointer (some ⟨x, 0, none⟩)] h fun v h' => v = .string (bs l) ∧ h'.n = h.n ∧ (∀ y ob, h.m y = some ob → nm ≠ some y → h'.m y = some ob) := by
  obtain ⟨ad, bv, hx, had, hr⟩ := hB
  refine acalls_of mix Try.func112 k112 n112 (by simp) fun hcl hb => ?_
  have hmk : (⟨l.toArray⟩ : ByteArray) = bs l := rfl
  rcases hr with ⟨rfl, rfl, rfl⟩ | ⟨y, o, cap, c, rfl, rfl, hy, hcap, hle, hcut⟩
  · simp [c112, hx, apart]
    rfl
  · have hl0 : l.length ≠ 0 := fun q => by have := hl (List.eq_nil_of_length_eq_zero q); cases this
    obtain ⟨cap', rfl⟩ : ∃ k, cap = k + 1 := ⟨cap - 1, by omega⟩
    have hl0' : ¬ (l.length : Int) = 0 := by omega
    have hlp : 0 < l.length := by omega
    have hl63 : (l.length : Int) ≤ 9223372036854775807 := by omega
    have hne : ¬ l = [] := fun q => hl0 (by rw [q]; rfl)
    simp [c112, hx, apart, hl0, hl0', hlp, hl63, hne, hy, hcut, abytes_ubs, hmk]
    intro z ob e hz
    rw [kill_m, if_neg (fun q => hz q.symm)]
    exact e
/-! hex -/
def digs : List UInt8 := [48, 49, 50, 51, 52, 53, 54, 55, 56, 57, 97, 98, 99, 100, 101, 102]
def dg (k : Nat) : UInt8 := digs.getD k 0
def hexB (D : List UInt8) : List UInt8 := D.flatMap fun b => [dg (b.toNat / 16), dg (b.toNat % 16)]
theorem hexB_app (a b : List UInt8) : hexB (a ++ b) = hexB a ++ hexB b := List.flatMap_append
theorem hexB_len (D : List UInt8) : (hexB D).length = 2 * D.length := by
  induction D with
  | nil => rfl
  | cons x r ih =>
    have : hexB (x :: r) = [dg (x.toNat / 16), dg (x.toNat % 16)] ++ hexB r := rfl
    rw [this, List.length_append, ih]
    simp; omega
theorem digs_get (k : Nat) (h : k < 16) : digs[k]? = some (dg k) := by
  unfold dg
  rw [List.getD, List.getElem?_eq_getElem (by show k < 16; exact h)]
  rfl
theorem and15 (n : Nat) (h : n < 256) : abits .and .u8 (n : Int) 15 = ((n % 16 : Nat) : Int) := by
  unfold abits
  have e1 : BitVec.ofInt 8 (n : Int) = BitVec.ofNat 8 n := by apply BitVec.eq_of_toNat_eq; simp
  have e2 : BitVec.ofInt 8 (15 : Int) = BitVec.ofNat 8 15 := rfl
  show IntKind.u8.wrap (((BitVec.ofInt 8 (n : Int)) &&& (BitVec.ofInt 8 15)).toNat : Int) = _
  rw [e1, e2, BitVec.toNat_and, BitVec.toNat_ofNat, BitVec.toNat_ofNat]
  have h1 : (n % 2 ^ 8) &&& (15 % 2 ^ 8) = n % 16 := by
    rw [Nat.mod_eq_of_lt h]
    exact Nat.and_two_pow_sub_one_eq_mod n 4
  rw [h1]
  unfold IntKind.wrap; simp [IntKind.bits, IntKind.signed]; omega
structure HS where
  i : Nat
  nm : Option Nat
  H : Heap
theorem hex_ok (D : List UInt8) (hD : D.length = 32) (h : Heap) : ACalls Try.prog 76 [.agg (ubs D).toArray] h fun v h' => v = .string (bs (hexB D)) ∧ h' = h := by
  refine ACalls.same .string (acalls_of mix Try.func76 k76 n76 (by simp) fun hcl hb => ?_)
  have hul : (ubs D).length = 32 := by rw [ubs_len, hD]
  have hcut := acut_full hul
  have hc1 : (h.push (.cells (ubs D) .ex 1)).Closed := closed_push hcl ubs_bel
  have hB0 := bld_start (h.push (.cells (ubs D) .ex 1))
  have hbel : ∀ n, ∀ z ∈ ([.pointer none, .slice none 0 0] : List Value), VBelow n z := fun n z hz => by
    simp at hz
    rcases hz with rfl | rfl
    · exact .pnil
    · exact .snil
  have hc2 : ((h.push (.cells (ubs D) .ex 1)).push (.cells [.pointer none, .slice none 0 0] (.exT 184) 1)).Closed := closed_push hc1 (hbel _)
  have e2 := ((Heap.Ext.refl h).push hcl (.cells (ubs D) .ex 1)).push hcl (.cells [.pointer none, .slice none 0 0] (.exT 184) 1)
  have hn2 : ((h.push (.cells (ubs D) .ex 1)).push (.cells [.pointer none, .slice none 0 0] (.exT 184) 1)).n = h.n + 2 := rfl
  have f0 : ((h.push (.cells (ubs D) .ex 1)).push (.cells [.pointer none, .slice none 0 0] (.exT 184) 1)).cellsOf h.n = some (ubs D, .ex, 1) := by rw [cellsOf_ne (by show ¬ h.n = h.n + 1; omega)]; exact cellsOf_new _ _ _ _
  simp only [c76, s_seq, s_ops]
  simp [m_ubs, f0, apart, hcut]
  generalize (h.push (.cells (ubs D) .ex 1)).push (.cells [.pointer none, .slice none 0 0] (.exT 184) 1) = H0 at *
  have hbD : VBelow H0.n (.agg (ubs D).toArray) := ubs_below
  refine awp_loop_of (α := HS) (fun z => z.i ≤ 32 ∧ BldAt z.H (h.n + 1) z.nm (hexB (D.take z.i)) ∧ z.H.Closed ∧ H0.n ≤ z.H.n ∧ (∀ y ob, h.m y = some ob → z.H.m y = some ob) ∧ (∀ y, z.nm = some y → h.n + 2 ≤ y) ∧ (z.i = 0 → z.nm = none))
    (fun z => [(3, .pointer (some ⟨h.n + 1, 0, none⟩)), (6, .agg (ubs D).toArray), (7, .int .i64 z.i)]) (fun z => z.H) (fun z => 32 - z.i) ⟨0, none, H0⟩
    ⟨Nat.zero_le _, hB0, hc2, Nat.le_refl _, e2.m, fun y e => (by cases e), fun _ => rfl⟩ ⟨by show h.n ≤ H0.n; omega, Nat.le_refl _, fun _ _ e => e, hc2⟩ (by simp; exact ⟨.ptr (by show h.n + 1 < H0.n; omega), hbD, .int⟩) ?_
  rintro ⟨i, nm, H⟩ ⟨hi, hB, hcH, hnH, hk, hnm, hz⟩
  dsimp only at hi hB hcH hnH hk hnm hz ⊢
  by_cases hi32 : i < 32
  · have hi' : (i : Int) < 32 := by omega
    have hg : (ubs D)[i]? = some (.int .u8 ((D.getD i 0).toNat : Int)) := by
      unfold ubs
      simp only [List.getElem?_map, List.getElem?_eq_getElem (show i < D.length by omega), List.getD]
      rfl
    have htk : D.take (i + 1) = D.take i ++ [D.getD i 0] := by
      rw [List.take_succ_eq_append_getElem (by omega), List.getD, List.getElem?_eq_getElem (by omega)]; rfl
    have hx1 : hexB (D.take (i + 1)) = hexB (D.take i) ++ [dg ((D.getD i 0).toNat / 16)] ++ [dg ((D.getD i 0).toNat % 16)] := by
      rw [htk, hexB_app]
      simp [hexB]
    have hlen : (hexB (D.take i)).length ≤ 64 := by rw [hexB_len, List.length_take]; omega
    have hc := (D.getD i 0).toNat_lt
    generalize (D.getD i 0).toNat = c at *
    have q1 : (c : Int).fdiv 16 = ((c / 16 : Nat) : Int) := by rw [Int.fdiv_eq_ediv_of_nonneg _ (by decide)]; omega
    have q2 := and15 c hc
    have i1 : aidx (.int .u8 ((c / 16 : Nat) : Int)) 16 = some (c / 16) := aidx_of (by omega)
    have i2 : aidx (.int .u8 ((c % 16 : Nat) : Int)) 16 = some (c % 16) := aidx_of (by omega)
    have d1 := digs_get (c / 16) (by omega)
    have d2 := digs_get (c % 16) (by omega)
    have b8 : IntKind.u8.bits = 8 := rfl
    have hds : (bs digs).size = 16 := rfl
    have hdd : (bs digs).data.toList = digs := rfl
    have hcd : (⟨⟨[48, 49, 50, 51, 52, 53, 54, 55, 56, 57, 97, 98, 99, 100, 101, 102]⟩⟩ : ByteArray) = bs digs := rfl
    generalize c / 16 = u at *
    generalize c % 16 = w at *
    simp [c76_0, hi', aidx_of hi32, apart, hg, b8, q1, hcd, hds, hdd, i1, d1]
    refine (writeByte_ok (h.n + 1) nm _ (dg u) H hB (by omega)).mono' ?_
    rintro _ H1 hcH1 _ ⟨rfl, nm1, hne1, hB1, hk1, hn1, hnm1⟩
    have e1 : IntKind.i64.wrap ((i : Int) + 1) = ((i + 1 : Nat) : Int) := by rw [IntWalk.i64_in _ (by omega)]; omega
    simp [q2, hcd, hds, hdd, i2, d2]
    refine (writeByte_ok (h.n + 1) nm1 _ (dg w) H1 hB1 (by simp; omega)).mono' ?_
    rintro _ H2 hcH2 _ ⟨rfl, nm2, hne2, hB2, hk2, hn2', hnm2⟩
    simp [e1, -Int.natCast_add]
    have f1 : ∀ y, nm1 = some y → h.n + 2 ≤ y := fun y e => by
      rcases hnm1 with q | ⟨z, q, hz'⟩
      · exact hnm y (q ▸ e)
      · rw [q] at e; cases e; omega
    have f2 : ∀ y, nm2 = some y → h.n + 2 ≤ y := fun y e => by
      rcases hnm2 with q | ⟨z, q, hz'⟩
      · exact f1 y (q ▸ e)
      · rw [q] at e; cases e; omega
    refine ⟨⟨i + 1, nm2, H2⟩, by show 32 - (i + 1) < 32 - i; omega, ⟨by show i + 1 ≤ 32; omega, ?_, hcH2, by show H0.n ≤ H2.n; omega, fun y ob e => ?_, f2, fun q => by cases q⟩, ⟨by show h.n ≤ H2.n; omega, Nat.le_refl _, fun _ _ e => e, hcH2⟩, .ptr (by show h.n + 1 < H2.n; omega), ubs_below, rfl, .int⟩
    · show BldAt H2 (h.n + 1) nm2 (hexB (D.take (i + 1)))
      rw [hx1]; exact hB2
    · have hy := (hcl y ob e).1
      exact hk2 y ob (hk1 y ob (hk y ob e) (by omega) (fun q => by have := hnm y q; omega)) (by omega) (fun q => by have := f1 y q; omega)
  · have hie : i = 32 := by omega
    subst hie
    have htk : D.take 32 = D := List.take_of_length_le (by omega)
    rw [htk] at hB
    have hne : hexB D ≠ [] := fun q => by have := hexB_len D; rw [q, hD] at this; cases this
    simp [c76_0]
    refine (bstring_ok (h.n + 1) nm (hexB D) H hB (fun q => absurd q hne) (by rw [hexB_len]; omega)).mono ?_
    rintro _ H2 ⟨rfl, hn3, hk3⟩
    simp
    exact ⟨by omega, fun y ob e => hk3 y ob (hk y ob e) (fun q => by have := hnm y q; have := (hcl y ob e).1; omega)⟩
theorem dig_cut (k : Nat) (h : k < 16) : (digs.take (k + 1)).drop k = [dg k] := by
  have : ∀ j : Fin 16, (digs.take (j.val + 1)).drop j.val = [dg j.val] := by decide
  exact this ⟨k, h⟩
theorem abounds_lohi {L l k : Nat} {x y : IntKind} (h1 : l ≤ k) (h2 : k ≤ L) : abounds L L (some (.int x (l : Int))) (some (.int y (k : Int))) none = some (l, k, L) := by
  unfold abounds
  have e1 : abound (.int y (k : Int)) L = some k := by unfold abound; simp only; rw [if_pos ⟨by omega, by omega⟩]; rfl
  have e2 : abound (.int x (l : Int)) k = some l := by unfold abound; simp only; rw [if_pos ⟨by omega, by omega⟩]; rfl
  simp [e1, e2]
theorem refHex_ok (D : List UInt8) (hD : D.length = 32) (h : Heap) : ACalls Try.prog 78 [.agg (ubs D).toArray] h fun v h' => v = .string (bs (hexB D)) ∧ h' = h := by
  refine ACalls.same .string (acalls_of mix Try.func78 k78 n78 (by simp) fun hcl hb => ?_)
  have hul : (ubs D).length = 32 := by rw [ubs_len, hD]
  have hc1 : (h.push (.cells (ubs D) .ex 1)).Closed := closed_push hcl ubs_bel
  have hcd : (⟨⟨[48, 49, 50, 51, 52, 53, 54, 55, 56, 57, 97, 98, 99, 100, 101, 102]⟩⟩ : ByteArray) = bs digs := rfl
  simp only [c78, s_seq, s_ops]
  simp [m_ubs, bs_lit]
  have f0 := cellsOf_new h (ubs D) .ex 1
  have e0 := (Heap.Ext.refl h).push hcl (.cells (ubs D) .ex 1)
  have hn0 : (h.push (.cells (ubs D) .ex 1)).n = h.n + 1 := rfl
  generalize h.push (.cells (ubs D) .ex 1) = H at *
  refine awp_loop_of (α := Nat) (fun i => i ≤ 32)
    (fun i => [(1, .pointer (some ⟨h.n, 0, none⟩)), (3, .string (bs digs)), (4, .string (bs (hexB (D.take i)))), (5, .int .i64 i)]) (fun _ => H) (fun i => 32 - i) 0
    (Nat.zero_le _) ⟨by omega, Nat.le_refl _, fun _ _ e => e, hc1⟩ (by simp; exact ⟨.ptr (by show h.n < H.n; omega), ⟨rfl, .string⟩, ⟨rfl, .string⟩, .int⟩) ?_
  intro i hi
  by_cases hi32 : i < 32
  · have hi' : (i : Int) < 32 := by omega
    have hg : (ubs D)[i]? = some (.int .u8 ((D.getD i 0).toNat : Int)) := by
      unfold ubs
      simp only [List.getElem?_map, List.getElem?_eq_getElem (show i < D.length by omega), List.getD]
      rfl
    have htk : D.take (i + 1) = D.take i ++ [D.getD i 0] := by
      rw [List.take_succ_eq_append_getElem (by omega), List.getD, List.getElem?_eq_getElem (by omega)]; rfl
    have hx1 : hexB (D.take (i + 1)) = hexB (D.take i) ++ [dg ((D.getD i 0).toNat / 16)] ++ [dg ((D.getD i 0).toNat % 16)] := by
      rw [htk, hexB_app]
      simp [hexB]
    have hlen : (hexB (D.take i)).length ≤ 64 := by rw [hexB_len, List.length_take]; omega
    have hc := (D.getD i 0).toNat_lt
    generalize (D.getD i 0).toNat = c at *
    have q1 : (c : Int).tdiv 16 = ((c / 16 : Nat) : Int) := tdivN c 16
    have q2 : (c : Int).tmod 16 = ((c % 16 : Nat) : Int) := tmodN c 16
    have w8 : ∀ n : Nat, n < 256 → IntKind.u8.wrap (n : Int) = (n : Int) := fun n hn => by unfold IntKind.wrap; simp [IntKind.bits, IntKind.signed]; omega
    have d1 := dig_cut (c / 16) (by omega)
    have d2 := dig_cut (c % 16) (by omega)
    have hu : c / 16 < 16 := by omega
    have hw : c % 16 < 16 := by omega
    generalize c / 16 = u at *
    generalize c % 16 = w at *
    have w1 := w8 u (by omega)
    have w2 : IntKind.u8.wrap ((u : Int) + 1) = ((u + 1 : Nat) : Int) := w8 (u + 1) (by omega)
    have w4 : IntKind.u8.wrap ((w : Int) + 1) = ((w + 1 : Nat) : Int) := w8 (w + 1) (by omega)
    have hds : (bs digs).size = 16 := rfl
    have b1 : abounds 16 16 (some (.int .u8 (u : Int))) (some (.int .u8 ((u + 1 : Nat) : Int))) none = some (u, u + 1, 16) := abounds_lohi (by omega) (by omega)
    have b2 : abounds 16 16 (some (.int .u8 (w : Int))) (some (.int .u8 ((w + 1 : Nat) : Int))) none = some (w, w + 1, 16) := abounds_lohi (by omega) (by omega)
    have s1 : (bs (hexB (D.take i))).size + (bs [dg u]).size ≤ 9223372036854775807 := by rw [bs_size, bs_size]; simp; omega
    have s2 : (bs (hexB (D.take i) ++ [dg u])).size + (bs [dg w]).size ≤ 9223372036854775807 := by rw [bs_size, bs_size]; simp; omega
    have e1 : IntKind.i64.wrap ((i : Int) + 1) = ((i + 1 : Nat) : Int) := by rw [IntWalk.i64_in _ (by omega)]; omega
    simp [c78_0, hi', aidx_of hi32, f0, apart, hg, q1, q2, w1, w2, w4, hds, b1, b2, bs_extract, d1, d2, s1, bs_append, s2, e1, -Int.natCast_add]
    exact ⟨i + 1, by omega, by omega, ⟨by omega, Nat.le_refl _, fun _ _ e => e, hc1⟩, .ptr (by show h.n < H.n; omega), .string, ⟨by rw [hx1]; simp, .string⟩, rfl, .int⟩
  · have hie : i = 32 := by omega
    subst hie
    have htk : D.take 32 = D := List.take_of_length_le (by omega)
    simp [c78_0, htk]
    exact e0
/-! words read -/
def pv (c : UInt8) : Int := firstIdx (bs digs) c
theorem pv_all : ∀ n : Fin 256, (0 ≤ pv (UInt8.ofNat n.val) → pv (UInt8.ofNat n.val) < 16 ∧ dg (pv (UInt8.ofNat n.val)).toNat = UInt8.ofNat n.val) := by decide +kernel
theorem pv_ok (c : UInt8) (h : 0 ≤ pv c) : pv c < 16 ∧ dg (pv c).toNat = c := by
  have := pv_all ⟨c.toNat, c.toNat_lt⟩
  have e : UInt8.ofNat c.toNat = c := by simp
  simp only [e] at this
  exact this h
theorem pv_dg : ∀ k : Fin 16, pv (dg k.val) = (k.val : Int) := by decide +kernel
theorem nib_or : ∀ a b : Fin 16, abits .or .i64 ((a.val : Int) * 16) (b.val : Int) = ((16 * a.val + b.val : Nat) : Int) := by decide +kernel
def pB (s : List UInt8) : Nat → List UInt8
  | 0 => []
  | i + 1 => pB s i ++ [UInt8.ofNat (16 * (pv (s.getD (2 * i) 0)).toNat + (pv (s.getD (2 * i + 1) 0)).toNat)]
theorem pB_len (s : List UInt8) : ∀ i, (pB s i).length = i
  | 0 => rfl
  | i + 1 => by rw [pB, List.length_append, pB_len s i]; rfl
def hexOk (s : List UInt8) : Prop := s.length = 64 ∧ ∀ i, i < 64 → 0 ≤ pv (s.getD i 0)
open Classical in
noncomputable def parseV (s : List UInt8) : List UInt8 × Bool := if hexOk s then (pB s 32, true) else (z32, false)
theorem parseV_len (s : List UInt8) : (parseV s).1.length = 32 := by
  unfold parseV
  split
  · exact pB_len s 32
  · exact z32_len
theorem indexByte_ok (c : UInt8) (h : Heap) : ACalls Try.prog 113 [.string (bs digs), .int .u8 (c.toNat : Int)] h fun v h' => v = .int .i64 (pv c) ∧ h' = h := by
  refine ACalls.same .int (acalls_of mix Try.func113 k113 n113 (by simp) fun hcl hb => ?_)
  simp [c113]
  refine ACalls.mono (R := fun v h' => v = .int .i64 (pv c) ∧ h.Ext h') ?_ ?_
  · refine acalls_of mix Try.func134 k134 n134 (by simp) fun hcl hb => ?_
    have e : ((c.toNat : Int)).toNat.toUInt8 = c := by simp
    simp [c134, pv, e]
    exact Heap.Ext.refl h
  · rintro _ h1 ⟨rfl, e⟩
    simp
    exact e
theorem parse_ok (s : List UInt8) (h : Heap) : ACalls Try.prog 77 [.string (bs s)] h fun v h' => v = .tuple #[.agg (ubs (parseV s).1).toArray, .bool (parseV s).2] ∧ h' = h := by
  refine ACalls.same (vb_tuple2 ubs_below .bool) (acalls_ofR mix Try.func77 k77 n77 (by simp) fun hcl hb => ?_)
  have hz32 := zl_len .u8 32
  have hbz0 : zl .u8 32 = bz [] 32 := by simp [bz, ubs]
  have fb : afill (zl .u8 32) [] = some (zl .u8 32) := rfl
  have hmz : mcells (.agg (zl .u8 32).toArray) = some (zl .u8 32) := by simp [mcells]
  have hput0 : aput (zl .u8 32) 0 (zl .u8 32) = zl .u8 32 := aput_all _ _ rfl
  have hcz := acut_full (l := zl .u8 32) (n := 32) rfl
  have hsz := bs_size s
  have hcd : (⟨⟨[48, 49, 50, 51, 52, 53, 54, 55, 56, 57, 97, 98, 99, 100, 101, 102]⟩⟩ : ByteArray) = bs digs := rfl
  have hzu : zl .u8 32 = ubs z32 := by simp [ubs, z32, zl, eb]
  have zbel : ∀ n, ∀ x ∈ zl .u8 32, VBelow n x := fun n x hx => by rw [List.eq_of_mem_replicate hx]; exact .int
  have c1 : (h.push (.cells (zl .u8 32) .ex 1)).Closed := closed_push hcl (zbel _)
  have c2 : ((h.push (.cells (zl .u8 32) .ex 1)).push (.cells (zl .u8 32) .ex 1)).Closed := closed_push c1 (zbel _)
  have e2 := ((Heap.Ext.refl h).push hcl (.cells (zl .u8 32) .ex 1)).push hcl (.cells (zl .u8 32) .ex 1)
  have f2 : ((h.push (.cells (zl .u8 32) .ex 1)).push (.cells (zl .u8 32) .ex 1)).cellsOf h.n = some (zl .u8 32, .ex, 1) := by rw [cellsOf_ne (by show ¬ h.n = h.n + 1; omega)]; exact cellsOf_new _ _ _ _
  have f4 : ((h.push (.cells (zl .u8 32) .ex 1)).push (.cells (zl .u8 32) .ex 1)).cellsOf (h.n + 1) = some (zl .u8 32, .ex, 1) := cellsOf_new _ _ _ _
  have hn2 : ((h.push (.cells (zl .u8 32) .ex 1)).push (.cells (zl .u8 32) .ex 1)).n = h.n + 2 := rfl
  simp only [c77, s_seq, s_ops]
  simp [hsz]
  generalize (h.push (.cells (zl .u8 32) .ex 1)).push (.cells (zl .u8 32) .ex 1) = H at *
  have bad : ¬ hexOk s → parseV s = (z32, false) := fun q => if_neg q
  by_cases hl : s.length = 64
  case neg =>
    have hl' : ¬ (s.length : Int) = 64 := by omega
    have hb := bad fun q => hl q.1
    have hs0 := set_same (m_of_cells f2)
    simp [hl, hl', fb, hmz, f2, hz32, hput0, cellsOf_set, apart, hcz, hb, hs0]
    exact ⟨hzu, e2⟩
  case pos =>
  simp [hl]
  have hclO : ∀ i, (H.set (h.n + 1) (.cells (bz (pB s i) 32) .ex 1)).Closed := fun i => closed_set c2 (by omega) fun x hx => by
    rcases List.mem_append.1 hx with hx | hx
    · exact ubs_bel x hx
    · rw [List.eq_of_mem_replicate hx]; exact .int
  refine awp_loop_of (α := Nat) (fun i => i ≤ 32 ∧ ∀ k, k < 2 * i → 0 ≤ pv (s.getD k 0))
    (fun i => [(0, .string (bs s)), (2, .pointer (some ⟨h.n, 0, none⟩)), (4, .pointer (some ⟨h.n + 1, 0, none⟩)), (12, .int .i64 i)]) (fun i => H.set (h.n + 1) (.cells (bz (pB s i) 32) .ex 1)) (fun i => 32 - i) 0
    ⟨Nat.zero_le _, fun k hk => absurd hk (by omega)⟩ (by
      have : H.set (h.n + 1) (.cells (bz (pB s 0) 32) .ex 1) = H := set_same (by rw [show bz (pB s 0) 32 = zl .u8 32 from hbz0.symm]; exact m_of_cells f4)
      rw [this]; exact ⟨by omega, Nat.le_refl _, fun _ _ e => e, c2⟩) (by simp; exact ⟨.string, .ptr (by show h.n < H.n; omega), .ptr (by show h.n + 1 < H.n; omega), .int⟩) ?_
  rintro i ⟨hi, hv⟩
  have hpl := pB_len s i
  have hbl : (bz (pB s i) 32).length = 32 := bz_len (by omega)
  have g4 : ∀ c, (H.set (h.n + 1) (.cells c .ex 1)).cellsOf (h.n + 1) = some (c, .ex, 1) := fun c => cellsOf_set _ _ _ _ _
  have g2 : ∀ c, (H.set (h.n + 1) (.cells c .ex 1)).cellsOf h.n = some (zl .u8 32, .ex, 1) := fun c => by rw [cellsOf_set_ne (by omega)]; exact f2
  by_cases hi32 : i < 32
  · have hi' : (i : Int) < 32 := by omega
    have hget : ∀ k, k < 64 → (bs s).data.toList[k]? = some (s.getD k 0) := fun k hk => by
      rw [bs_data, List.getD, List.getElem?_eq_getElem (by omega)]; rfl
    have w1 : IntKind.i64.wrap (2 * (i : Int)) = ((2 * i : Nat) : Int) := by rw [IntWalk.i64_in _ (by omega)]; omega
    have w2 : IntKind.i64.wrap (((2 * i : Nat) : Int) + 1) = ((2 * i + 1 : Nat) : Int) := by rw [IntWalk.i64_in _ (by omega)]; omega
    have a1 : aidx (.int .i64 ((2 * i : Nat) : Int)) 64 = some (2 * i) := aidx_of (by omega)
    have a2 : aidx (.int .i64 ((2 * i + 1 : Nat) : Int)) 64 = some (2 * i + 1) := aidx_of (by omega)
    have x1 := hget (2 * i) (by omega)
    have x2 := hget (2 * i + 1) (by omega)
    have hps : pB s (i + 1) = pB s i ++ [UInt8.ofNat (16 * (pv (s.getD (2 * i) 0)).toNat + (pv (s.getD (2 * i + 1) 0)).toNat)] := rfl
    have hstep : ∀ k, k < 2 * (i + 1) → 0 ≤ pv (s.getD (2 * i) 0) → 0 ≤ pv (s.getD (2 * i + 1) 0) → 0 ≤ pv (s.getD k 0) := fun k hk h1 h2 => by
      by_cases q : k < 2 * i
      · exact hv k q
      · by_cases q2 : k = 2 * i
        · rw [q2]; exact h1
        · rw [show k = 2 * i + 1 by omega]; exact h2
    have hno1 : pv (s.getD (2 * i) 0) < 0 → ¬ hexOk s := fun q1 q => by have := q.2 (2 * i) (by omega); omega
    have hno2 : pv (s.getD (2 * i + 1) 0) < 0 → ¬ hexOk s := fun q1 q => by have := q.2 (2 * i + 1) (by omega); omega
    have hs1 := set_same (m_of_cells (g2 (bz (pB s i) 32)))
    have y1 := pv_ok (s.getD (2 * i) 0)
    have y2 := pv_ok (s.getD (2 * i + 1) 0)
    have ib := fun c H => indexByte_ok c H
    have m1 := ib (s.getD (2 * i) 0) (H.set (h.n + 1) (.cells (bz (pB s i) 32) .ex 1))
    have m2 := ib (s.getD (2 * i + 1) 0) (H.set (h.n + 1) (.cells (bz (pB s i) 32) .ex 1))
    generalize s.getD (2 * i) 0 = ca at *
    generalize s.getD (2 * i + 1) 0 = cb at *
    simp [c77_0, hi', hl, hsz, w1, w2, a1, a2, x1, x2, hcd, -Int.natCast_mul, -Int.natCast_add]
    refine m1.mono ?_
    rintro _ h9 ⟨rfl, e⟩
    rw [e]
    clear e h9
    simp
    refine m2.mono ?_
    rintro _ h9 ⟨rfl, e⟩
    rw [e]
    clear e h9
    by_cases n1 : pv ca < 0
    · have hb := bad (hno1 n1)
      simp [n1, fb, hmz, g2, hz32, hput0, cellsOf_set, apart, hcz, hb, hs1]
      exact ⟨hzu, Heap.Ext.setNew e2 hcl (by omega) _⟩
    by_cases n2 : pv cb < 0
    · have hb := bad (hno2 n2)
      simp [n1, n2, fb, hmz, g2, hz32, hput0, cellsOf_set, apart, hcz, hb, hs1]
      exact ⟨hzu, Heap.Ext.setNew e2 hcl (by omega) _⟩
    obtain ⟨u, hu⟩ : ∃ u : Nat, pv ca = u := ⟨(pv ca).toNat, by omega⟩
    obtain ⟨w, hw⟩ : ∃ w : Nat, pv cb = w := ⟨(pv cb).toNat, by omega⟩
    have hu16 := (y1 (by omega)).1
    have hw16 := (y2 (by omega)).1
    have hst2 : ∀ k, k < 2 * (i + 1) → 0 ≤ pv (s.getD k 0) := fun k hk => hstep k hk (by omega) (by omega)
    rw [hu, hw] at hps
    rw [hu] at hu16 n1
    rw [hw] at hw16 n2
    simp only [Int.toNat_natCast] at hps
    have wsh : IntKind.i64.wrap ((u : Int) * 16) = (u : Int) * 16 := IntWalk.i64_in _ (by omega)
    have hor := nib_or ⟨u, by omega⟩ ⟨w, by omega⟩
    simp only at hor
    have b64 : IntKind.i64.bits = 64 := rfl
    have w8 : IntKind.u8.wrap ((16 * u + w : Nat) : Int) = ((UInt8.ofNat (16 * u + w)).toNat : Int) := by
      have : (UInt8.ofNat (16 * u + w)).toNat = 16 * u + w := by simp; omega
      rw [this]
      unfold IntKind.wrap; simp [IntKind.bits, IntKind.signed]; omega
    generalize UInt8.ofNat (16 * u + w) = by_ at *
    have hput := bz_put (n := 32) (l := pB s i) (by omega) by_
    rw [hpl, ← hps] at hput
    have hput' : aput (bz (pB s i) 32) i [.int .u8 (by_.toNat : Int)] = bz (pB s (i + 1)) 32 := hput
    have e1 : IntKind.i64.wrap ((i : Int) + 1) = ((i + 1 : Nat) : Int) := by rw [IntWalk.i64_in _ (by omega)]; omega
    rw [hu, hw]
    simp [n1, n2, wsh, hor, b64, w8, aidx_of hi32, g4, mcells, hbl, show i ≤ 31 by omega, set_set, hput', e1, -Int.natCast_add, -Int.natCast_mul]
    refine ⟨i + 1, by omega, ⟨by omega, hst2⟩, ⟨by show h.n ≤ H.n; omega, Nat.le_refl _, fun _ _ e => e, hclO _⟩, .string, .ptr (by show h.n < H.n; omega), .ptr (by show h.n + 1 < H.n; omega), rfl, .int⟩
  · have hie : i = 32 := by omega
    subst hie
    have hok : hexOk s := ⟨hl, fun k hk => hv k (by omega)⟩
    have hpV : parseV s = (pB s 32, true) := if_pos hok
    have hb32 : bz (pB s 32) 32 = ubs (pB s 32) := by simp [bz, hpl, zl]
    have hul : (ubs (pB s 32)).length = 32 := by rw [ubs_len, hpl]
    have hcu := acut_full hul
    have hpu : aput (zl .u8 32) 0 (ubs (pB s 32)) = ubs (pB s 32) := aput_all _ _ (by rw [hul, hz32])
    rw [hb32]
    simp [c77_0, g4, g2, apart, hcu, m_ubs, hul, hz32, hpu, cellsOf_set, hpV]
    exact Heap.Ext.setNew (Heap.Ext.setNew e2 hcl (by omega) _) hcl (Nat.le_refl _) _
theorem abc8 : (hexB (shaB [97, 98, 99])).take 8 = [98, 97, 55, 56, 49, 54, 98, 102] := by decide +kernel
theorem sl_strs2 (H : Heap) (a b : List UInt8) : Sl enS (H.push (.cells [.string (bs a), .string (bs b)] .ex 1)) (.slice (some ⟨H.n, 0, none⟩) 2 2) [a, b] :=
  .inr ⟨H.n, 0, 2, [.string (bs a), .string (bs b)], .ex, 1, rfl, cellsOf_new _ _ _ _, Nat.le_refl _, fun _ => by simp, fun i hi => by
    match i, hi with
    | 0, _ => rfl
    | 1, _ => rfl⟩
theorem sawake_ok (h : Heap) : ACalls Try.prog 61 [] h fun v h' => v = .bool true ∧ h' = h := by
  refine ACalls.same .bool (acalls_of mix Try.func61 k61 n61 (by simp) fun hcl hb => ?_)
  have fil : afill [.string (bs [])] [(0, 1, .string (bs [97, 98, 99]))] = some [.string (bs [97, 98, 99])] := rfl
  have fil2 : afill [.string (bs []), .string (bs [])] [(0, 1, .string (bs [97])), (1, 1, .string (bs [98, 99]))] = some [.string (bs [97]), .string (bs [98, 99])] := rfl
  simp [c61, bs_lit, fil]
  refine (sum_ok [[97, 98, 99]] _ _ (sl_str _ _) (by simp) (by simp)).mono ?_
  rintro _ h9 ⟨rfl, e⟩
  rw [e]
  clear e h9
  simp
  refine (hex_ok _ (shaB_len _) _).mono ?_
  rintro _ h9 ⟨rfl, e⟩
  rw [e]
  clear e h9
  have hsz : (bs (hexB (shaB [97, 98, 99]))).size = 64 := by rw [bs_size, hexB_len, shaB_len]
  have ab : abounds 64 64 none (some (.int .i64 8)) none = some (0, 8, 64) := abounds_hi (k := 8) (by omega)
  have h8 := abc8
  generalize hX : hexB (shaB [97, 98, 99]) = X at *
  simp [hsz, ab, bs_extract, h8, bs_lit, fil2]
  refine (sum_ok [[97], [98, 99]] _ _ (sl_strs2 _ _ _) (by simp) (by simp)).mono ?_
  rintro _ h9 ⟨rfl, e⟩
  rw [e]
  clear e h9
  simp
  refine (hex_ok _ (shaB_len _) _).mono ?_
  rintro _ h9 ⟨rfl, e⟩
  rw [e]
  clear e h9
  simp [hX]
  exact ((Heap.Ext.refl h).push hcl _).push hcl _
/-- too long? -/
def longV (l : List (List UInt8)) : Bool := decide (3000 < l.flatten.length) || decide (60 < l.length)
theorem flat_take (l : List (List UInt8)) (i : Nat) : (l.take i).flatten.length ≤ l.flatten.length := by
  have := congrArg (fun x => x.flatten.length) (List.take_append_drop i l)
  simp only [List.flatten_append, List.length_append] at this
  omega
theorem flat_succ (l : List (List UInt8)) (i : Nat) (h : i < l.length) : (l.take (i + 1)).flatten = (l.take i).flatten ++ l[i] := by
  rw [List.take_succ_eq_append_getElem h, List.flatten_append]; simp
theorem long_ok (l : List (List UInt8)) (v : Value) (h : Heap) (hl : Sl enS h v l) (hs : ∀ s ∈ l, s.length ≤ 140737488351232) (hln : l.length ≤ 9223372036854775807) :
    ACalls Try.prog 62 [v] h fun r h' => r = .bool (longV l) ∧ h' = h := by
  refine acalls_of mix Try.func62 k62 n62 (by simp) fun hcl hb => ?_
  have bl := Sl.below hl hcl
  obtain ⟨ad, c, rfl⟩ := Sl.form hl
  simp [c62]
  refine awp_loop_of (α := Nat) (fun i => i ≤ l.length ∧ (l.take i).flatten.length ≤ 3000)
    (fun i => [(0, .slice ad l.length c), (3, .int .i64 ((l.take i).flatten.length : Int)), (6, .slice ad l.length c), (7, .int .i64 l.length), (8, .int .i64 i)]) (fun _ => h) (fun i => l.length - i) 0
    ⟨Nat.zero_le _, by simp⟩ (Heap.Sub.refl hcl) (by simp; exact ⟨bl, .int, bl, .int, .int⟩) ?_
  rintro i ⟨hi, hfl⟩
  by_cases hil : i < l.length
  · have hi' : (i : Int) < (l.length : Int) := by omega
    obtain ⟨b, o, cs, m, e, rfl, _, g1, g2⟩ := Sl.at hl hil
    have hsi := hs _ (List.getElem_mem hil)
    have hsz := bs_size l[i]
    have hsucc := flat_succ l i hil
    have htot := flat_take l (i + 1)
    rw [hsucc, List.length_append] at htot
    generalize hN : (l.take i).flatten.length = N at *
    have w1 : IntKind.i64.wrap ((N : Int) + (l[i].length : Int)) = ((N + l[i].length : Nat) : Int) := by rw [IntWalk.i64_in _ (by omega)]; omega
    have e1 : IntKind.i64.wrap ((i : Int) + 1) = ((i + 1 : Nat) : Int) := by rw [IntWalk.i64_in _ (by omega)]; omega
    have hen : enS l[i] = .string (bs l[i]) := rfl
    by_cases hbig : 3000 < N + l[i].length
    · have hbig' : (3000 : Int) < ((N + l[i].length : Nat) : Int) := by omega
      have hv : longV l = true := by unfold longV; rw [decide_eq_true (by omega)]; rfl
      simp [hi', aidx_of hil, g1, apart, g2, hen, hsz, w1, hbig', hv, -Int.natCast_add]
    · have hbig' : ¬ (3000 : Int) < ((N + l[i].length : Nat) : Int) := by omega
      simp [hi', aidx_of hil, g1, apart, g2, hen, hsz, w1, hbig', e1, -Int.natCast_add, -List.length_flatten]
      have hN1 : (l.take (i + 1)).flatten.length = N + l[i].length := by rw [hsucc, List.length_append, hN]
      refine ⟨i + 1, by omega, ⟨by omega, by rw [hN1]; omega⟩, Heap.Sub.refl hcl, bl, ⟨by rw [hN1], .int⟩, bl, .int, rfl, .int⟩
  · have hie : i = l.length := by omega
    subst hie
    rw [List.take_of_length_le (Nat.le_refl _)] at hfl
    have hv : longV l = decide (60 < l.length) := by unfold longV; rw [decide_eq_false (by omega)]; rfl
    simp [hv]
    omega
theorem joined_ok (l : List (List UInt8)) (v : Value) (h : Heap) (hl : Sl enS h v l) (hs : l.flatten.length ≤ 1000000) (hln : l.length ≤ 1000000) :
    ACalls Try.prog 66 [v] h fun r h' => r = .string (bs l.flatten) ∧ h' = h := by
  refine acalls_of mix Try.func66 k66 n66 (by simp) fun hcl hb => ?_
  have bl := Sl.below hl hcl
  obtain ⟨ad, c, rfl⟩ := Sl.form hl
  simp [c66, bs_lit]
  refine awp_loop_of (α := Nat) (fun i => i ≤ l.length)
    (fun i => [(0, .slice ad l.length c), (3, .string (bs (l.take i).flatten)), (4, .int .i64 i)]) (fun _ => h) (fun i => l.length - i) 0
    (Nat.zero_le _) (Heap.Sub.refl hcl) (by simp; exact ⟨bl, .string, .int⟩) ?_
  intro i hi
  by_cases hil : i < l.length
  · have hi' : (i : Int) < (l.length : Int) := by omega
    obtain ⟨b, o, cs, m, e, rfl, _, g1, g2⟩ := Sl.at hl hil
    have hsucc := flat_succ l i hil
    have htot := flat_take l (i + 1)
    rw [hsucc, List.length_append] at htot
    have hen : enS l[i] = .string (bs l[i]) := rfl
    have s1 : (bs (l.take i).flatten).size + (bs l[i]).size ≤ 9223372036854775807 := by rw [bs_size, bs_size]; omega
    have e1 : IntKind.i64.wrap ((i : Int) + 1) = ((i + 1 : Nat) : Int) := by rw [IntWalk.i64_in _ (by omega)]; omega
    simp [hi', aidx_of hil, g1, apart, g2, hen, s1, bs_append, ← hsucc, e1, -Int.natCast_add]
    exact ⟨i + 1, by omega, by omega, Heap.Sub.refl hcl, bl, ⟨rfl, .string⟩, rfl, .int⟩
  · have hie : i = l.length := by omega
    subst hie
    simp [List.take_of_length_le (Nat.le_refl _)]
theorem dlen_ok (b : Nat) (nm : Option Nat) (T : List UInt8) (k : Nat) (h : Heap) (hd : DigK h b nm T k) : ACalls Try.prog 68 [.pointer (some ⟨b, 0, none⟩)] h fun v h' => v = .int .i64 (T.length : Int) ∧ h' = h := by
  refine acalls_of mix Try.func68 k68 n68 (by simp) fun hcl hb => ?_
  obtain ⟨rv, hbc, hr, hk⟩ := hd
  have h9 := dc9 (absK T k) rv T.length
  simp [c68, aeq, hbc, apart, h9]
theorem dlen_nil (h : Heap) : ACalls Try.prog 68 [.pointer none] h fun v h' => v = .int .i64 0 ∧ h' = h := by
  refine acalls_of mix Try.func68 k68 n68 (by simp) fun hcl hb => ?_
  simp [c68, aeq]
theorem reset_ok (b : Nat) (nm : Option Nat) (T : List UInt8) (k : Nat) (h : Heap) (hd : DigK h b nm T k) : ACalls Try.prog 75 [.pointer (some ⟨b, 0, none⟩)] h fun v h' => v = .tuple #[] ∧ DigK h' b none [] 0 ∧ h'.n = h.n ∧ ∀ y ob, h.m y = some ob → y ≠ b → h'.m y = some ob := by
  refine acalls_of mix Try.func75 k75 n75 (by simp) fun hcl hb => ?_
  obtain ⟨rv, hbc, hr, hk⟩ := hd
  have hl := dc_len (absK T k) rv T.length
  simp [c75, aeq]
  refine (start_ok h).mono ?_
  rintro _ h9 ⟨rfl, e⟩
  rw [e]
  clear e h9
  have fil : afill (zl .u32 8 ++ [.slice none 0 0, .int .i64 0]) [(0, 8, .agg (wl s0.l).toArray)] = some (dcells s0 (.slice none 0 0) 0) := by
    have hm := m_wl s0.l
    simp only [afill, hm]
    rfl
  have fil' : afill [.int .u32 0, .int .u32 0, .int .u32 0, .int .u32 0, .int .u32 0, .int .u32 0, .int .u32 0, .int .u32 0, .slice none 0 0, .int .i64 0] [(0, 8, .agg (wl s0.l).toArray)] = some (dcells s0 (.slice none 0 0) 0) := fil
  have hm2 : mcells (.agg (dcells s0 (.slice none 0 0) 0).toArray) = some (dcells s0 (.slice none 0 0) 0) := by simp [mcells]
  have hl2 := dc_len s0 (.slice none 0 0) 0
  have hp : aput (dcells (absK T k) rv T.length) 0 (dcells s0 (.slice none 0 0) 0) = dcells s0 (.slice none 0 0) 0 := aput_all _ _ (by rw [hl, hl2])
  simp [fil', hm2, hbc, hl, hl2, hp]
  exact ⟨⟨_, cellsOf_set _ _ _ _ _, .inl ⟨rfl, rfl, rfl⟩, Nat.zero_le _⟩, fun y ob e hne => by rw [set_m, if_neg hne]; exact e⟩
theorem reset_nil (h : Heap) : ACalls Try.prog 75 [.pointer none] h fun v h' => v = .tuple #[] ∧ h' = h := by
  refine acalls_of mix Try.func75 k75 n75 (by simp) fun hcl hb => ?_
  simp [c75, aeq]
theorem write_nil (v : Value) (h : Heap) : ACalls Try.prog 64 [.pointer none, v] h fun r h' => r = .tuple #[] ∧ h' = h := by
  refine acalls_of mix Try.func64 k64 n64 (by simp) fun hcl hb => ?_
  simp [c64, aeq]
theorem dsum_nil (h : Heap) : ACalls Try.prog 65 [.pointer none] h fun v h' => v = .agg (ubs (shaB [])).toArray ∧ h' = h := by
  refine ACalls.same ubs_below (acalls_ofR mix Try.func65 k65 n65 (by simp) fun hcl hb => ?_)
  have hz := zl_len .u8 32
  have hul : (ubs (shaB [])).length = 32 := by rw [ubs_len, shaB_len]
  have hcu := acut_full hul
  have hp : aput (zl .u8 32) 0 (ubs (shaB [])) = ubs (shaB []) := aput_all _ _ (by rw [hul, hz])
  simp only [c65, s_seq, s_ops]
  simp [aeq]
  refine (sum_ok [] _ _ (.inl ⟨0, rfl, rfl⟩) (by simp) (by simp)).mono ?_
  rintro _ h9 ⟨rfl, e⟩
  rw [e]
  clear e h9
  simp [cellsOf_at, set_at, m_ubs, hul, hz, hp, apart, hcu]
  exact (Heap.Ext.refl h).push hcl _
theorem shaNone_ok (s : List UInt8) (h : Heap) : ACalls Try.prog 16 [.string (bs s)] h fun v _ => v = .bool true := by
  refine acalls_of mix Try.func16 k16 n16 (by simp) fun hcl hb => ?_
  have hsz := bs_size s
  have fil : afill [.string (bs [])] [(0, 1, .string (bs s))] = some [.string (bs s)] := rfl
  simp only [c16, s_seq, s_ops]
  simp
  refine (sawake_ok _).mono ?_
  rintro _ h9 ⟨rfl, e⟩
  rw [e]
  clear e h9
  simp [aun]
  by_cases hbig : 300 < s.length
  · have : (300 : Int) < s.length := by omega
    simp [hsz, this]
  have hbig' : ¬ (300 : Int) < s.length := by omega
  simp [hsz, hbig', bs_lit, fil]
  refine (write_nil _ _).mono ?_
  rintro _ h9 ⟨rfl, e⟩
  rw [e]
  clear e h9
  simp
  refine (reset_nil _).mono ?_
  rintro _ h9 ⟨rfl, e⟩
  rw [e]
  clear e h9
  simp
  refine (dlen_nil _).mono ?_
  rintro _ h9 ⟨rfl, e⟩
  rw [e]
  clear e h9
  simp
  refine (dsum_nil _).mono ?_
  rintro _ h9 ⟨rfl, e⟩
  rw [e]
  clear e h9
  simp
  refine (sum_ok [] _ _ (.inl ⟨0, rfl, rfl⟩) (by simp) (by simp)).mono ?_
  rintro _ h9 ⟨rfl, e⟩
  rw [e]
  clear e h9
  have heq := eq_32 (shaB_len []) (shaB_len [])
  simp [heq]
theorem hexB_get : ∀ (D : List UInt8) (i : Nat), i < D.length → (hexB D).getD (2 * i) 0 = dg ((D.getD i 0).toNat / 16) ∧ (hexB D).getD (2 * i + 1) 0 = dg ((D.getD i 0).toNat % 16)
  | [], _, h => by simp at h
  | x :: r, 0, _ => ⟨rfl, rfl⟩
  | x :: r, i + 1, h => by
    have ih := hexB_get r i (by simpa using h)
    have e1 : hexB (x :: r) = [dg (x.toNat / 16), dg (x.toNat % 16)] ++ hexB r := rfl
    have e2 : (x :: r).getD (i + 1) 0 = r.getD i 0 := rfl
    rw [e1, e2, ← ih.1, ← ih.2]
    constructor
    · rw [List.getD, List.getD, List.getElem?_append_right (by simp; omega)]
      congr 2
    · rw [List.getD, List.getD, List.getElem?_append_right (by simp; omega)]
      congr 2
theorem pB_hex (D : List UInt8) : ∀ i, i ≤ D.length → pB (hexB D) i = D.take i
  | 0, _ => by simp [pB]
  | i + 1, h => by
    have g := hexB_get D i (by omega)
    have hc := (D.getD i 0).toNat_lt
    have p1 := pv_dg ⟨(D.getD i 0).toNat / 16, by omega⟩
    have p2 := pv_dg ⟨(D.getD i 0).toNat % 16, by omega⟩
    simp only at p1 p2
    rw [pB, pB_hex D i (by omega), g.1, g.2, p1, p2, List.take_succ_eq_append_getElem (by omega)]
    congr 2
    have : D.getD i 0 = D[i] := by rw [List.getD, List.getElem?_eq_getElem (by omega)]; rfl
    rw [← this]
    simp only [Int.toNat_natCast]
    rw [Nat.div_add_mod]
    simp
theorem parse_hex (D : List UInt8) (hD : D.length = 32) : parseV (hexB D) = (D, true) := by
  have hok : hexOk (hexB D) := by
    refine ⟨by rw [hexB_len, hD], fun i hi => ?_⟩
    have g := hexB_get D (i / 2) (by omega)
    have hc := (D.getD (i / 2) 0).toNat_lt
    rcases Nat.mod_two_eq_zero_or_one i with q | q
    · rw [show 2 * (i / 2) = i by omega] at g
      have p1 := pv_dg ⟨(D.getD (i / 2) 0).toNat / 16, by omega⟩
      simp only at p1
      rw [g.1, p1]; omega
    · rw [show 2 * (i / 2) + 1 = i by omega] at g
      have p1 := pv_dg ⟨(D.getD (i / 2) 0).toNat % 16, by omega⟩
      simp only at p1
      rw [g.2, p1]; omega
  unfold parseV
  rw [if_pos hok, pB_hex D 32 (by omega), List.take_of_length_le (by omega)]
theorem hex_pB (s : List UInt8) (h : hexOk s) : ∀ i, i ≤ 32 → hexB (pB s i) = s.take (2 * i)
  | 0, _ => by simp [pB, hexB]
  | i + 1, hi => by
    have h1 := pv_ok _ (h.2 (2 * i) (by omega))
    have h2 := pv_ok _ (h.2 (2 * i + 1) (by omega))
    have n1 := h.2 (2 * i) (by omega)
    have n2 := h.2 (2 * i + 1) (by omega)
    have hl := h.1
    have t : s.take (2 * (i + 1)) = s.take (2 * i) ++ [s.getD (2 * i) 0] ++ [s.getD (2 * i + 1) 0] := by
      rw [show 2 * (i + 1) = 2 * i + 1 + 1 by omega, List.take_succ_eq_append_getElem (by omega), List.take_succ_eq_append_getElem (by omega)]
      simp [List.getD, show 2 * i < s.length by omega, show 2 * i + 1 < s.length by omega]
    rw [pB, hexB_app, hex_pB s h i (by omega), t]
    generalize s.getD (2 * i) 0 = ca at *
    generalize s.getD (2 * i + 1) 0 = cb at *
    obtain ⟨u, hu⟩ : ∃ u : Nat, pv ca = u := ⟨(pv ca).toNat, by omega⟩
    obtain ⟨w, hw⟩ : ∃ w : Nat, pv cb = w := ⟨(pv cb).toNat, by omega⟩
    rw [hu] at h1
    rw [hw] at h2
    rw [hu, hw]
    simp only [Int.toNat_natCast] at h1 h2 ⊢
    have e : (UInt8.ofNat (16 * u + w)).toNat = 16 * u + w := by simp; omega
    have e1 : hexB [UInt8.ofNat (16 * u + w)] = [dg ((UInt8.ofNat (16 * u + w)).toNat / 16), dg ((UInt8.ofNat (16 * u + w)).toNat % 16)] := rfl
    rw [e1, e, show (16 * u + w) / 16 = u by omega, show (16 * u + w) % 16 = w by omega, h1.2, h2.2]
    simp
theorem hex_parse (s : List UInt8) (h : hexOk s) : hexB (pB s 32) = s := by
  rw [hex_pB s h 32 (by omega), List.take_of_length_le (by rw [h.1]; omega)]
theorem shaWords_ok (D : List UInt8) (hD : D.length = 32) (s : List UInt8) (h : Heap) : ACalls Try.prog 17 [.agg (ubs D).toArray, .string (bs s)] h fun v _ => v = .bool true := by
  refine acalls_of mix Try.func17 k17 n17 (by simp) fun hcl hb => ?_
  have hsz := bs_size s
  have hul : ∀ x : List UInt8, x.length = 32 → (ubs x).length = 32 := fun x hx => by rw [ubs_len, hx]
  have hcu := acut_full (hul D hD)
  have hz := zl_len .u8 32
  have hpl := parseV_len s
  have hcp := acut_full (hul _ hpl)
  have hpp : ∀ x : List UInt8, x.length = 32 → aput (zl .u8 32) 0 (ubs x) = ubs x := fun x hx => aput_all _ _ (by rw [hul x hx, hz])
  have hpD := hpp D hD
  have hpS := hpp _ hpl
  have hulD := hul D hD
  have hulS := hul _ hpl
  simp only [c17, s_seq, s_ops]
  simp [m_ubs]
  refine (sawake_ok _).mono ?_
  rintro _ h9 ⟨rfl, e⟩
  rw [e]
  clear e h9
  simp [aun]
  by_cases hbig : 300 < s.length
  · have : (300 : Int) < s.length := by omega
    simp [hsz, this]
  have hbig' : ¬ (300 : Int) < s.length := by omega
  simp [hsz, hbig', cellsOf_at, apart, hcu]
  refine (hex_ok D hD _).mono ?_
  rintro _ h9 ⟨rfl, e⟩
  rw [e]
  clear e h9
  simp
  refine (parse_ok (hexB D) _).mono ?_
  rintro _ h9 ⟨rfl, e⟩
  rw [e]
  clear e h9
  rw [parse_hex D hD]
  simp [cellsOf_at, set_at, m_ubs, hulD, hz, hpD]
  refine (parse_ok s _).mono ?_
  rintro _ h9 ⟨rfl, e⟩
  rw [e]
  clear e h9
  have hb1 : ¬ h.n = h.n + 1 := by omega
  have hb2 : ¬ h.n = h.n + 1 + 1 := by omega
  have hb3 : ¬ h.n + 1 = h.n + 1 + 1 := by omega
  simp [cellsOf_at, cellsOf_ne, set_at, m_ubs, hulS, hz, hpS, hb1, hb2, hb3, apart, hcu]
  refine (refHex_ok D hD _).mono ?_
  rintro _ h9 ⟨rfl, e⟩
  rw [e]
  clear e h9
  have heq := eq_32 hD hD
  simp [cellsOf_at, cellsOf_ne, hb1, hb2, hb3, apart, hcu, heq, aun]
  by_cases hok : hexOk s
  · have hV : parseV s = (pB s 32, true) := if_pos hok
    have hh := hex_parse s hok
    rw [hV] at hcp ⊢
    simp [hV, aun, cellsOf_at, cellsOf_ne, apart, hcp]
    refine (refHex_ok _ (pB_len s 32) _).mono ?_
    rintro _ h9 ⟨rfl, e⟩
    rw [e]
    clear e h9
    simp [hh]
  · have hV : parseV s = (z32, false) := if_neg hok
    have hzu : zl .u8 32 = ubs z32 := by simp [ubs, z32, zl, eb]
    have fb : afill (zl .u8 32) [] = some (ubs z32) := by rw [← hzu]; rfl
    have heqz := eq_32 z32_len z32_len
    rw [hV] at hcp ⊢
    simp [hV, aun, cellsOf_at, cellsOf_ne, apart, hcp, fb, heqz]
    by_cases hl : s.length = 64
    · have hl' : (s.length : Int) = 64 := by omega
      simp [hl, hl', hsz, hcp, cellsOf_at, apart]
      refine (refHex_ok _ z32_len _).mono ?_
      rintro _ h9 ⟨rfl, e⟩
      have hne : hexB z32 ≠ s := fun q => by
        have := parse_hex z32 z32_len
        rw [q, hV] at this
        cases this
      simp [hne]
      exact fun q => hne (bs_inj.1 q)
    · have hl' : ¬ (s.length : Int) = 64 := by omega
      simp [hl, hl', hsz]
theorem hash_of {v : Value} {xs : List Int} (hv : v = .agg (xs.map (Value.int .u8)).toArray) (hl : xs.length = 32) (hw : ∀ x ∈ xs, (Lit.int .u8 x).wf = true) : ∃ D : List UInt8, v = .agg (ubs D).toArray ∧ D.length = 32 := by
  obtain ⟨D, hD⟩ := bytes_list (cs := xs.map (Value.int .u8)) fun j hj => by
    have hj' : j < xs.length := by simpa using hj
    exact ⟨xs[j], by simp [hj'], hw _ (List.getElem_mem hj')⟩
  refine ⟨D, by rw [hv, hD], ?_⟩
  rw [← ubs_len D, ← hD, List.length_map, hl]
theorem ubs_ints (D : List UInt8) : ∀ v ∈ ubs D, ∃ k n, v = .int k n := fun v hv => by
  obtain ⟨y, _, rfl⟩ := List.mem_map.1 hv
  exact ⟨_, _, rfl⟩
end Go.Proofs.Ythhhcpbkedikfaa.shaw
