/-
  Contracts.
-/
import Derived.Test.YthhhcpbkedikfaaSha
import Derived.Test.YthhhcpbkedikfaaNum
import Derived.Test.YthhhcpbkedikfaaAbEnter
import Derived.Test.YthhhcpbkedikfaaProg
import Derived.IntWalk
import Derived.KernelRfl
set_option linter.unusedSimpArgs false
set_option linter.unusedVariables false
namespace Go.Proofs.Ythhhcpbkedikfaa.head
open Go Go.Ab Go.Proofs Go.RowKit Go.Proofs.Ythhhcpbkedikfaa.num Go.Proofs.Ythhhcpbkedikfaa.sha
set_option maxRecDepth 100000
attribute [local simp] s_ops s_seq s_cond s_cond_t s_cond_f s_block s_exit s_ret s_skip s_then_n s_then_n' s_then_e s_then_e' s_then_r s_then_r' s_block_n s_block_r s_block_e s_post_r s_post_n s_res0 s_res1 s_res2 s_res3 s_res4 s_nil s_cons s_guard s_guard_tt s_guard_ff s_guard_tf s_guard_ft s_guard_u s_call s_kL s_put s_put0 s_set s_tmp s_const s_func s_init s_mkF s_mkF0 s_mv s_bin s_pick s_op aop oK_some oK_none bK_some bK_none b_add b_sub b_mul b_quo b_rem b_and b_or b_xor b_andNot b_shl b_shr b_eql b_neq b_lss b_leq b_gtr b_geq b_sadd b_seql b_sneq b_slss b_sleq b_sgtr b_sgeq s_draw s_drawT s_tK s_tT s_tF s_tB s_tR s_stage s_stage0 s_kW s_kR s_rc0 s_rc s_rcg rK_some rK_none rG_b rG_u s_callv s_callv_f s_nextM s_postR_r s_postR_n s_resA0 s_resAt s_resAc s_resC s_tup0 s_tup1 s_tup2 s_tup3
def z36 : List Value := [.int .i64 0, .int .i64 0, .int .i64 0, .int .i64 0] ++ zl .u8 32
def ckl (n : Nat) : List CK := List.replicate n .i
def c69 : AC := .seq (.ops [⟨ some 0, none, .mv (.const (.bool false)) ⟩]) (.seq (.ops [⟨ some 4, none, .build [.int .i64 0, .int .i64 0, .int .i64 0] [(0, 1, .const (.int .i64 1)), (1, 1, .const (.int .i64 2)), (2, 1, .const (.int .i64 3))] ⟩, ⟨ some 5, none, .call 71 [.tmp 4, .const (.string ⟨ ⟨[97, 98, 99] ⟩ ⟩)] ⟩, ⟨ some 6, none, .call 82 [.tmp 5] ⟩, ⟨ some 3, none, .mv (.tmp 6) ⟩, ⟨ some 7, none, .extr (.tmp 3) 0 ⟩, ⟨ some 8, none, .extr (.tmp 3) 1 ⟩, ⟨ some 1, none, .mv (.tmp 7) ⟩, ⟨ some 2, none, .mv (.tmp 8) ⟩]) (.seq (.ops [⟨ some 9, none, .mv (.tmp 2) ⟩, ⟨ some 10, none, .bin .eql (.tmp 9) (.const (.int .i64 0)) ⟩, ⟨ some 11, none, .mv (.tmp 10) ⟩, ⟨ some 12, some (11, true), .mv (.tmp 1) ⟩, ⟨ some 13, some (11, true), .lenS true (.tmp 12) ⟩, ⟨ some 14, some (11, true), .bin .eql (.tmp 13) (.const (.int .i64 48)) ⟩, ⟨ some 15, none, .pick (.tmp 11) (.tmp 14) (.const (.bool false)) ⟩, ⟨ some 16, none, .mv (.tmp 15) ⟩, ⟨ some 17, some (16, true), .mv (.tmp 1) ⟩, ⟨ some 18, some (16, true), .slS (.tmp 17) none (some (.const (.int .i64 14))) ⟩, ⟨ some 19, some (16, true), .bin .eql (.tmp 18) (.const (.string ⟨ ⟨[84, 82, 73, 80, 0, 1, 0, 2, 0, 3, 0, 0, 0, 3] ⟩ ⟩)) ⟩, ⟨ some 20, none, .pick (.tmp 16) (.tmp 19) (.const (.bool false)) ⟩, ⟨ some 0, none, .mv (.tmp 20) ⟩]) .ret))
theorem k69 : compF Try.prog Try.f69 = some (c69, [0]) := by kernel_rfl
theorem n69 : Try.f69.ntmps = 21 := by kernel_rfl
def c71 : AC := .seq (.ops [⟨ some 2, none, .box (.tmp 0) ⟩, ⟨ some 4, none, .alloc z36 ⟩]) (.seq (.draw [([⟨ some 5, none, .load (some 3) (.tmp 2) ⟩, ⟨ some 6, none, .mv (.tmp 1) ⟩, ⟨ some 7, none, .lenS true (.tmp 6) ⟩, ⟨ some 8, none, .mv (.tmp 1) ⟩], [⟨ some 9, none, .buildS 1 [.string ⟨ ⟨[] ⟩ ⟩] [(0, 1, .tmp 8)] ⟩], [⟨ some 5, none, .load (some 3) (.tmp 2) ⟩]), ([], [⟨ some 10, none, .call 67 [.tmp 9] ⟩], [⟨ some 5, none, .load (some 3) (.tmp 2) ⟩]), ([⟨ some 11, none, .build z36 [(0, 3, .tmp 5), (3, 1, .tmp 7), (4, 32, .tmp 10)] ⟩], [⟨ none, none, .store 36 (.tmp 4) (.tmp 11) ⟩], []), ([], [], [])]) .ret)
theorem k71 : compR Try.prog Try.f71 = some (c71, [.c 4 (some 36)]) := by kernel_rfl
theorem n71 : Try.f71.ntmps = 12 := by kernel_rfl
def c74 : AC := .seq (.ops [⟨ some 2, none, .box (.tmp 0) ⟩, ⟨ some 4, none, .mv (.const (.bool false)) ⟩]) (.seq (.draw [([⟨ some 5, none, .fAddr 3 (.tmp 2) ⟩, ⟨ some 6, none, .load none (.tmp 5) ⟩, ⟨ some 7, none, .mv (.tmp 1) ⟩, ⟨ some 8, none, .lenS true (.tmp 7) ⟩, ⟨ some 9, none, .bin .eql (.tmp 6) (.tmp 8) ⟩, ⟨ some 10, none, .mv (.tmp 9) ⟩, ⟨ some 11, some (10, true), .fAddr 4 (.tmp 2) ⟩, ⟨ some 12, some (10, true), .load (some 32) (.tmp 11) ⟩, ⟨ some 13, some (10, true), .mv (.tmp 1) ⟩], [⟨ some 14, some (10, true), .buildS 1 [.string ⟨ ⟨[] ⟩ ⟩] [(0, 1, .tmp 13)] ⟩], [⟨ some 12, some (10, true), .load (some 32) (.tmp 11) ⟩]), ([], [⟨ some 15, some (10, true), .call 67 [.tmp 14] ⟩], [⟨ some 12, some (10, true), .load (some 32) (.tmp 11) ⟩]), ([⟨ some 16, some (10, true), .eqa false (ckl 32) (.tmp 12) (.tmp 15) ⟩, ⟨ some 17, none, .pick (.tmp 10) (.tmp 16) (.const (.bool false)) ⟩, ⟨ some 4, none, .mv (.tmp 17) ⟩], [], [])]) .ret)
theorem k74 : compF Try.prog Try.f74 = some (c74, [4]) := by kernel_rfl
theorem n74 : Try.f74.ntmps = 18 := by kernel_rfl
def c82 : AC := .seq (.ops [⟨ some 1, none, .box (.tmp 0) ⟩, ⟨ some 2, none, .mv (.const (.string ⟨ ⟨[] ⟩ ⟩)) ⟩, ⟨ some 3, none, .mv (.const (.int .i64 0)) ⟩]) (.seq (.seq (.ops [⟨ some 8, none, .load (some 36) (.tmp 1) ⟩, ⟨ some 9, none, .call 84 [.tmp 8] ⟩, ⟨ some 10, none, .un .not (.tmp 9) ⟩]) (.cond (.tmp 10) (.seq (.ops [⟨ some 2, none, .mv (.const (.string ⟨ ⟨[] ⟩ ⟩)) ⟩, ⟨ some 3, none, .mv (.const (.int .i64 1)) ⟩]) .ret) .skip)) (.seq (.ops [⟨ some 12, none, .fAddr 0 (.tmp 1) ⟩, ⟨ some 13, none, .slA 3 1 (.tmp 12) none none none ⟩, ⟨ some 14, none, .call 24 [.const (.int .i64 2), .tmp 13] ⟩, ⟨ some 11, none, .mv (.tmp 14) ⟩, ⟨ some 15, none, .extr (.tmp 11) 0 ⟩, ⟨ some 16, none, .extr (.tmp 11) 1 ⟩, ⟨ some 4, none, .mv (.tmp 15) ⟩, ⟨ some 5, none, .mv (.tmp 16) ⟩]) (.seq (.ops [⟨ some 18, none, .fAddr 3 (.tmp 1) ⟩, ⟨ some 19, none, .load none (.tmp 18) ⟩, ⟨ some 20, none, .buildS 1 [.int .i64 0] [(0, 1, .tmp 19)] ⟩, ⟨ some 21, none, .call 24 [.const (.int .i64 4), .tmp 20] ⟩, ⟨ some 17, none, .mv (.tmp 21) ⟩, ⟨ some 22, none, .extr (.tmp 17) 0 ⟩, ⟨ some 23, none, .extr (.tmp 17) 1 ⟩, ⟨ some 6, none, .mv (.tmp 22) ⟩, ⟨ some 7, none, .mv (.tmp 23) ⟩]) (.seq (.ops [⟨ some 24, none, .mv (.tmp 4) ⟩, ⟨ some 25, none, .bin .add (.const (.string ⟨ ⟨[84, 82, 73, 80] ⟩ ⟩)) (.tmp 24) ⟩, ⟨ some 26, none, .mv (.tmp 6) ⟩, ⟨ some 27, none, .bin .add (.tmp 25) (.tmp 26) ⟩, ⟨ some 28, none, .fAddr 4 (.tmp 1) ⟩, ⟨ some 29, none, .slA 32 1 (.tmp 28) none none none ⟩, ⟨ some 30, none, .toStr (.tmp 29) ⟩, ⟨ some 31, none, .bin .add (.tmp 27) (.tmp 30) ⟩, ⟨ some 32, none, .bin .add (.tmp 31) (.const (.string ⟨ ⟨[0, 0] ⟩ ⟩)) ⟩, ⟨ some 2, none, .mv (.tmp 32) ⟩, ⟨ some 3, none, .mv (.const (.int .i64 0)) ⟩]) .ret))))
theorem k82 : compF Try.prog Try.f82 = some (c82, [2, 3]) := by kernel_rfl
theorem n82 : Try.f82.ntmps = 33 := by kernel_rfl
def c83 : AC := .seq (.ops [⟨ some 1, none, .box (.tmp 0) ⟩, ⟨ some 2, none, .mv (.const (.bool false)) ⟩]) (.seq (.seq (.ops [⟨ some 3, none, .mv (.const (.int .i64 0)) ⟩]) (.block 0 (.loop (.seq (.seq (.ops [⟨ some 4, none, .mv (.tmp 3) ⟩, ⟨ some 5, none, .bin .lss (.tmp 4) (.const (.int .i64 3)) ⟩]) (.cond (.tmp 5) .skip (.exit 0))) (.seq (.block 1 (.seq (.ops [⟨ some 8, none, .mv (.tmp 3) ⟩, ⟨ some 9, none, .fAddr 0 (.tmp 1) ⟩, ⟨ some 10, none, .iAddrA 3 1 (.tmp 9) (.tmp 8) ⟩, ⟨ some 11, none, .load none (.tmp 10) ⟩, ⟨ some 12, none, .bin .lss (.tmp 11) (.const (.int .i64 0)) ⟩, ⟨ some 13, none, .mv (.tmp 12) ⟩, ⟨ some 14, some (13, false), .mv (.tmp 3) ⟩, ⟨ some 15, some (13, false), .fAddr 0 (.tmp 1) ⟩, ⟨ some 16, some (13, false), .iAddrA 3 1 (.tmp 15) (.tmp 14) ⟩, ⟨ some 17, some (13, false), .load none (.tmp 16) ⟩, ⟨ some 18, some (13, false), .bin .gtr (.tmp 17) (.const (.int .i64 65535)) ⟩, ⟨ some 19, none, .pick (.tmp 13) (.const (.bool true)) (.tmp 18) ⟩]) (.cond (.tmp 19) (.seq (.ops [⟨ some 2, none, .mv (.const (.bool false)) ⟩]) .ret) .skip))) (.ops [⟨ some 6, none, .mv (.tmp 3) ⟩, ⟨ some 7, none, .bin .add (.tmp 6) (.const (.int .i64 1)) ⟩, ⟨ some 3, none, .mv (.tmp 7) ⟩])))))) (.seq (.ops [⟨ some 20, none, .fAddr 3 (.tmp 1) ⟩, ⟨ some 21, none, .load none (.tmp 20) ⟩, ⟨ some 22, none, .bin .geq (.tmp 21) (.const (.int .i64 0)) ⟩, ⟨ some 23, none, .mv (.tmp 22) ⟩, ⟨ some 24, some (23, true), .fAddr 3 (.tmp 1) ⟩, ⟨ some 25, some (23, true), .load none (.tmp 24) ⟩, ⟨ some 26, some (23, true), .bin .lss (.tmp 25) (.const (.int .i64 16777216)) ⟩, ⟨ some 27, none, .pick (.tmp 23) (.tmp 26) (.const (.bool false)) ⟩, ⟨ some 2, none, .mv (.tmp 27) ⟩]) .ret))
theorem k83 : compF Try.prog Try.f83 = some (c83, [2]) := by kernel_rfl
theorem n83 : Try.f83.ntmps = 28 := by kernel_rfl
def c84 : AC := .seq (.ops [⟨ some 1, none, .box (.tmp 0) ⟩, ⟨ some 2, none, .mv (.const (.bool false)) ⟩]) (.seq (.seq (.ops [⟨ some 5, none, .fAddr 0 (.tmp 1) ⟩, ⟨ some 6, none, .load (some 3) (.tmp 5) ⟩, ⟨ some 7, none, .mv (.const (.int .i64 0)) ⟩]) (.block 0 (.loop (.seq (.ops [⟨ some 8, none, .bin .lss (.tmp 7) (.const (.int .i64 3)) ⟩]) (.seq (.cond (.tmp 8) .skip (.exit 0)) (.seq (.block 1 (.seq (.ops [⟨ some 9, none, .iValA 3 1 none (.tmp 6) (.tmp 7) ⟩, ⟨ some 4, none, .mv (.tmp 9) ⟩]) (.seq (.ops [⟨ some 10, none, .mv (.tmp 4) ⟩, ⟨ some 11, none, .bin .lss (.tmp 10) (.const (.int .i64 0)) ⟩, ⟨ some 12, none, .mv (.tmp 11) ⟩, ⟨ some 13, some (12, false), .mv (.tmp 4) ⟩, ⟨ some 14, some (12, false), .bin .gtr (.tmp 13) (.const (.int .i64 65535)) ⟩, ⟨ some 15, none, .pick (.tmp 12) (.const (.bool true)) (.tmp 14) ⟩]) (.cond (.tmp 15) (.seq (.ops [⟨ some 2, none, .mv (.const (.bool false)) ⟩]) .ret) .skip)))) (.ops [⟨ some 16, none, .bin .add (.tmp 7) (.const (.int .i64 1)) ⟩, ⟨ some 7, none, .mv (.tmp 16) ⟩]))))))) (.seq (.ops [⟨ some 17, none, .fAddr 3 (.tmp 1) ⟩, ⟨ some 18, none, .load none (.tmp 17) ⟩, ⟨ some 19, none, .bin .geq (.tmp 18) (.const (.int .i64 0)) ⟩, ⟨ some 20, none, .mv (.tmp 19) ⟩, ⟨ some 21, some (20, true), .fAddr 3 (.tmp 1) ⟩, ⟨ some 22, some (20, true), .load none (.tmp 21) ⟩, ⟨ some 23, some (20, true), .bin .leq (.tmp 22) (.const (.int .i64 16777215)) ⟩, ⟨ some 24, none, .pick (.tmp 20) (.tmp 23) (.const (.bool false)) ⟩, ⟨ some 2, none, .mv (.tmp 24) ⟩]) .ret))
theorem k84 : compF Try.prog Try.f84 = some (c84, [2]) := by kernel_rfl
theorem n84 : Try.f84.ntmps = 25 := by kernel_rfl
def c85 : AC := .seq (.ops [⟨ some 2, none, .alloc z36 ⟩, ⟨ some 3, none, .mv (.const (.int .i64 0)) ⟩]) (.seq (.seq (.ops [⟨ some 9, none, .mv (.tmp 0) ⟩, ⟨ some 10, none, .lenS true (.tmp 9) ⟩, ⟨ some 11, none, .bin .lss (.tmp 10) (.const (.int .i64 48)) ⟩]) (.cond (.tmp 11) (.seq (.ops [⟨ some 12, none, .build z36 [] ⟩, ⟨ none, none, .store 36 (.tmp 2) (.tmp 12) ⟩, ⟨ some 3, none, .mv (.const (.int .i64 13)) ⟩]) .ret) .skip)) (.seq (.ops [⟨ some 4, none, .alloc z36 ⟩]) (.seq (.ops [⟨ some 14, none, .mv (.tmp 0) ⟩, ⟨ some 15, none, .slS (.tmp 14) (some (.const (.int .i64 4))) none ⟩, ⟨ some 16, none, .buildS 4 [.int .i64 0, .int .i64 0, .int .i64 0, .int .i64 0] [(0, 1, .const (.int .i64 2)), (1, 1, .const (.int .i64 2)), (2, 1, .const (.int .i64 2)), (3, 1, .const (.int .i64 4))] ⟩, ⟨ some 17, none, .call 30 [.tmp 15, .tmp 16] ⟩, ⟨ some 13, none, .mv (.tmp 17) ⟩, ⟨ some 18, none, .extr (.tmp 13) 0 ⟩, ⟨ some 19, none, .extr (.tmp 13) 1 ⟩, ⟨ some 5, none, .mv (.tmp 18) ⟩, ⟨ some 6, none, .mv (.tmp 19) ⟩]) (.seq (.ops [⟨ some 20, none, .fAddr 0 (.tmp 4) ⟩, ⟨ some 21, none, .slA 3 1 (.tmp 20) none none none ⟩, ⟨ some 22, none, .mv (.tmp 5) ⟩, ⟨ some 23, none, .copy 1 (.tmp 21) (.tmp 22) ⟩]) (.seq (.ops [⟨ some 24, none, .mv (.tmp 5) ⟩, ⟨ some 25, none, .iAddrS 1 (.tmp 24) (.const (.int .i64 3)) ⟩, ⟨ some 26, none, .load none (.tmp 25) ⟩, ⟨ some 27, none, .fAddr 3 (.tmp 4) ⟩, ⟨ none, none, .store 1 (.tmp 27) (.tmp 26) ⟩]) (.seq (.draw [([⟨ some 28, none, .fAddr 4 (.tmp 4) ⟩, ⟨ some 29, none, .slA 32 1 (.tmp 28) none none none ⟩, ⟨ some 30, none, .mv (.tmp 0) ⟩, ⟨ some 31, none, .slS (.tmp 30) (some (.const (.int .i64 14))) none ⟩], [⟨ some 32, none, .copy 1 (.tmp 29) (.tmp 31) ⟩], []), ([], [], [])]) (.seq (.seq (.ops [⟨ some 34, none, .load (some 36) (.tmp 4) ⟩, ⟨ some 35, none, .call 82 [.tmp 34] ⟩, ⟨ some 33, none, .mv (.tmp 35) ⟩, ⟨ some 36, none, .extr (.tmp 33) 0 ⟩, ⟨ some 37, none, .extr (.tmp 33) 1 ⟩, ⟨ some 7, none, .mv (.tmp 36) ⟩, ⟨ some 8, none, .mv (.tmp 37) ⟩]) (.seq (.ops [⟨ some 38, none, .mv (.tmp 8) ⟩, ⟨ some 39, none, .bin .neq (.tmp 38) (.const (.int .i64 0)) ⟩, ⟨ some 40, none, .mv (.tmp 39) ⟩, ⟨ some 41, some (40, false), .mv (.tmp 7) ⟩, ⟨ some 42, some (40, false), .mv (.tmp 0) ⟩, ⟨ some 43, some (40, false), .slS (.tmp 42) none (some (.const (.int .i64 48))) ⟩, ⟨ some 44, some (40, false), .bin .neq (.tmp 41) (.tmp 43) ⟩, ⟨ some 45, none, .pick (.tmp 40) (.const (.bool true)) (.tmp 44) ⟩]) (.cond (.tmp 45) (.seq (.ops [⟨ some 46, none, .build z36 [] ⟩, ⟨ none, none, .store 36 (.tmp 2) (.tmp 46) ⟩, ⟨ some 3, none, .mv (.const (.int .i64 6)) ⟩]) .ret) .skip))) (.seq (.ops [⟨ some 47, none, .load (some 36) (.tmp 4) ⟩, ⟨ none, none, .store 36 (.tmp 2) (.tmp 47) ⟩, ⟨ some 3, none, .mv (.const (.int .i64 0)) ⟩]) .ret))))))))
theorem k85 : compR Try.prog Try.f85 = some (c85, [.c 2 (some 36), .t 3]) := by kernel_rfl
theorem n85 : Try.f85.ntmps = 48 := by kernel_rfl
def c86 : AC := .seq (.ops [⟨ some 1, none, .box (.tmp 0) ⟩, ⟨ some 2, none, .mv (.const (.string ⟨ ⟨[] ⟩ ⟩)) ⟩]) (.seq (.ops [⟨ some 10, none, .fAddr 0 (.tmp 1) ⟩, ⟨ some 11, none, .iAddrA 3 1 (.tmp 10) (.const (.int .i64 0)) ⟩, ⟨ some 12, none, .load none (.tmp 11) ⟩, ⟨ some 13, none, .fAddr 0 (.tmp 1) ⟩, ⟨ some 14, none, .iAddrA 3 1 (.tmp 13) (.const (.int .i64 1)) ⟩, ⟨ some 15, none, .load none (.tmp 14) ⟩, ⟨ some 16, none, .fAddr 0 (.tmp 1) ⟩, ⟨ some 17, none, .iAddrA 3 1 (.tmp 16) (.const (.int .i64 2)) ⟩, ⟨ some 18, none, .load none (.tmp 17) ⟩, ⟨ some 19, none, .buildS 3 [.int .i64 0, .int .i64 0, .int .i64 0] [(0, 1, .tmp 12), (1, 1, .tmp 15), (2, 1, .tmp 18)] ⟩, ⟨ some 20, none, .call 29 [.const (.int .i64 2), .tmp 19] ⟩, ⟨ some 9, none, .mv (.tmp 20) ⟩, ⟨ some 21, none, .extr (.tmp 9) 0 ⟩, ⟨ some 22, none, .extr (.tmp 9) 1 ⟩, ⟨ some 3, none, .mv (.tmp 21) ⟩, ⟨ some 4, none, .mv (.tmp 22) ⟩]) (.seq (.ops [⟨ some 24, none, .fAddr 3 (.tmp 1) ⟩, ⟨ some 25, none, .load none (.tmp 24) ⟩, ⟨ some 26, none, .buildS 1 [.int .i64 0] [(0, 1, .tmp 25)] ⟩, ⟨ some 27, none, .call 29 [.const (.int .i64 4), .tmp 26] ⟩, ⟨ some 23, none, .mv (.tmp 27) ⟩, ⟨ some 28, none, .extr (.tmp 23) 0 ⟩, ⟨ some 29, none, .extr (.tmp 23) 1 ⟩, ⟨ some 5, none, .mv (.tmp 28) ⟩, ⟨ some 6, none, .mv (.tmp 29) ⟩]) (.seq (.ops [⟨ some 30, none, .buildS 0 [] [] ⟩, ⟨ some 7, none, .mv (.tmp 30) ⟩]) (.seq (.seq (.ops [⟨ some 8, none, .mv (.const (.int .i64 0)) ⟩]) (.block 0 (.loop (.seq (.seq (.ops [⟨ some 31, none, .mv (.tmp 8) ⟩, ⟨ some 32, none, .bin .lss (.tmp 31) (.const (.int .i64 32)) ⟩]) (.cond (.tmp 32) .skip (.exit 0))) (.seq (.block 1 (.ops [⟨ some 35, none, .mv (.tmp 7) ⟩, ⟨ some 36, none, .mv (.tmp 8) ⟩, ⟨ some 37, none, .fAddr 4 (.tmp 1) ⟩, ⟨ some 38, none, .iAddrA 32 1 (.tmp 37) (.tmp 36) ⟩, ⟨ some 39, none, .load none (.tmp 38) ⟩, ⟨ some 40, none, .buildS 1 [.int .u8 0] [(0, 1, .tmp 39)] ⟩, ⟨ some 41, none, .app 1 1 5 (.tmp 35) (.tmp 40) ⟩, ⟨ some 7, none, .mv (.tmp 41) ⟩])) (.ops [⟨ some 33, none, .mv (.tmp 8) ⟩, ⟨ some 34, none, .bin .add (.tmp 33) (.const (.int .i64 1)) ⟩, ⟨ some 8, none, .mv (.tmp 34) ⟩])))))) (.seq (.ops [⟨ some 42, none, .mv (.tmp 3) ⟩, ⟨ some 43, none, .bin .add (.const (.string ⟨ ⟨[84, 82, 73, 80] ⟩ ⟩)) (.tmp 42) ⟩, ⟨ some 44, none, .mv (.tmp 5) ⟩, ⟨ some 45, none, .bin .add (.tmp 43) (.tmp 44) ⟩, ⟨ some 46, none, .mv (.tmp 7) ⟩, ⟨ some 47, none, .toStr (.tmp 46) ⟩, ⟨ some 48, none, .bin .add (.tmp 45) (.tmp 47) ⟩, ⟨ some 49, none, .buildS 2 [.int .u8 0, .int .u8 0] [(0, 1, .const (.int .u8 0)), (1, 1, .const (.int .u8 0))] ⟩, ⟨ some 50, none, .toStr (.tmp 49) ⟩, ⟨ some 51, none, .bin .add (.tmp 48) (.tmp 50) ⟩, ⟨ some 2, none, .mv (.tmp 51) ⟩]) .ret)))))
theorem k86 : compF Try.prog Try.f86 = some (c86, [2]) := by kernel_rfl
theorem n86 : Try.f86.ntmps = 52 := by kernel_rfl
def c87 : AC := .seq (.ops [⟨ some 2, none, .alloc z36 ⟩, ⟨ some 3, none, .mv (.const (.int .i64 0)) ⟩]) (.seq (.seq (.ops [⟨ some 8, none, .mv (.tmp 0) ⟩, ⟨ some 9, none, .lenS true (.tmp 8) ⟩, ⟨ some 10, none, .bin .lss (.tmp 9) (.const (.int .i64 48)) ⟩]) (.cond (.tmp 10) (.seq (.ops [⟨ some 11, none, .build z36 [] ⟩, ⟨ none, none, .store 36 (.tmp 2) (.tmp 11) ⟩, ⟨ some 3, none, .mv (.const (.int .i64 13)) ⟩]) .ret) .skip)) (.seq (.ops [⟨ some 12, none, .build z36 [] ⟩, ⟨ some 4, none, .alloc z36 ⟩, ⟨ none, none, .store 36 (.tmp 4) (.tmp 12) ⟩]) (.seq (.ops [⟨ some 14, none, .mv (.tmp 0) ⟩, ⟨ some 15, none, .slS (.tmp 14) (some (.const (.int .i64 4))) (some (.const (.int .i64 14))) ⟩, ⟨ some 16, none, .buildS 4 [.int .i64 0, .int .i64 0, .int .i64 0, .int .i64 0] [(0, 1, .const (.int .i64 2)), (1, 1, .const (.int .i64 2)), (2, 1, .const (.int .i64 2)), (3, 1, .const (.int .i64 4))] ⟩, ⟨ some 17, none, .call 33 [.tmp 15, .tmp 16] ⟩, ⟨ some 13, none, .mv (.tmp 17) ⟩, ⟨ some 18, none, .extr (.tmp 13) 0 ⟩, ⟨ some 19, none, .extr (.tmp 13) 1 ⟩, ⟨ some 5, none, .mv (.tmp 18) ⟩, ⟨ some 6, none, .mv (.tmp 19) ⟩]) (.seq (.draw [([⟨ some 20, none, .mv (.tmp 5) ⟩, ⟨ some 21, none, .iAddrS 1 (.tmp 20) (.const (.int .i64 0)) ⟩, ⟨ some 22, none, .load none (.tmp 21) ⟩, ⟨ some 23, none, .mv (.tmp 5) ⟩, ⟨ some 24, none, .iAddrS 1 (.tmp 23) (.const (.int .i64 1)) ⟩, ⟨ some 25, none, .load none (.tmp 24) ⟩, ⟨ some 26, none, .mv (.tmp 5) ⟩, ⟨ some 27, none, .iAddrS 1 (.tmp 26) (.const (.int .i64 2)) ⟩, ⟨ some 28, none, .load none (.tmp 27) ⟩, ⟨ some 29, none, .build [.int .i64 0, .int .i64 0, .int .i64 0] [(0, 1, .tmp 22), (1, 1, .tmp 25), (2, 1, .tmp 28)] ⟩, ⟨ some 30, none, .fAddr 0 (.tmp 4) ⟩], [⟨ none, none, .store 3 (.tmp 30) (.tmp 29) ⟩], []), ([], [], [])]) (.seq (.ops [⟨ some 31, none, .mv (.tmp 5) ⟩, ⟨ some 32, none, .iAddrS 1 (.tmp 31) (.const (.int .i64 3)) ⟩, ⟨ some 33, none, .load none (.tmp 32) ⟩, ⟨ some 34, none, .fAddr 3 (.tmp 4) ⟩, ⟨ none, none, .store 1 (.tmp 34) (.tmp 33) ⟩]) (.seq (.seq (.ops [⟨ some 7, none, .mv (.const (.int .i64 0)) ⟩]) (.block 0 (.loop (.seq (.seq (.ops [⟨ some 35, none, .mv (.tmp 7) ⟩, ⟨ some 36, none, .bin .lss (.tmp 35) (.const (.int .i64 32)) ⟩]) (.cond (.tmp 36) .skip (.exit 0))) (.seq (.block 1 (.ops [⟨ some 39, none, .mv (.tmp 7) ⟩, ⟨ some 40, none, .mv (.tmp 0) ⟩, ⟨ some 41, none, .mv (.tmp 7) ⟩, ⟨ some 42, none, .bin .add (.const (.int .i64 14)) (.tmp 41) ⟩, ⟨ some 43, none, .iStr (.tmp 40) (.tmp 42) ⟩, ⟨ some 44, none, .fAddr 4 (.tmp 4) ⟩, ⟨ some 45, none, .iAddrA 32 1 (.tmp 44) (.tmp 39) ⟩, ⟨ none, none, .store 1 (.tmp 45) (.tmp 43) ⟩])) (.ops [⟨ some 37, none, .mv (.tmp 7) ⟩, ⟨ some 38, none, .bin .add (.tmp 37) (.const (.int .i64 1)) ⟩, ⟨ some 7, none, .mv (.tmp 38) ⟩])))))) (.seq (.seq (.draw [([⟨ some 46, none, .load (some 36) (.tmp 4) ⟩], [⟨ some 47, none, .call 83 [.tmp 46] ⟩], []), ([⟨ some 48, none, .un .not (.tmp 47) ⟩, ⟨ some 49, none, .mv (.tmp 48) ⟩, ⟨ some 50, some (49, false), .load (some 36) (.tmp 4) ⟩, ⟨ some 52, some (49, false), .mv (.tmp 0) ⟩, ⟨ some 53, some (49, false), .slS (.tmp 52) none (some (.const (.int .i64 48))) ⟩], [⟨ some 51, some (49, false), .call 86 [.tmp 50] ⟩], []), ([⟨ some 54, some (49, false), .bin .neq (.tmp 51) (.tmp 53) ⟩, ⟨ some 55, none, .pick (.tmp 49) (.const (.bool true)) (.tmp 54) ⟩], [], [])]) (.cond (.tmp 55) (.seq (.ops [⟨ some 56, none, .build z36 [] ⟩, ⟨ none, none, .store 36 (.tmp 2) (.tmp 56) ⟩, ⟨ some 3, none, .mv (.const (.int .i64 6)) ⟩]) .ret) .skip)) (.seq (.ops [⟨ some 57, none, .load (some 36) (.tmp 4) ⟩, ⟨ none, none, .store 36 (.tmp 2) (.tmp 57) ⟩, ⟨ some 3, none, .mv (.const (.int .i64 0)) ⟩]) .ret))))))))
theorem k87 : compR Try.prog Try.f87 = some (c87, [.c 2 (some 36), .t 3]) := by kernel_rfl
theorem n87 : Try.f87.ntmps = 58 := by kernel_rfl
def c19 : AC := .seq (.ops [⟨ some 2, none, .box (.tmp 0) ⟩, ⟨ some 4, none, .mv (.const (.bool false)) ⟩]) (.seq (.seq (.ops [⟨ some 15, none, .call 69 [] ⟩, ⟨ some 16, none, .un .not (.tmp 15) ⟩]) (.cond (.tmp 16) (.seq (.ops [⟨ some 4, none, .mv (.const (.bool false)) ⟩]) .ret) .skip)) (.seq (.seq (.ops [⟨ some 17, none, .mv (.tmp 1) ⟩, ⟨ some 18, none, .lenS true (.tmp 17) ⟩, ⟨ some 19, none, .bin .gtr (.tmp 18) (.const (.int .i64 1000)) ⟩]) (.cond (.tmp 19) (.seq (.ops [⟨ some 4, none, .mv (.const (.bool true)) ⟩]) .ret) .skip)) (.seq (.ops [⟨ some 20, none, .load (some 36) (.tmp 2) ⟩, ⟨ some 5, none, .alloc z36 ⟩, ⟨ none, none, .store 36 (.tmp 5) (.tmp 20) ⟩]) (.seq (.ops [⟨ some 22, none, .load (some 36) (.tmp 2) ⟩, ⟨ some 23, none, .call 82 [.tmp 22] ⟩, ⟨ some 21, none, .mv (.tmp 23) ⟩, ⟨ some 24, none, .extr (.tmp 21) 0 ⟩, ⟨ some 25, none, .extr (.tmp 21) 1 ⟩, ⟨ some 6, none, .mv (.tmp 24) ⟩, ⟨ some 7, none, .mv (.tmp 25) ⟩]) (.seq (.ops [⟨ some 26, none, .load (some 36) (.tmp 5) ⟩, ⟨ some 27, none, .call 83 [.tmp 26] ⟩, ⟨ some 8, none, .mv (.tmp 27) ⟩]) (.seq (.seq (.ops [⟨ some 28, none, .load (some 36) (.tmp 2) ⟩, ⟨ some 29, none, .call 84 [.tmp 28] ⟩, ⟨ some 30, none, .mv (.tmp 8) ⟩, ⟨ some 31, none, .eqv true .bool (.tmp 29) (.tmp 30) ⟩, ⟨ some 32, none, .mv (.tmp 31) ⟩, ⟨ some 33, some (32, false), .mv (.tmp 7) ⟩, ⟨ some 34, some (32, false), .bin .eql (.tmp 33) (.const (.int .i64 0)) ⟩, ⟨ some 35, some (32, false), .mv (.tmp 8) ⟩, ⟨ some 36, some (32, false), .eqv true .bool (.tmp 34) (.tmp 35) ⟩, ⟨ some 37, none, .pick (.tmp 32) (.const (.bool true)) (.tmp 36) ⟩, ⟨ some 38, none, .mv (.tmp 37) ⟩, ⟨ some 39, some (38, false), .mv (.tmp 8) ⟩, ⟨ some 40, some (38, false), .un .not (.tmp 39) ⟩, ⟨ some 41, some (38, false), .mv (.tmp 40) ⟩, ⟨ some 42, some (41, true), .mv (.tmp 7) ⟩, ⟨ some 43, some (41, true), .bin .neq (.tmp 42) (.const (.int .i64 1)) ⟩, ⟨ some 44, some (41, true), .mv (.tmp 43) ⟩, ⟨ some 45, some (44, false), .mv (.tmp 6) ⟩, ⟨ some 46, some (44, false), .bin .neq (.tmp 45) (.const (.string ⟨ ⟨[] ⟩ ⟩)) ⟩, ⟨ some 47, some (41, true), .pick (.tmp 44) (.const (.bool true)) (.tmp 46) ⟩, ⟨ some 48, some (38, false), .pick (.tmp 41) (.tmp 47) (.const (.bool false)) ⟩, ⟨ some 49, none, .pick (.tmp 38) (.const (.bool true)) (.tmp 48) ⟩]) (.cond (.tmp 49) (.seq (.ops [⟨ some 4, none, .mv (.const (.bool false)) ⟩]) .ret) .skip)) (.seq (.seq (.ops [⟨ some 50, none, .mv (.tmp 8) ⟩]) (.cond (.tmp 50) (.seq (.ops [⟨ some 52, none, .mv (.tmp 6) ⟩, ⟨ some 53, none, .mv (.tmp 1) ⟩, ⟨ some 54, none, .bin .add (.tmp 52) (.tmp 53) ⟩, ⟨ some 55, none, .call 85 [.tmp 54] ⟩, ⟨ some 51, none, .mv (.tmp 55) ⟩, ⟨ some 56, none, .extr (.tmp 51) 0 ⟩, ⟨ some 57, none, .extr (.tmp 51) 1 ⟩, ⟨ some 9, none, .alloc z36 ⟩, ⟨ none, none, .store 36 (.tmp 9) (.tmp 56) ⟩, ⟨ some 10, none, .mv (.tmp 57) ⟩]) (.seq (.ops [⟨ some 58, none, .mv (.tmp 6) ⟩, ⟨ some 59, none, .load (some 36) (.tmp 5) ⟩, ⟨ some 60, none, .call 86 [.tmp 59] ⟩, ⟨ some 61, none, .bin .neq (.tmp 58) (.tmp 60) ⟩, ⟨ some 62, none, .mv (.tmp 61) ⟩, ⟨ some 63, some (62, false), .load (some 36) (.tmp 9) ⟩, ⟨ some 64, some (62, false), .load (some 36) (.tmp 2) ⟩, ⟨ some 65, some (62, false), .eqa true (ckl 36) (.tmp 63) (.tmp 64) ⟩, ⟨ some 66, none, .pick (.tmp 62) (.const (.bool true)) (.tmp 65) ⟩, ⟨ some 67, none, .mv (.tmp 66) ⟩, ⟨ some 68, some (67, false), .mv (.tmp 10) ⟩, ⟨ some 69, some (67, false), .bin .neq (.tmp 68) (.const (.int .i64 0)) ⟩, ⟨ some 70, none, .pick (.tmp 67) (.const (.bool true)) (.tmp 69) ⟩]) (.cond (.tmp 70) (.seq (.ops [⟨ some 4, none, .mv (.const (.bool false)) ⟩]) .ret) .skip))) .skip)) (.seq (.ops [⟨ some 72, none, .mv (.tmp 1) ⟩, ⟨ some 73, none, .call 85 [.tmp 72] ⟩, ⟨ some 71, none, .mv (.tmp 73) ⟩, ⟨ some 74, none, .extr (.tmp 71) 0 ⟩, ⟨ some 75, none, .extr (.tmp 71) 1 ⟩, ⟨ some 11, none, .alloc z36 ⟩, ⟨ none, none, .store 36 (.tmp 11) (.tmp 74) ⟩, ⟨ some 12, none, .mv (.tmp 75) ⟩]) (.seq (.ops [⟨ some 77, none, .mv (.tmp 1) ⟩, ⟨ some 78, none, .call 87 [.tmp 77] ⟩, ⟨ some 76, none, .mv (.tmp 78) ⟩, ⟨ some 79, none, .extr (.tmp 76) 0 ⟩, ⟨ some 80, none, .extr (.tmp 76) 1 ⟩, ⟨ some 13, none, .alloc z36 ⟩, ⟨ none, none, .store 36 (.tmp 13) (.tmp 79) ⟩, ⟨ some 14, none, .mv (.tmp 80) ⟩]) (.seq (.ops [⟨ some 81, none, .load (some 36) (.tmp 11) ⟩, ⟨ some 82, none, .load (some 36) (.tmp 13) ⟩, ⟨ some 83, none, .eqa false (ckl 36) (.tmp 81) (.tmp 82) ⟩, ⟨ some 84, none, .mv (.tmp 83) ⟩, ⟨ some 85, some (84, true), .mv (.tmp 12) ⟩, ⟨ some 86, some (84, true), .mv (.tmp 14) ⟩, ⟨ some 87, some (84, true), .bin .eql (.tmp 85) (.tmp 86) ⟩, ⟨ some 88, none, .pick (.tmp 84) (.tmp 87) (.const (.bool false)) ⟩, ⟨ some 4, none, .mv (.tmp 88) ⟩]) .ret))))))))))
theorem k19 : compF Try.prog Try.f19 = some (c19, [4]) := by kernel_rfl
theorem n19 : Try.f19.ntmps = 89 := by kernel_rfl
structure Hd where
  a : Int
  b : Int
  c : Int
  n : Int
  hs : List UInt8
  deriving DecidableEq
def Hd.vs (x : Hd) : List Int := [x.a, x.b, x.c]
def hc (x : Hd) : List Value := [.int .i64 x.a, .int .i64 x.b, .int .i64 x.c, .int .i64 x.n] ++ ubs x.hs
def hv (x : Hd) : Value := .agg (hc x).toArray
theorem m_hv (x : Hd) : mcells (hv x) = some (hc x) := by simp [mcells, hv]
theorem m_hc (x : Hd) : mcells (.agg (hc x).toArray) = some (hc x) := by simp [mcells]
theorem hc_bel {n : Nat} {x : Hd} : ∀ v ∈ hc x, VBelow n v := fun v hv => by
  rcases List.mem_append.1 hv with hv | hv
  · simp at hv
    rcases hv with rfl | rfl | rfl | rfl <;> exact .int
  · exact ubs_bel v hv
theorem hv_below {n : Nat} {x : Hd} : VBelow n (hv x) := .agg fun i hi => by
  rw [toArray_getD]
  have hi' : i < (hc x).length := by simpa using hi
  simp only [List.getD, List.getElem?_eq_getElem hi', Option.getD_some]
  exact hc_bel _ (List.getElem_mem hi')
def rng (v : Int) : Prop := 0 ≤ v ∧ v ≤ 65535
instance (v : Int) : Decidable (rng v) := inferInstanceAs (Decidable (_ ∧ _))
def rightH (x : Hd) : Prop := (∀ j, j < 3 → rng (x.vs.getD j 0)) ∧ 0 ≤ x.n ∧ x.n ≤ 16777215
instance (x : Hd) : Decidable (rightH x) := inferInstanceAs (Decidable (_ ∧ _))
theorem vs_get (x : Hd) (j : Nat) (hj : j < 3) : ([.int .i64 x.a, .int .i64 x.b, .int .i64 x.c] : List Value)[j]? = some (.int .i64 (x.vs.getD j 0)) := by
  match j, hj with
  | 0, _ => rfl
  | 1, _ => rfl
  | 2, _ => rfl
theorem hc_cut3 (x : Hd) : acut (hc x) 0 3 = some [.int .i64 x.a, .int .i64 x.b, .int .i64 x.c] := by
  unfold acut hc
  rw [if_pos (by simp)]
  rfl
theorem hc3 (x : Hd) : (hc x)[3]? = some (.int .i64 x.n) := rfl
theorem hcj (x : Hd) (j : Nat) (hj : j < 3) : (hc x)[j]? = some (.int .i64 (x.vs.getD j 0)) := by
  match j, hj with
  | 0, _ => rfl
  | 1, _ => rfl
  | 2, _ => rfl
theorem hright_ok (x : Hd) (h : Heap) : ACalls Try.prog 84 [hv x] h fun v h' => v = .bool (decide (rightH x)) ∧ h' = h := by
  refine ACalls.same .bool (acalls_of mix Try.func84 k84 n84 (by simp) fun hcl hb => ?_)
  have hc1 : (h.push (.cells (hc x) .ex 1)).Closed := closed_push hcl hc_bel
  have hext := (Heap.Ext.refl h).push hcl (.cells (hc x) .ex 1)
  have c3 := hc_cut3 x
  simp [c84, m_hv, cellsOf_new, cellsOf_at, apart, c3]
  generalize hZ : h.push (.cells (hc x) .ex 1) = Z at *
  have hZn : Z.n = h.n + 1 := by rw [← hZ]; rfl
  have fZ : Z.cellsOf h.n = some (hc x, .ex, 1) := by rw [← hZ]; exact cellsOf_new _ _ _ _
  generalize hAG : ([.int .i64 x.a, .int .i64 x.b, .int .i64 x.c] : List Value) = AG at *
  have bag : ∀ n, VBelow n (.agg AG.toArray) := fun n => .agg fun i hi => by
    rw [toArray_getD]
    have hi' : i < AG.length := by simpa using hi
    have h3 : AG.length = 3 := by rw [← hAG]; rfl
    have := vs_get x i (by omega)
    rw [hAG] at this
    simp only [List.getD, this, Option.getD_some]
    exact .int
  refine awp_loop_of (α := Nat) (fun i => i ≤ 3 ∧ ∀ j, j < i → rng (x.vs.getD j 0)) (fun i => [(1, .pointer (some ⟨h.n, 0, none⟩)), (6, .agg AG.toArray), (7, .int .i64 i)]) (fun _ => Z) (fun i => 3 - i) 0
    ⟨by omega, fun j hj => by omega⟩ ⟨by omega, Nat.le_refl _, fun _ _ e => e, hc1⟩ (by simp; exact ⟨.ptr (by show h.n < Z.n; omega), bag _, .int⟩) ?_
  rintro i ⟨hi, hall⟩
  by_cases hi3 : i < 3
  · have hi' : (i : Int) < 3 := by omega
    have hw : IntKind.i64.wrap ((i : Int) + 1) = ((i + 1 : Nat) : Int) := by rw [i64_small (by omega) (by omega)]; omega
    have g := vs_get x i hi3
    rw [hAG] at g
    by_cases h0 : x.vs.getD i 0 < 0
    · have : ¬ rightH x := fun q => by have := (q.1 i hi3).1; omega
      rw [decide_eq_false this]
      generalize x.vs.getD i 0 = y at *
      simp [hi', aidx_of hi3, apart, g, h0]; exact hext
    by_cases h1 : 65535 < x.vs.getD i 0
    · have : ¬ rightH x := fun q => by have := (q.1 i hi3).2; omega
      rw [decide_eq_false this]
      generalize x.vs.getD i 0 = y at *
      simp [hi', aidx_of hi3, apart, g, h0, h1]; exact hext
    have hr : rng (x.vs.getD i 0) := ⟨by omega, by omega⟩
    have hall' : ∀ j, j < i + 1 → rng (x.vs.getD j 0) := fun j hj => by
      by_cases hji : j = i
      · rw [hji]; exact hr
      · exact hall j (by omega)
    generalize x.vs.getD i 0 = y at *
    simp [hi', aidx_of hi3, apart, g, h0, h1]
    exact ⟨i + 1, by omega, ⟨by omega, fun j hj => by simpa using hall' j hj⟩, ⟨by omega, Nat.le_refl _, fun _ _ e => e, hc1⟩, .ptr (by show h.n < Z.n; omega), bag _, hw, .int⟩
  · have hie : i = 3 := by omega
    subst hie
    have g3 := hc3 x
    have hd : decide (rightH x) = (decide (0 ≤ x.n) && decide (x.n ≤ 16777215)) := by
      rw [← Bool.decide_and]
      exact decide_eq_decide.2 ⟨fun q => q.2, fun q => ⟨hall, q⟩⟩
    rw [hd]
    by_cases h0 : 0 ≤ x.n
    · simp [fZ, apart, g3, h0]; exact hext
    · simp [fZ, apart, g3, h0]; exact hext
theorem hrefRight_ok (x : Hd) (h : Heap) : ACalls Try.prog 83 [hv x] h fun v h' => v = .bool (decide (rightH x)) ∧ h' = h := by
  refine ACalls.same .bool (acalls_of mix Try.func83 k83 n83 (by simp) fun hcl hb => ?_)
  have hc1 : (h.push (.cells (hc x) .ex 1)).Closed := closed_push hcl hc_bel
  have hext := (Heap.Ext.refl h).push hcl (.cells (hc x) .ex 1)
  simp [c83, m_hv]
  generalize hZ : h.push (.cells (hc x) .ex 1) = Z at *
  have hZn : Z.n = h.n + 1 := by rw [← hZ]; rfl
  have fZ : Z.cellsOf h.n = some (hc x, .ex, 1) := by rw [← hZ]; exact cellsOf_new _ _ _ _
  refine awp_loop_of (α := Nat) (fun i => i ≤ 3 ∧ ∀ j, j < i → rng (x.vs.getD j 0)) (fun i => [(1, .pointer (some ⟨h.n, 0, none⟩)), (3, .int .i64 i)]) (fun _ => Z) (fun i => 3 - i) 0
    ⟨by omega, fun j hj => by omega⟩ ⟨by omega, Nat.le_refl _, fun _ _ e => e, hc1⟩ (by simp; exact ⟨.ptr (by show h.n < Z.n; omega), .int⟩) ?_
  rintro i ⟨hi, hall⟩
  by_cases hi3 : i < 3
  · have hi' : (i : Int) < 3 := by omega
    have hw : IntKind.i64.wrap ((i : Int) + 1) = ((i + 1 : Nat) : Int) := by rw [i64_small (by omega) (by omega)]; omega
    have g := hcj x i hi3
    by_cases h0 : x.vs.getD i 0 < 0
    · have : ¬ rightH x := fun q => by have := (q.1 i hi3).1; omega
      rw [decide_eq_false this]
      generalize x.vs.getD i 0 = y at *
      simp [hi', aidx_of hi3, apart, fZ, g, h0]; exact hext
    by_cases h1 : 65535 < x.vs.getD i 0
    · have : ¬ rightH x := fun q => by have := (q.1 i hi3).2; omega
      rw [decide_eq_false this]
      generalize x.vs.getD i 0 = y at *
      simp [hi', aidx_of hi3, apart, fZ, g, h0, h1]; exact hext
    have hr : rng (x.vs.getD i 0) := ⟨by omega, by omega⟩
    have hall' : ∀ j, j < i + 1 → rng (x.vs.getD j 0) := fun j hj => by
      by_cases hji : j = i
      · rw [hji]; exact hr
      · exact hall j (by omega)
    generalize x.vs.getD i 0 = y at *
    simp [hi', aidx_of hi3, apart, fZ, g, h0, h1]
    exact ⟨i + 1, by omega, ⟨by omega, fun j hj => by simpa using hall' j hj⟩, ⟨by omega, Nat.le_refl _, fun _ _ e => e, hc1⟩, .ptr (by show h.n < Z.n; omega), hw, .int⟩
  · have hie : i = 3 := by omega
    subst hie
    have g3 := hc3 x
    have hd : decide (rightH x) = (decide (0 ≤ x.n) && decide (x.n < 16777216)) := by
      rw [← Bool.decide_and]
      exact decide_eq_decide.2 ⟨fun q => ⟨q.2.1, by have := q.2.2; omega⟩, fun q => ⟨hall, q.1, by omega⟩⟩
    rw [hd]
    by_cases h0 : 0 ≤ x.n
    · simp [fZ, apart, g3, h0]; exact hext
    · simp [fZ, apart, g3, h0]; exact hext
def putH (x : Hd) : List UInt8 := [84, 82, 73, 80] ++ (x.vs.flatMap fun k => bN 2 k.toNat) ++ bN 4 x.n.toNat ++ x.hs ++ [0, 0]
theorem abytes_ubs : ∀ l : List UInt8, abytes (ubs l) = some l
  | [] => rfl
  | c :: l => by
    show (abytes (ubs l)).map (UInt8.ofNat ((c.toNat : Int)).toNat :: ·) = _
    rw [abytes_ubs l]
    simp
theorem hc_cut32 (x : Hd) (hx : x.hs.length = 32) : acut (hc x) 4 32 = some (ubs x.hs) := by
  unfold acut hc
  rw [if_pos (by simp [ubs_len, hx])]
  simp only [Option.some.injEq]
  show List.take 32 (ubs x.hs) = _
  rw [List.take_of_length_le (by rw [ubs_len, hx]; omega)]
theorem sl_vs {H : Heap} {b : Nat} {x : Hd} {m : BMode} (hb : H.cellsOf b = some (hc x, m, 1)) : Sl cI H (.slice (some ⟨b, 0, none⟩) 3 3) x.vs :=
  .inr ⟨b, 0, 3, hc x, m, 1, rfl, hb, Nat.le_refl _, fun _ => by simp [hc, Hd.vs], fun i hi => by
    rw [Nat.zero_add, hcj x i hi]
    rw [List.getD, List.getElem?_eq_getElem hi]; rfl⟩
theorem sl_1 (H : Heap) (n : Int) : Sl cI (H.push (.cells [.int .i64 n] .ex 1)) (.slice (some ⟨H.n, 0, none⟩) 1 1) [n] :=
  .inr ⟨H.n, 0, 1, [.int .i64 n], .ex, 1, rfl, cellsOf_new _ _ _ _, Nat.le_refl _, fun _ => by simp, fun i hi => by
    have : i = 0 := by simpa using hi
    subst this; rfl⟩
theorem sl_new3 (H : Heap) (x : Hd) : Sl cI (H.push (.cells [.int .i64 x.a, .int .i64 x.b, .int .i64 x.c] .ex 1)) (.slice (some ⟨H.n, 0, none⟩) 3 3) x.vs :=
  .inr ⟨H.n, 0, 3, [.int .i64 x.a, .int .i64 x.b, .int .i64 x.c], .ex, 1, rfl, cellsOf_new _ _ _ _, Nat.le_refl _, fun _ => by simp [Hd.vs], fun i hi => by
    rw [Nat.zero_add, vs_get x i hi, List.getD, List.getElem?_eq_getElem hi]; rfl⟩
theorem fits2 {k : Int} (h : rng k) : fits 2 k := by
  obtain ⟨m, rfl⟩ : ∃ m : Nat, k = m := ⟨k.toNat, by have := h.1; omega⟩
  exact fits_lt.2 (by have := h.2; show m < 65536; omega)
theorem fits4 {k : Int} (h : 0 ≤ k ∧ k ≤ 16777215) : fits 4 k := by
  obtain ⟨m, rfl⟩ : ∃ m : Nat, k = m := ⟨k.toNat, by have := h.1; omega⟩
  exact fits_lt.2 (by have := h.2; show m < 4294967296; omega)
theorem vs_rng {x : Hd} (h : rightH x) : ∀ k ∈ x.vs, rng k := fun k hk => by
  obtain ⟨i, hi, rfl⟩ := List.mem_iff_getElem.1 hk
  have := h.1 i hi
  rw [List.getD, List.getElem?_eq_getElem hi] at this
  exact this
theorem out2 {x : Hd} (h : rightH x) : putOut 2 x.vs = .tuple #[.string (bs (x.vs.flatMap fun k => bN 2 k.toNat)), .int .i64 0] := by
  have hf : ∀ k ∈ x.vs, fits 2 k := fun k hk => fits2 (vs_rng h k hk)
  unfold putOut
  rw [if_neg (by omega)]
  have e : (2 : Int).toNat = 2 := rfl
  rw [e, if_pos hf, putStr 2 _ hf]
theorem out4 {x : Hd} (h : rightH x) : putOut 4 [x.n] = .tuple #[.string (bs (bN 4 x.n.toNat)), .int .i64 0] := by
  have hf : ∀ k ∈ [x.n], fits 4 k := fun k hk => by simp at hk; rw [hk]; exact fits4 h.2
  unfold putOut
  rw [if_neg (by omega)]
  have e : (4 : Int).toNat = 4 := rfl
  rw [e, if_pos hf, putStr 4 _ hf]
  simp
theorem bs_mk (l : List UInt8) : (⟨l.toArray⟩ : ByteArray) = bs l := rfl
def putV (x : Hd) : Value := if rightH x then .tuple #[.string (bs (putH x)), .int .i64 0] else .tuple #[.string (bs []), .int .i64 1]
theorem putV_below {n : Nat} {x : Hd} : VBelow n (putV x) := by unfold putV; split <;> exact vb_tuple2 .string .int
theorem hput_ok (x : Hd) (hx : x.hs.length = 32) (h : Heap) : ACalls Try.prog 82 [hv x] h fun v h' => v = putV x ∧ h' = h := by
  refine ACalls.same putV_below (acalls_of mix Try.func82 k82 n82 (by simp) fun hcl hb => ?_)
  have hc1 : (h.push (.cells (hc x) .ex 1)).Closed := closed_push hcl hc_bel
  have hext := (Heap.Ext.refl h).push hcl (.cells (hc x) .ex 1)
  have hlen : (hc x).length = 36 := by simp [hc, ubs_len, hx]
  have c36 := acut_full hlen
  have c32 := hc_cut32 x hx
  have h32 : (ubs x.hs).length = 32 := by rw [ubs_len, hx]
  simp [c82, m_hv, cellsOf_new, cellsOf_at, apart, c36]
  have hag : Value.agg (hc x).toArray = hv x := rfl
  rw [hag]
  refine (hright_ok x _).mono ?_
  rintro _ h9 ⟨rfl, e⟩
  rw [e]
  clear e h9
  by_cases hR : rightH x
  case neg =>
    simp [aun, hR, putV]
    exact ⟨rfl, hext⟩
  have ab3 : abounds 3 3 none none none = some (0, 3, 3) := rfl
  have ab32 : abounds 32 32 none none none = some (0, 32, 32) := rfl
  simp [aun, hR, ab3]
  refine (put_ok 2 x.vs _ _ (sl_vs (cellsOf_new _ _ _ _)) (by simp [Hd.vs])).mono ?_
  rintro _ h9 ⟨rfl, e⟩
  rw [e]
  clear e h9
  rw [out2 hR]
  have fil : afill [.int .i64 0] [(0, 1, .int .i64 x.n)] = some [.int .i64 x.n] := rfl
  have g3 := hc3 x
  simp [cellsOf_new, apart, g3, fil]
  refine (put_ok 4 [x.n] _ _ (sl_1 _ _) (by simp)).mono ?_
  rintro _ h9 ⟨rfl, e⟩
  rw [e]
  clear e h9
  rw [out4 hR]
  have hf : ∀ o, afirst ((h.push (.cells (hc x) .ex 1)).push o) 1 32 (.slice (some ⟨h.n, 4, none⟩) 32 32) = some (ubs x.hs) := fun o => by
    simp [afirst, cellsOf_ne, cellsOf_new, c32]
  have l1 : (x.vs.flatMap fun k => bN 2 k.toNat).length = 6 := by rw [bytes_len]; rfl
  have l2 : (bN 4 x.n.toNat).length = 4 := bN_len _ _
  have hP : putV x = .tuple #[.string (bs (putH x)), .int .i64 0] := if_pos hR
  have hPd : putH x = [84, 82, 73, 80] ++ (x.vs.flatMap fun k => bN 2 k.toNat) ++ bN 4 x.n.toNat ++ x.hs ++ [0, 0] := rfl
  rw [hP, hPd]
  generalize (x.vs.flatMap fun k => bN 2 k.toNat) = L1 at *
  generalize bN 4 x.n.toNat = L2 at *
  simp [bs_lit, bs_append, bs_size, l1, l2, ab32, hf, abytes_ubs, bs_mk, hx]
  exact hext.push hcl _
theorem hcb (x : Hd) (j : Nat) (hj : j < 32) (hx : x.hs.length = 32) : (hc x)[4 + j]? = some (.int .u8 ((x.hs.getD j 0).toNat : Int)) := by
  unfold hc
  rw [List.getElem?_append_right (by simp), show 4 + j - ([Value.int .i64 x.a, .int .i64 x.b, .int .i64 x.c, .int .i64 x.n] : List Value).length = j by simp]
  unfold ubs
  rw [List.getElem?_map, List.getD, List.getElem?_eq_getElem (by omega)]
  rfl
theorem hrefPut_ok (x : Hd) (hx : x.hs.length = 32) (hR : rightH x) (h : Heap) : ACalls Try.prog 86 [hv x] h fun v h' => v = .string (bs (putH x)) ∧ h' = h := by
  refine ACalls.same .string (acalls_of mix Try.func86 k86 n86 (by simp) fun hcl hb => ?_)
  have hc1 : (h.push (.cells (hc x) .ex 1)).Closed := closed_push hcl hc_bel
  have hext := (Heap.Ext.refl h).push hcl (.cells (hc x) .ex 1)
  have y0 : aidx (.int .i64 0) 3 = some 0 := rfl
  have y1 : aidx (.int .i64 1) 3 = some 1 := rfl
  have y2 : aidx (.int .i64 2) 3 = some 2 := rfl
  have g0 : (hc x)[0]? = some (.int .i64 x.a) := rfl
  have g1 : (hc x)[1]? = some (.int .i64 x.b) := rfl
  have g2 : (hc x)[2]? = some (.int .i64 x.c) := rfl
  have g3 := hc3 x
  have fil3 : afill [.int .i64 0, .int .i64 0, .int .i64 0] [(0, 1, .int .i64 x.a), (1, 1, .int .i64 x.b), (2, 1, .int .i64 x.c)] = some [.int .i64 x.a, .int .i64 x.b, .int .i64 x.c] := rfl
  simp [c86, m_hv, cellsOf_new, apart, y0, y1, y2, g0, g1, g2, fil3]
  have hZn : (h.push (.cells (hc x) .ex 1)).n = h.n + 1 := rfl
  have fZ : (h.push (.cells (hc x) .ex 1)).cellsOf h.n = some (hc x, .ex, 1) := cellsOf_new _ _ _ _
  generalize hZ : h.push (.cells (hc x) .ex 1) = Z at *
  have sl3 : Sl cI (Z.push (.cells [.int .i64 x.a, .int .i64 x.b, .int .i64 x.c] .ex 1)) (.slice (some ⟨h.n + 1, 0, none⟩) 3 3) x.vs := by
    have := sl_new3 Z x
    rw [hZn] at this
    exact this
  refine (refPut_ok 2 x.vs _ _ sl3 (by simp [Hd.vs]) (fun k hk => by have := vs_rng hR k hk; have h1 := this.1; have h2 := this.2; omega)).mono' ?_
  rintro _ H1 hcl1 bv1 ⟨rfl, hs1⟩
  rw [out2 hR]
  have hcZ1 : (Z.push (.cells [.int .i64 x.a, .int .i64 x.b, .int .i64 x.c] .ex 1)).Closed := closed_push hc1 (fun v hv => by simp at hv; rcases hv with rfl | rfl | rfl <;> exact .int)
  have hin1 : ∀ b ob, Z.m b = some ob → H1.m b = some ob := fun b ob e => hs1.sub b ob (by rw [push_m, if_neg (by have := (hc1 b ob e).1; omega)]; exact e)
  have f1 : H1.cellsOf h.n = some (hc x, .ex, 1) := cellsOf_keep hin1 fZ
  have hn1 : Z.n + 1 ≤ H1.n := hs1.hi
  have fil : afill [.int .i64 0] [(0, 1, .int .i64 x.n)] = some [.int .i64 x.n] := rfl
  simp [f1, apart, g3, fil]
  refine (refPut_ok 4 [x.n] _ _ (sl_1 _ _) (by simp) (fun k hk => by simp at hk; have := hR.2; omega)).mono' ?_
  rintro _ H2 hcl2 bv2 ⟨rfl, hs2⟩
  rw [out4 hR]
  have hin2 : ∀ b ob, Z.m b = some ob → H2.m b = some ob := fun b ob e => hs2.sub b ob (by rw [push_m, if_neg (by have := (hcl1 b ob (hin1 b ob e)).1; omega)]; exact hin1 b ob e)
  have f2 : H2.cellsOf h.n = some (hc x, .ex, 1) := cellsOf_keep hin2 fZ
  have hn2 : H1.n + 1 ≤ H2.n := hs2.hi
  have fil0 : afill [] [] = some [] := rfl
  simp [fil0]
  have l1 : (x.vs.flatMap fun k => bN 2 k.toNat).length = 6 := by rw [bytes_len]; rfl
  have l2 : (bN 4 x.n.toNat).length = 4 := bN_len _ _
  have hPd : putH x = [84, 82, 73, 80] ++ (x.vs.flatMap fun k => bN 2 k.toNat) ++ bN 4 x.n.toNat ++ x.hs ++ [0, 0] := rfl
  rw [hPd]
  generalize (x.vs.flatMap fun k => bN 2 k.toNat) = L1 at *
  generalize bN 4 x.n.toNat = L2 at *
  have hold : ∀ {k l v H}, Own H2 1 k l v H → ∀ o, (H.push o).cellsOf h.n = some (hc x, .ex, 1) := fun o ob => by
    rw [cellsOf_ne (by have := o.1; omega)]
    have := o.old (b := h.n) (by omega)
    unfold Heap.cellsOf at f2 ⊢
    rw [this]; exact f2
  have hold0 : ∀ {k l v H}, Own H2 1 k l v H → H.cellsOf h.n = some (hc x, .ex, 1) := fun o => by
    have := o.old (b := h.n) (by omega)
    unfold Heap.cellsOf at f2 ⊢
    rw [this]; exact f2
  have bpt : ∀ {k l v H}, Own H2 1 k l v H → VBelow H.n (.pointer (some ⟨h.n, 0, none⟩)) := fun o => .ptr (by have := o.1; show h.n < _; omega)
  refine awp_loop_of (α := Nat × Value × Heap) (fun y => y.1 ≤ 32 ∧ Own H2 1 (x.hs.take y.1).length (ubs (x.hs.take y.1)) y.2.1 y.2.2)
    (fun y => [(1, .pointer (some ⟨h.n, 0, none⟩)), (3, .string (bs L1)), (5, .string (bs L2)), (7, y.2.1), (8, .int .i64 y.1)]) (fun y => y.2.2) (fun y => 32 - y.1) (0, .slice (some ⟨H2.n, 0, none⟩) 0 0, H2.push (.cells [] .ex 1))
    ⟨by show 0 ≤ 32; omega, Own.made H2 1⟩ ⟨by show h.n ≤ H2.n + 1; omega, Nat.le_refl _, fun _ _ e => e, closed_push hcl2 (fun x hx => by cases hx)⟩ (by simp; exact ⟨.ptr (by show h.n < H2.n + 1; omega), .string, .string, .slice (Nat.lt_succ_self _), .int⟩) ?_
  rintro ⟨k, v, H⟩ ⟨hk, ho⟩
  dsimp only at hk ho
  have hclH := ho.closed hcl2 ubs_bel
  by_cases hk32 : k < 32
  · have hk' : (k : Int) < 32 := by omega
    have hw : IntKind.i64.wrap ((k : Int) + 1) = ((k + 1 : Nat) : Int) := by rw [i64_small (by omega) (by omega)]; omega
    have hg := hcb x k hk32 hx
    have hnx : x.hs.take k ++ [x.hs.getD k 0] = x.hs.take (k + 1) := by
      rw [List.take_succ_eq_append_getElem (by omega), List.getD, List.getElem?_eq_getElem (by omega)]
      rfl
    obtain ⟨a, c, rfl, v2, H4, H5, happ2, ho2, hn5, hin5⟩ := own_byte (w := x.hs.getD k 0) ho hcl2 (H' := H.push (.cells [.int .u8 ((x.hs.getD k 0).toNat : Int)] .ex 1)) (Nat.le_succ _) (in_push (fun b ob e => (hclH b ob e).1) (fun _ _ e => e) _) (by rw [List.length_take]; omega)
    rw [hnx] at ho2
    have fH := hold0 ho
    have e0 : eb (x.hs.getD k 0) = .int .u8 ((x.hs.getD k 0).toNat : Int) := rfl
    rw [e0] at happ2
    have fil1 : ∀ c : UInt8, afill [.int .u8 0] [(0, 1, .int .u8 (c.toNat : Int))] = some [.int .u8 (c.toNat : Int)] := fun _ => rfl
    have hge2 := ho2.1
    generalize x.hs.getD k 0 = w at *
    generalize (x.hs.take k).length = lk at *
    simp [hk', fH, apart, aidx_of hk32, hg, fil1, first1, alen, happ2]
    exact ⟨k + 1, by omega, v2, H5, ⟨by omega, by simpa using ho2⟩, ⟨by omega, by omega, hin5, ho2.closed hcl2 ubs_bel⟩, bpt ho2, .string, .string, ⟨rfl, ho2.below⟩, hw, .int⟩
  · have hke : k = 32 := by omega
    subst hke
    have ht : x.hs.take 32 = x.hs := List.take_of_length_le (by omega)
    rw [ht] at ho
    obtain ⟨xb, ob, cap, cx, md, e, hge, rfl, hcx, _, hcap, hcut⟩ := buf_own ho (by intro q; rw [q] at hx; simp at hx)
    have hb := cellsOf_lt hclH hcx
    rw [hx] at hcut ⊢
    have fil2 : afill [.int .u8 0, .int .u8 0] [(0, 1, .int .u8 0), (1, 1, .int .u8 0)] = some (ubs [0, 0]) := rfl
    have hf2 : ∀ H : Heap, afirst (H.push (.cells (ubs [0, 0]) .ex 1)) 1 2 (.slice (some ⟨H.n, 0, none⟩) 2 2) = some (ubs [0, 0]) := fun H => by
      simp [afirst, cellsOf_new]; rfl
    have hf1 : afirst H 1 32 (.slice (some ⟨xb, ob, none⟩) 32 cap) = some (ubs x.hs) := by simp [afirst, hcx, hcut]
    simp [hf1, abytes_ubs, bs_mk, bs_lit, bs_append, bs_size, l1, l2, hx, fil2, hf2]
    have hE : h.Ext H := ⟨by have := ho.1; omega, fun y o e => by
      have q := hin2 y o (hext.m y o e)
      rw [ho.old ((hcl2 y o q).1)]
      exact q⟩
    exact hE.push hcl _
def z32 : List UInt8 := List.replicate 32 0
theorem z32_len : z32.length = 32 := List.length_replicate
def zH : Hd := ⟨0, 0, 0, 0, z32⟩
theorem z36_eq : z36 = hc zH := by
  unfold z36 hc zH zl ubs z32
  congr 1
def parseH (s : List UInt8) : Hd := ⟨(tkN ((s.drop 4).take 2) : Int), (tkN ((s.drop 6).take 2) : Int), (tkN ((s.drop 8).take 2) : Int), (tkN ((s.drop 10).take 4) : Int), (s.drop 14).take 32⟩
def getH (s : List UInt8) : Hd × Int := if s.length < 48 then (zH, 13) else if rightH (parseH s) ∧ putH (parseH s) = s.take 48 then (parseH s, 0) else (zH, 6)
theorem take_head {s : List UInt8} (hs : ¬ s.length < 48) : takeR (s.drop 4) [2, 2, 2, 4] = ([(parseH s).a, (parseH s).b, (parseH s).c, (parseH s).n], 0) := by
  unfold takeR
  have e1 : bad [2, 2, 2, 4] = false := by decide
  have e2 : sumN (nats [2, 2, 2, 4]) = 10 := by decide
  have e3 : nats [2, 2, 2, 4] = [2, 2, 2, 4] := by decide
  rw [e1, e2, e3, List.length_drop]
  rw [if_neg (by decide), if_neg (by omega)]
  simp only [tkL, parseH, List.drop_drop]
theorem take_head2 {s : List UInt8} (hs : ¬ s.length < 48) : takeR ((s.take 14).drop 4) [2, 2, 2, 4] = ([(parseH s).a, (parseH s).b, (parseH s).c, (parseH s).n], 0) := by
  unfold takeR
  have e1 : bad [2, 2, 2, 4] = false := by decide
  have e2 : sumN (nats [2, 2, 2, 4]) = 10 := by decide
  have e3 : nats [2, 2, 2, 4] = [2, 2, 2, 4] := by decide
  rw [e1, e2, e3, List.length_drop, List.length_take]
  rw [if_neg (by decide), if_neg (by omega)]
  simp only [tkL, parseH, List.drop_drop, List.drop_take, List.take_take]
  rfl
theorem parse_len {s : List UInt8} (hs : ¬ s.length < 48) : (parseH s).hs.length = 32 := by
  show ((s.drop 14).take 32).length = 32
  rw [List.length_take, List.length_drop]
  omega
theorem fst4 {H : Heap} {v : Value} {a b c n : Int} (hl : Sl cI H v [a, b, c, n]) : afirst H 1 3 v = some [.int .i64 a, .int .i64 b, .int .i64 c] ∧ ∃ b1 o1 c1 m1 e1 cap, v = .slice (some ⟨b1, o1, none⟩) 4 cap ∧ H.cellsOf b1 = some (c1, m1, e1) ∧ c1[o1 + 3]? = some (.int .i64 n) ∧ c1[o1]? = some (.int .i64 a) ∧ c1[o1 + 1]? = some (.int .i64 b) ∧ c1[o1 + 2]? = some (.int .i64 c) := by
  rcases hl with ⟨c, _, h2⟩ | ⟨b1, o, cap, c1, m, e, rfl, hc, h1, h2, h3⟩
  · cases h2
  · have := h2 (by simp)
    have q0 := h3 0 (by simp)
    have q1 := h3 1 (by simp)
    have q2 := h3 2 (by simp)
    have q3 := h3 3 (by simp)
    simp at q0 q1 q2 q3 this
    refine ⟨?_, b1, o, c1, m, e, cap, rfl, hc, q3, q0, q1, q2⟩
    simp only [afirst, hc, if_true, Nat.mul_one]
    unfold acut
    rw [if_pos (by omega)]
    simp only [Option.some.injEq]
    refine List.ext_getElem? fun i => ?_
    rw [List.getElem?_take]
    split
    · rename_i hi
      rw [List.getElem?_drop]
      rcases (show i = 0 ∨ i = 1 ∨ i = 2 by omega) with rfl | rfl | rfl
      · rw [Nat.add_zero, q0]; rfl
      · rw [q1]; rfl
      · rw [q2]; rfl
    · rw [List.getElem?_eq_none (by simp; omega)]
theorem z36_len : z36.length = 36 := by simp [z36, zl]
theorem z36_bel {n : Nat} : ∀ v ∈ z36, VBelow n v := fun v hv => by rw [z36_eq] at hv; exact hc_bel v hv
theorem z36_hi {i : Nat} {n : Int} (h : z36[i]? = some (.int .i64 n)) : i < 4 ∧ n = 0 := by
  unfold z36 at h
  by_cases hi : i < 4
  · refine ⟨hi, ?_⟩
    match i, hi with
    | 0, _ => simp at h; exact h.symm
    | 1, _ => simp at h; exact h.symm
    | 2, _ => simp at h; exact h.symm
    | 3, _ => simp at h; exact h.symm
  · rw [List.getElem?_append_right (by simp; omega)] at h
    have : (Value.int .i64 n) ∈ zl .u8 32 := List.mem_of_getElem? h
    have := List.eq_of_mem_replicate this
    simp at this
theorem copy3 {a b c : Int} : aput z36 0 [.int .i64 a, .int .i64 b, .int .i64 c] = hc ⟨a, b, c, 0, z32⟩ := by
  rw [z36_eq]
  rfl
theorem store3 {a b c n : Int} {l : List UInt8} : aput (hc ⟨a, b, c, 0, l⟩) 3 [.int .i64 n] = hc ⟨a, b, c, n, l⟩ := rfl
theorem copy32 {a b c n : Int} {l l' : List UInt8} (h : l.length = 32) (h' : l'.length = 32) : aput (hc ⟨a, b, c, n, l⟩) 4 (ubs l') = hc ⟨a, b, c, n, l'⟩ := by
  unfold aput hc
  rw [ubs_len, h', List.drop_eq_nil_of_le (by simp [ubs_len, h]), List.append_nil]
  rfl
theorem strFirst2 (H : Heap) (U : List UInt8) (n : Nat) : afirst H 1 n (.string (bs U)) = some (ubs (U.take n)) := by
  simp [afirst, bs_data, ubs]
  rfl
theorem hget_ok (s : List UInt8) (hs40 : s.length ≤ 1000000) (h : Heap) : ACalls Try.prog 85 [.string (bs s)] h fun v h' => v = .tuple #[hv (getH s).1, .int .i64 (getH s).2] ∧ h' = h := by
  refine ACalls.same (vb_tuple2 hv_below .int) (acalls_ofR mix Try.func85 k85 n85 (by simp) fun hcl hb => ?_)
  have hlen : ∀ x : Hd, x.hs.length = 32 → (hc x).length = 36 := fun x hx => by simp [hc, ubs_len, hx]
  have hz := z36_len
  have hbsz := bs_size s
  have hZl : (hc zH).length = 36 := hlen zH z32_len
  have hpz : ∀ x : Hd, x.hs.length = 32 → aput z36 0 (hc x) = hc x := fun x hx => aput_all _ _ (by rw [hlen x hx, z36_len])
  have fil : afill z36 [] = some (hc zH) := by rw [← z36_eq]; rfl
  have hpZ := hpz zH z32_len
  have c36Z := acut_full hZl
  by_cases hsh : s.length < 48
  · have hG : getH s = (zH, 13) := if_pos hsh
    have hsh' : (s.length : Int) < 48 := by omega
    rw [hG]
    simp [c85, hbsz, hsh', fil, m_hc, hZl, hpZ, set_at, cellsOf_at, hz, apart, c36Z]
    exact ⟨rfl, (Heap.Ext.refl h).push hcl _⟩
  have hsh' : ¬ (s.length : Int) < 48 := by omega
  have abl : abounds s.length s.length (some (.int .i64 4)) none none = some (4, s.length, s.length) := abounds_lo (k := 4) (by omega)
  have fil4 : afill [.int .i64 0, .int .i64 0, .int .i64 0, .int .i64 0] [(0, 1, .int .i64 2), (1, 1, .int .i64 2), (2, 1, .int .i64 2), (3, 1, .int .i64 4)] = some ([2, 2, 2, 4].map cI) := rfl
  have hcZ1 : (h.push (.cells z36 .ex 1)).Closed := closed_push hcl z36_bel
  have hcZ2 : ((h.push (.cells z36 .ex 1)).push (.cells z36 .ex 1)).Closed := closed_push hcZ1 z36_bel
  have hdt : (s.take s.length).drop 4 = s.drop 4 := by rw [List.take_length]
  simp only [c85, s_seq, s_ops]
  simp [hbsz, hsh', abl, fil4, bs_extract, hdt]
  have f1 : ((h.push (.cells z36 .ex 1)).push (.cells z36 .ex 1)).cellsOf h.n = some (z36, .ex, 1) := by rw [cellsOf_ne (by show ¬ h.n = h.n + 1; omega)]; exact cellsOf_new _ _ _ _
  have f2 : ((h.push (.cells z36 .ex 1)).push (.cells z36 .ex 1)).cellsOf (h.n + 1) = some (z36, .ex, 1) := cellsOf_new _ _ _ _
  have hextZ := ((Heap.Ext.refl h).push hcl (.cells z36 .ex 1)).push hcl (.cells z36 .ex 1)
  have hZn : ((h.push (.cells z36 .ex 1)).push (.cells z36 .ex 1)).n = h.n + 1 + 1 := rfl
  generalize hZ : (h.push (.cells z36 .ex 1)).push (.cells z36 .ex 1) = Z at *
  have sl4 : Sl cI (Z.push (.cells ([2, 2, 2, 4].map cI) .ex 1)) (.slice (some ⟨Z.n, 0, none⟩) 4 4) [2, 2, 2, 4] :=
    .inr ⟨Z.n, 0, 4, _, .ex, 1, rfl, cellsOf_new _ _ _ _, Nat.le_refl _, fun _ => by simp, fun i hi => by
      rw [Nat.zero_add, List.getElem?_map, List.getElem?_eq_getElem hi]; rfl⟩
  rw [hZn] at sl4
  have hin0 : ∀ b ob, Z.m b = some ob → (Z.push (.cells ([2, 2, 2, 4].map cI) .ex 1)).m b = some ob := fun b ob e => by rw [push_m, if_neg (by have := (hcZ2 b ob e).1; omega)]; exact e
  refine (take_ok (s.drop 4) [2, 2, 2, 4] _ _ sl4 (by simp) (by rw [List.length_drop]; omega)).mono' ?_
  rintro _ H1 hcl1 bv1 ⟨⟨o, rfl, hlo⟩, hs1⟩
  rw [take_head hsh] at hlo ⊢
  have hps := parse_len hsh
  have hPe : parseH s = ⟨(parseH s).a, (parseH s).b, (parseH s).c, (parseH s).n, (parseH s).hs⟩ := rfl
  have hPh : (parseH s).hs = (s.drop 14).take 32 := rfl
  have hGd : getH s = if rightH (parseH s) ∧ putH (parseH s) = s.take 48 then (parseH s, 0) else (zH, 6) := if_neg hsh
  rw [hGd]
  generalize hPP : parseH s = P at *
  obtain ⟨hf3, b1, o1, cs1, m1, e1, cap1, rfl, hb1, q3, q0, q1, q2⟩ := fst4 hlo
  have hinZ : ∀ b ob, Z.m b = some ob → H1.m b = some ob := fun b ob e => hs1.sub b ob (hin0 b ob e)
  have g1 : H1.cellsOf h.n = some (z36, .ex, 1) := cellsOf_keep hinZ f1
  have g2 : H1.cellsOf (h.n + 1) = some (z36, .ex, 1) := cellsOf_keep hinZ f2
  have hn1 : h.n + 1 + 1 ≤ H1.n := by have := hs1.hi; have q : Z.n + 1 ≤ H1.n := this; omega
  -- the block of the numbers, behind the copy of three of them
  have hb1' : ∃ cs' m' e', (H1.set (h.n + 1) (.cells (hc ⟨P.a, P.b, P.c, 0, z32⟩) .ex 1)).cellsOf b1 = some (cs', m', e') ∧ cs'[o1 + 3]? = some (.int .i64 P.n) := by
    by_cases hbb : b1 = h.n + 1
    · subst hbb
      rw [g2] at hb1
      simp only [Option.some.injEq, Prod.mk.injEq] at hb1
      obtain ⟨rfl, rfl, rfl⟩ := hb1
      have r3 := z36_hi q3
      have r0 := z36_hi q0
      have r1 := z36_hi q1
      have r2 := z36_hi q2
      have ho : o1 = 0 := by omega
      refine ⟨_, _, _, cellsOf_set _ _ _ _ _, ?_⟩
      rw [ho, r3.2]
      rfl
    · exact ⟨cs1, m1, e1, by rw [cellsOf_set_ne hbb]; exact hb1, q3⟩
  obtain ⟨cs', m', e', hb1', q3'⟩ := hb1'
  have ab3 : abounds 3 3 none none none = some (0, 3, 3) := rfl
  have ab32 : abounds 32 32 none none none = some (0, 32, 32) := rfl
  have ab14 : abounds s.length s.length (some (.int .i64 14)) none none = some (14, s.length, s.length) := abounds_lo (k := 14) (by omega)
  have i3 : aidx (.int .i64 3) 4 = some 3 := rfl
  have hl36 : ∀ l : List UInt8, l.length = 32 → ∀ a b c n, (hc ⟨a, b, c, n, l⟩).length = 36 := fun l hl a b c n => hlen _ hl
  have hr32 : z32.length = 32 := z32_len
  have hdt14 : (s.take s.length).drop 14 = s.drop 14 := by rw [List.take_length]
  have hmin : min (s.length - 14) 32 = 32 := by omega
  have hsf := strFirst2 (H1.set (h.n + 1) (.cells (hc ⟨P.a, P.b, P.c, P.n, z32⟩) .ex 1)) (s.drop 14) 32
  rw [← hPh] at hsf
  have hbs14 : (bs (s.drop 14)).size = s.length - 14 := by rw [bs_size, List.length_drop]
  have hub : (ubs P.hs).length = 32 := by rw [ubs_len, hps]
  have halen : alen (.slice (some ⟨b1, o1, none⟩) 4 cap1) = some 4 := rfl
  have halen2 : alen (.string (bs (s.drop 14))) = some (s.length - 14) := by rw [← hbs14]; rfl
  have hcp := copy32 (a := P.a) (b := P.b) (c := P.c) (n := P.n) hr32 hps
  rw [← hPe] at hcp
  simp [ab3, halen, hf3, g2, hz, copy3, hb1', apart, q3', mcells, i3, cellsOf_set, hl36 _ hr32, store3, set_set, ab14, hbsz, bs_extract, hdt14, halen2, hmin, ab32, hsf, hub, hcp]
  have hP36 : (hc P).length = 36 := hlen P hps
  have c36P := acut_full hP36
  have hpP := hpz P hps
  have hagP : Value.agg (hc P).toArray = hv P := rfl
  have hE1 : h.Ext H1 := ⟨by omega, fun b ob e => hinZ b ob (hextZ.m b ob e)⟩
  have hE : ∀ o o', h.Ext ((H1.set (h.n + 1) o).set h.n o') := fun o o' => Heap.Ext.setNew (Heap.Ext.setNew hE1 hcl (by omega) _) hcl (Nat.le_refl _) _
  have ab48 : abounds s.length s.length none (some (.int .i64 48)) none = some (0, 48, s.length) := abounds_hi (k := 48) (by omega)
  have hne : ¬ h.n = h.n + 1 := by omega
  simp [c36P, hagP]
  refine (hput_ok P hps _).mono ?_
  rintro _ h9 ⟨rfl, e⟩
  rw [e]
  clear e h9
  by_cases hR : rightH P
  · have hV : putV P = .tuple #[.string (bs (putH P)), .int .i64 0] := if_pos hR
    rw [hV]
    by_cases hEq : putH P = s.take 48
    · have hd : decide (bs (putH P) = bs (s.take 48)) = true := decide_eq_true (by rw [hEq])
      simp [hR, hEq, ab48, hbsz, bs_extract, c36P, m_hc, hP36, g1, cellsOf_set_ne, hne, hz, hpP, cellsOf_set, apart]
      exact ⟨rfl, hE _ _⟩
    · have hd : decide (bs (putH P) = bs (s.take 48)) = false := decide_eq_false (by rw [bs_inj]; exact hEq)
      simp [hR, hEq, ab48, hbsz, bs_extract, hd, bs_inj, fil, m_hc, hZl, g1, cellsOf_set_ne, hne, hz, hpZ, cellsOf_set, apart, c36Z]
      exact ⟨rfl, hE _ _⟩
  · have hV : putV P = .tuple #[.string (bs []), .int .i64 1] := if_neg hR
    rw [hV]
    simp [hR, fil, m_hc, hZl, g1, cellsOf_set_ne, hne, hz, hpZ, cellsOf_set, apart, c36Z]
    exact ⟨rfl, hE _ _⟩
/-- a head of which the first bytes of the digest are known -/
def hk (P : Hd) (i : Nat) : Hd := ⟨P.a, P.b, P.c, P.n, P.hs.take i ++ List.replicate (32 - i) 0⟩
theorem hk_len {P : Hd} {i : Nat} (hP : P.hs.length = 32) (hi : i ≤ 32) : (hk P i).hs.length = 32 := by
  show (P.hs.take i ++ List.replicate (32 - i) 0).length = 32
  rw [List.length_append, List.length_take, List.length_replicate]
  omega
theorem hk_put {P : Hd} {i : Nat} (hP : P.hs.length = 32) (hi : i < 32) : aput (hc (hk P i)) (4 + i) [.int .u8 ((P.hs.getD i 0).toNat : Int)] = hc (hk P (i + 1)) := by
  have h1 : hc (hk P i) = [.int .i64 P.a, .int .i64 P.b, .int .i64 P.c, .int .i64 P.n] ++ bz (P.hs.take i) 32 := by
    show _ ++ ubs (P.hs.take i ++ List.replicate (32 - i) 0) = _
    rw [ubs_app]
    unfold bz
    congr 2
    rw [List.length_take, Nat.min_eq_left (by omega)]
    simp [ubs, zl]
    exact .inr rfl
  have h2 : hc (hk P (i + 1)) = [.int .i64 P.a, .int .i64 P.b, .int .i64 P.c, .int .i64 P.n] ++ bz (P.hs.take (i + 1)) 32 := by
    show _ ++ ubs (P.hs.take (i + 1) ++ List.replicate (32 - (i + 1)) 0) = _
    rw [ubs_app]
    unfold bz
    congr 2
    rw [List.length_take, Nat.min_eq_left (by omega)]
    simp [ubs, zl]
    exact .inr rfl
  have hl : (P.hs.take i).length = i := by rw [List.length_take]; omega
  have hput := bz_put (l := P.hs.take i) (n := 32) (by omega) (P.hs.getD i 0)
  rw [hl] at hput
  have hnx : P.hs.take i ++ [P.hs.getD i 0] = P.hs.take (i + 1) := by
    rw [List.take_succ_eq_append_getElem (by omega), List.getD, List.getElem?_eq_getElem (by omega)]
    rfl
  rw [hnx] at hput
  rw [h1, h2, ← hput]
  unfold aput
  have l4 : ([.int .i64 P.a, .int .i64 P.b, .int .i64 P.c, .int .i64 P.n] : List Value).length = 4 := rfl
  have le : ([.int .u8 ((P.hs.getD i 0).toNat : Int)] : List Value) = [eb (P.hs.getD i 0)] := rfl
  rw [List.take_append, List.drop_append, l4, List.take_of_length_le (by rw [l4]; omega), List.drop_eq_nil_of_le (by rw [l4]; omega), List.nil_append, show 4 + i - 4 = i by omega, le,
    show 4 + i + ([eb (P.hs.getD i 0)] : List Value).length - 4 = i + ([eb (P.hs.getD i 0)] : List Value).length by omega]
  simp only [List.append_assoc]
theorem hk_all {P : Hd} (hP : P.hs.length = 32) : hk P 32 = P := by
  unfold hk
  rw [List.take_of_length_le (by omega)]
  simp
theorem hk_nil {P : Hd} : hk P 0 = ⟨P.a, P.b, P.c, P.n, z32⟩ := rfl
theorem hrefGet_ok (s : List UInt8) (hs40 : s.length ≤ 1000000) (h : Heap) : ACalls Try.prog 87 [.string (bs s)] h fun v h' => v = .tuple #[hv (getH s).1, .int .i64 (getH s).2] ∧ h' = h := by
  refine ACalls.same (vb_tuple2 hv_below .int) (acalls_ofR mix Try.func87 k87 n87 (by simp) fun hcl hb => ?_)
  have hlen : ∀ x : Hd, x.hs.length = 32 → (hc x).length = 36 := fun x hx => by simp [hc, ubs_len, hx]
  have hz := z36_len
  have hbsz := bs_size s
  have hZl : (hc zH).length = 36 := hlen zH z32_len
  have hpz : ∀ x : Hd, x.hs.length = 32 → aput z36 0 (hc x) = hc x := fun x hx => aput_all _ _ (by rw [hlen x hx, z36_len])
  have fil : afill z36 [] = some (hc zH) := by rw [← z36_eq]; rfl
  have hpZ := hpz zH z32_len
  have c36Z := acut_full hZl
  by_cases hsh : s.length < 48
  · have hG : getH s = (zH, 13) := if_pos hsh
    have hsh' : (s.length : Int) < 48 := by omega
    rw [hG]
    simp [c87, hbsz, hsh', fil, m_hc, hZl, hpZ, set_at, cellsOf_at, hz, apart, c36Z]
    exact ⟨rfl, (Heap.Ext.refl h).push hcl _⟩
  have hsh' : ¬ (s.length : Int) < 48 := by omega
  have abl : abounds s.length s.length (some (.int .i64 4)) (some (.int .i64 14)) none = some (4, 14, s.length) := abounds_both (i := 4) (j := 14) (by omega) (by omega)
  have fil4 : afill [.int .i64 0, .int .i64 0, .int .i64 0, .int .i64 0] [(0, 1, .int .i64 2), (1, 1, .int .i64 2), (2, 1, .int .i64 2), (3, 1, .int .i64 4)] = some ([2, 2, 2, 4].map cI) := rfl
  have hcZ1 : (h.push (.cells z36 .ex 1)).Closed := closed_push hcl z36_bel
  have hcZ2 : ((h.push (.cells z36 .ex 1)).push (.cells (hc zH) .ex 1)).Closed := closed_push hcZ1 hc_bel
  simp only [c87, s_seq, s_ops]
  simp [hbsz, hsh', fil, m_hc, hZl, hpZ, set_at, hz, cellsOf_at, abl, fil4, bs_extract]
  have f1 : ((h.push (.cells z36 .ex 1)).push (.cells (hc zH) .ex 1)).cellsOf h.n = some (z36, .ex, 1) := by rw [cellsOf_ne (by show ¬ h.n = h.n + 1; omega)]; exact cellsOf_new _ _ _ _
  have f2 : ((h.push (.cells z36 .ex 1)).push (.cells (hc zH) .ex 1)).cellsOf (h.n + 1) = some (hc zH, .ex, 1) := cellsOf_new _ _ _ _
  have hextZ := ((Heap.Ext.refl h).push hcl (.cells z36 .ex 1)).push hcl (.cells (hc zH) .ex 1)
  have hZn : ((h.push (.cells z36 .ex 1)).push (.cells (hc zH) .ex 1)).n = h.n + 1 + 1 := rfl
  generalize hZ : (h.push (.cells z36 .ex 1)).push (.cells (hc zH) .ex 1) = Z at *
  have sl4 : Sl cI (Z.push (.cells ([2, 2, 2, 4].map cI) .ex 1)) (.slice (some ⟨Z.n, 0, none⟩) 4 4) [2, 2, 2, 4] :=
    .inr ⟨Z.n, 0, 4, _, .ex, 1, rfl, cellsOf_new _ _ _ _, Nat.le_refl _, fun _ => by simp, fun i hi => by
      rw [Nat.zero_add, List.getElem?_map, List.getElem?_eq_getElem hi]; rfl⟩
  rw [hZn] at sl4
  have hin0 : ∀ b ob, Z.m b = some ob → (Z.push (.cells ([2, 2, 2, 4].map cI) .ex 1)).m b = some ob := fun b ob e => by rw [push_m, if_neg (by have := (hcZ2 b ob e).1; omega)]; exact e
  refine (refTake_ok ((s.take 14).drop 4) [2, 2, 2, 4] _ _ sl4 (by simp) (by rw [List.length_drop, List.length_take]; omega)).mono' ?_
  rintro _ H1 hcl1 bv1 ⟨⟨o, rfl, hlo⟩, hs1⟩
  rw [take_head2 hsh] at hlo ⊢
  have hps := parse_len hsh
  have hPe : parseH s = ⟨(parseH s).a, (parseH s).b, (parseH s).c, (parseH s).n, (parseH s).hs⟩ := rfl
  have hPh : (parseH s).hs = (s.drop 14).take 32 := rfl
  have hGd : getH s = if rightH (parseH s) ∧ putH (parseH s) = s.take 48 then (parseH s, 0) else (zH, 6) := if_neg hsh
  rw [hGd]
  have hbyte : ∀ i, i < 32 → s[14 + i]? = some ((parseH s).hs.getD i 0) := fun i hi => by
    have hl : i < (parseH s).hs.length := by rw [hps]; exact hi
    rw [List.getD, List.getElem?_eq_getElem hl]
    have e2 : (parseH s).hs[i]? = s[14 + i]? := by rw [hPh, List.getElem?_take, if_pos hi, List.getElem?_drop]
    rw [← e2, List.getElem?_eq_getElem hl]
    rfl
  generalize hPP : parseH s = P at *
  obtain ⟨hf3, b1, o1, cs1, m1, e1, cap1, rfl, hb1, q3, q0, q1, q2⟩ := fst4 hlo
  have hinZ : ∀ b ob, Z.m b = some ob → H1.m b = some ob := fun b ob e => hs1.sub b ob (hin0 b ob e)
  have g1 : H1.cellsOf h.n = some (z36, .ex, 1) := cellsOf_keep hinZ f1
  have g2 : H1.cellsOf (h.n + 1) = some (hc zH, .ex, 1) := cellsOf_keep hinZ f2
  have hn1 : h.n + 1 + 1 ≤ H1.n := by have := hs1.hi; have q : Z.n + 1 ≤ H1.n := this; omega
  have hb1' : ∃ cs' m' e', (H1.set (h.n + 1) (.cells (hc ⟨P.a, P.b, P.c, 0, z32⟩) .ex 1)).cellsOf b1 = some (cs', m', e') ∧ cs'[o1 + 3]? = some (.int .i64 P.n) := by
    by_cases hbb : b1 = h.n + 1
    · subst hbb
      rw [g2, ← z36_eq] at hb1
      simp only [Option.some.injEq, Prod.mk.injEq] at hb1
      obtain ⟨rfl, rfl, rfl⟩ := hb1
      have r3 := z36_hi q3
      have r0 := z36_hi q0
      have ho : o1 = 0 := by omega
      refine ⟨_, _, _, cellsOf_set _ _ _ _ _, ?_⟩
      rw [ho, r3.2]
      rfl
    · exact ⟨cs1, m1, e1, by rw [cellsOf_set_ne hbb]; exact hb1, q3⟩
  obtain ⟨cs', m', e', hb1', q3'⟩ := hb1'
  have i0 : aidx (.int .i64 0) 4 = some 0 := rfl
  have i1 : aidx (.int .i64 1) 4 = some 1 := rfl
  have i2 : aidx (.int .i64 2) 4 = some 2 := rfl
  have i3 : aidx (.int .i64 3) 4 = some 3 := rfl
  have hl36 : ∀ l : List UInt8, l.length = 32 → ∀ a b c n, (hc ⟨a, b, c, n, l⟩).length = 36 := fun l hl a b c n => hlen _ hl
  have hl36z : ∀ a b c n, (hc ⟨a, b, c, n, z32⟩).length = 36 := hl36 _ z32_len
  have filv : ∀ a b c : Int, afill [.int .i64 0, .int .i64 0, .int .i64 0] [(0, 1, .int .i64 a), (1, 1, .int .i64 b), (2, 1, .int .i64 c)] = some [.int .i64 a, .int .i64 b, .int .i64 c] := fun _ _ _ => rfl
  have cp3 : aput (hc zH) 0 [.int .i64 P.a, .int .i64 P.b, .int .i64 P.c] = hc ⟨P.a, P.b, P.c, 0, z32⟩ := rfl
  have mc3 : ∀ a b c : Int, mcells (.agg #[.int .i64 a, .int .i64 b, .int .i64 c]) = some [.int .i64 a, .int .i64 b, .int .i64 c] := fun _ _ _ => rfl
  have mci : ∀ a : Int, mcells (.int .i64 a) = some [.int .i64 a] := fun _ => rfl
  simp [i0, i1, i2, i3, hb1, apart, q0, q1, q2, filv, mc3, mci, g2, hZl, cp3, hb1', q3', cellsOf_set, hl36z, store3, set_set]
  have hE1 : h.Ext H1 := ⟨by omega, fun b ob e => hinZ b ob (hextZ.m b ob e)⟩
  have hE : ∀ o, h.Ext (H1.set (h.n + 1) o) := fun o => Heap.Ext.setNew hE1 hcl (by omega) _
  have hEE : ∀ o o', h.Ext ((H1.set (h.n + 1) o).set h.n o') := fun o o' => Heap.Ext.setNew (hE o) hcl (Nat.le_refl _) _
  have hcS : ∀ x : Hd, (H1.set (h.n + 1) (.cells (hc x) .ex 1)).Closed := fun x => closed_set hcl1 (by omega) hc_bel
  refine awp_loop_of (α := Nat) (fun i => i ≤ 32) (fun i => [(0, .string (bs s)), (2, .pointer (some ⟨h.n, 0, none⟩)), (4, .pointer (some ⟨h.n + 1, 0, none⟩)), (7, .int .i64 i)])
    (fun i => H1.set (h.n + 1) (.cells (hc (hk P i)) .ex 1)) (fun i => 32 - i) 0 (by show 0 ≤ 32; omega) ⟨by show h.n ≤ H1.n; omega, Nat.le_refl _, fun _ _ e => e, hcS _⟩
    (by simp; exact ⟨.string, .ptr (by show h.n < H1.n; omega), .ptr (by show h.n + 1 < H1.n; omega), .int⟩) ?_
  intro i hi
  have hkl : (hc (hk P i)).length = 36 := hlen _ (hk_len hps hi)
  by_cases hi32 : i < 32
  · have hi' : (i : Int) < 32 := by omega
    have hw : IntKind.i64.wrap ((i : Int) + 1) = ((i + 1 : Nat) : Int) := by rw [i64_small (by omega) (by omega)]; omega
    have w14 : IntKind.i64.wrap (14 + (i : Int)) = ((14 + i : Nat) : Int) := by rw [i64_small (by omega) (by omega)]; omega
    have a14 : aidx (.int .i64 ((14 + i : Nat) : Int)) s.length = some (14 + i) := aidx_of (by omega)
    have hby := hbyte i hi32
    have hdat := bs_data s
    have hpu := hk_put hps hi32
    have hcN := hcS (hk P (i + 1))
    generalize P.hs.getD i 0 = w at *
    have mcb : mcells (.int .u8 (w.toNat : Int)) = some [.int .u8 (w.toNat : Int)] := rfl
    have hle : 4 + i + 1 ≤ 36 := by omega
    generalize hk P i = Pi at *
    generalize hPi1 : hk P (i + 1) = Pi1 at *
    generalize h14 : 14 + i = j14 at *
    simp [hi', w14, hbsz, a14, hdat, hby, aidx_of hi32, cellsOf_set, mcb, hkl, hle, set_set, hpu]
    exact ⟨i + 1, by omega, by omega, by rw [hPi1]; exact ⟨by show h.n ≤ H1.n; omega, Nat.le_refl _, fun _ _ e => e, hcN⟩, .string, .ptr (by show h.n < H1.n; omega), .ptr (by show h.n + 1 < H1.n; omega), hw, .int⟩
  · have hie : i = 32 := by omega
    subst hie
    rw [hk_all hps]
    have hP36 : (hc P).length = 36 := hlen P hps
    have c36P := acut_full hP36
    have hpP := hpz P hps
    have hagP : Value.agg (hc P).toArray = hv P := rfl
    have ab48 : abounds s.length s.length none (some (.int .i64 48)) none = some (0, 48, s.length) := abounds_hi (k := 48) (by omega)
    have hne : ¬ h.n = h.n + 1 := by omega
    simp [cellsOf_set, apart, c36P, hagP]
    refine (hrefRight_ok P _).mono ?_
    rintro _ h9 ⟨rfl, e⟩
    rw [e]
    clear e h9
    by_cases hR : rightH P
    · simp [hR, aun, cellsOf_set, apart, c36P, hagP, ab48, hbsz, bs_extract]
      refine (hrefPut_ok P hps hR _).mono ?_
      rintro _ h9 ⟨rfl, e⟩
      rw [e]
      clear e h9
      by_cases hEq : putH P = s.take 48
      · simp [hR, hEq, ab48, hbsz, bs_extract, c36P, m_hc, hP36, g1, cellsOf_set_ne, hne, hz, hpP, cellsOf_set, apart]
        exact ⟨rfl, hEE _ _⟩
      · have hd : decide (bs (putH P) = bs (s.take 48)) = false := decide_eq_false (by rw [bs_inj]; exact hEq)
        simp [hR, hEq, ab48, hbsz, bs_extract, hd, bs_inj, fil, m_hc, hZl, g1, cellsOf_set_ne, hne, hz, hpZ, cellsOf_set, apart, c36Z]
        exact ⟨rfl, hEE _ _⟩
    · simp [hR, aun, fil, m_hc, hZl, g1, cellsOf_set_ne, hne, hz, hpZ, cellsOf_set, apart, c36Z]
      exact ⟨rfl, hEE _ _⟩
theorem af36 {a b c n : Int} {l : List UInt8} (h : l.length = 32) : afill z36 [(0, 3, .agg #[.int .i64 a, .int .i64 b, .int .i64 c]), (3, 1, .int .i64 n), (4, 32, .agg (ubs l).toArray)] = some (hc ⟨a, b, c, n, l⟩) := by
  have hu : (ubs l).length = 32 := by rw [ubs_len, h]
  have hd : List.drop 36 z36 = [] := List.drop_eq_nil_of_le (by rw [z36_len]; omega)
  simp [afill, mcells, hu, z36_len, hd, hc]
theorem sl_str (H : Heap) (s : List UInt8) : Sl enS (H.push (.cells [.string (bs s)] .ex 1)) (.slice (some ⟨H.n, 0, none⟩) 1 1) [s] :=
  .inr ⟨H.n, 0, 1, [.string (bs s)], .ex, 1, rfl, cellsOf_new _ _ _ _, Nat.le_refl _, fun _ => by simp, fun i hi => by
    have : i = 0 := by simpa using hi
    subst this; rfl⟩
def v3 (a b c : Int) : Value := .agg #[.int .i64 a, .int .i64 b, .int .i64 c]
theorem hof_ok (a b c : Int) (img : List UInt8) (hi : img.length ≤ 10000000) (h : Heap) : ACalls Try.prog 71 [v3 a b c, .string (bs img)] h fun v h' => v = hv ⟨a, b, c, img.length, shaB img⟩ ∧ h' = h := by
  refine ACalls.same hv_below (acalls_ofR mix Try.func71 k71 n71 (by simp) fun hcl hb => ?_)
  have m3 : mcells (v3 a b c) = some [.int .i64 a, .int .i64 b, .int .i64 c] := rfl
  have hz := z36_len
  have hbsz := bs_size img
  have c3 : acut [.int .i64 a, .int .i64 b, .int .i64 c] 0 3 = some [.int .i64 a, .int .i64 b, .int .i64 c] := rfl
  have fil : afill [.string (bs [])] [(0, 1, .string (bs img))] = some [.string (bs img)] := rfl
  have hb1 : ¬ h.n = h.n + 1 := by omega
  simp only [c71, s_seq, s_ops]
  simp [m3, cellsOf_ne, cellsOf_at, hb1, apart, c3, hbsz, bs_lit, fil]
  refine (sum_ok [img] _ _ (sl_str _ img) (by simp; omega) (by simp)).mono ?_
  rintro _ h9 ⟨rfl, e⟩
  rw [e]
  clear e h9
  have hf : [img].flatten = img := by simp
  rw [hf]
  have haf := af36 (a := a) (b := b) (c := c) (n := (img.length : Int)) (shaB_len img)
  have hl36 : (hc ⟨a, b, c, img.length, shaB img⟩).length = 36 := by simp [hc, ubs_len, shaB_len]
  have hp : aput z36 0 (hc ⟨a, b, c, img.length, shaB img⟩) = hc ⟨a, b, c, img.length, shaB img⟩ := aput_all _ _ (by rw [hl36, hz])
  have ha := acut_full hl36
  have hn2 : ¬ h.n + 1 = h.n := by omega
  simp [cellsOf_ne, cellsOf_at, hb1, hn2, apart, c3, haf, m_hc, hl36, hp, ha, hz, push_set, set_at]
  exact ⟨rfl, (((Heap.Ext.refl h).push hcl _).push hcl _).push hcl _⟩
theorem hawake_ok (h : Heap) : ACalls Try.prog 69 [] h fun v h' => v = .bool true ∧ h' = h := by
  refine ACalls.same .bool (acalls_of mix Try.func69 k69 n69 (by simp) fun hcl hb => ?_)
  have fil : afill [.int .i64 0, .int .i64 0, .int .i64 0] [(0, 1, .int .i64 1), (1, 1, .int .i64 2), (2, 1, .int .i64 3)] = some [.int .i64 1, .int .i64 2, .int .i64 3] := rfl
  simp [c69, fil, bs_lit]
  refine (hof_ok 1 2 3 [97, 98, 99] (by simp) _).mono ?_
  rintro _ h9 ⟨rfl, e⟩
  rw [e]
  clear e h9
  simp
  refine (hput_ok ⟨1, 2, 3, 3, shaB [97, 98, 99]⟩ (shaB_len _) _).mono ?_
  rintro _ h9 ⟨rfl, e⟩
  rw [e]
  clear e h9
  have hR : rightH ⟨1, 2, 3, 3, shaB [97, 98, 99]⟩ := ⟨fun j hj => by
    match j, hj with
    | 0, _ => decide
    | 1, _ => decide
    | 2, _ => decide, by show (0 : Int) ≤ 3 ∧ (3 : Int) ≤ 16777215; omega⟩
  have hV : putV ⟨1, 2, 3, 3, shaB [97, 98, 99]⟩ = .tuple #[.string (bs (putH ⟨1, 2, 3, 3, shaB [97, 98, 99]⟩)), .int .i64 0] := if_pos hR
  have hP : putH ⟨1, 2, 3, 3, shaB [97, 98, 99]⟩ = [84, 82, 73, 80, 0, 1, 0, 2, 0, 3, 0, 0, 0, 3] ++ (shaB [97, 98, 99] ++ [0, 0]) := by
    have e1 : ([1, 2, 3] : List Int).flatMap (fun k => bN 2 k.toNat) = [0, 1, 0, 2, 0, 3] := by decide
    have e2 : bN 4 (3 : Int).toNat = [0, 0, 0, 3] := by decide
    show [84, 82, 73, 80] ++ (([1, 2, 3] : List Int).flatMap fun k => bN 2 k.toNat) ++ bN 4 (3 : Int).toNat ++ shaB [97, 98, 99] ++ [0, 0] = _
    rw [e1, e2]
    simp
  rw [hV, hP]
  have hl := shaB_len [97, 98, 99]
  generalize shaB [97, 98, 99] = D at *
  have hsz : (bs ([84, 82, 73, 80, 0, 1, 0, 2, 0, 3, 0, 0, 0, 3] ++ (D ++ [0, 0]))).size = 48 := by rw [bs_size]; simp [hl]
  have ab : abounds 48 48 none (some (.int .i64 14)) none = some (0, 14, 48) := abounds_hi (k := 14) (by omega)
  have ht : (([84, 82, 73, 80, 0, 1, 0, 2, 0, 3, 0, 0, 0, 3] ++ (D ++ [0, 0])).take 14).drop 0 = [84, 82, 73, 80, 0, 1, 0, 2, 0, 3, 0, 0, 0, 3] := by simp
  generalize ([84, 82, 73, 80, 0, 1, 0, 2, 0, 3, 0, 0, 0, 3] ++ (D ++ [0, 0]) : List UInt8) = S at *
  simp [hsz, ab, bs_extract, ht, bs_lit]
  exact Heap.Ext.refl _
theorem v_bN {x : Hd} (hR : rightH x) : (x.vs.flatMap fun k => bN 2 k.toNat) = bN 2 x.a.toNat ++ (bN 2 x.b.toNat ++ bN 2 x.c.toNat) := by simp [Hd.vs]
theorem get_put {x : Hd} (hx : x.hs.length = 32) (hR : rightH x) (s : List UInt8) : getH (putH x ++ s) = (x, 0) := by
  have ra := hR.1 0 (by omega)
  have rb := hR.1 1 (by omega)
  have rc := hR.1 2 (by omega)
  have hn := hR.2
  change rng x.a at ra
  change rng x.b at rb
  change rng x.c at rc
  obtain ⟨a, ea⟩ : ∃ m : Nat, x.a = m := ⟨x.a.toNat, by have := ra.1; omega⟩
  obtain ⟨b, eb'⟩ : ∃ m : Nat, x.b = m := ⟨x.b.toNat, by have := rb.1; omega⟩
  obtain ⟨c, ec⟩ : ∃ m : Nat, x.c = m := ⟨x.c.toNat, by have := rc.1; omega⟩
  obtain ⟨n, en⟩ : ∃ m : Nat, x.n = m := ⟨x.n.toNat, by have := hn.1; omega⟩
  have la : a < 256 ^ 2 := by have := ra.2; rw [ea] at this; show a < 65536; omega
  have lb : b < 256 ^ 2 := by have := rb.2; rw [eb'] at this; show b < 65536; omega
  have lc : c < 256 ^ 2 := by have := rc.2; rw [ec] at this; show c < 65536; omega
  have ln : n < 256 ^ 4 := by have := hn.2; rw [en] at this; show n < 4294967296; omega
  have ta := tk_bN 2 a la
  have tb := tk_bN 2 b lb
  have tc := tk_bN 2 c lc
  have tn4 := tk_bN 4 n ln
  have l1 : (bN 2 a).length = 2 := bN_len _ _
  have l2 : (bN 2 b).length = 2 := bN_len _ _
  have l3 : (bN 2 c).length = 2 := bN_len _ _
  have l4 : (bN 4 n).length = 4 := bN_len _ _
  have hP : putH x = [84, 82, 73, 80] ++ (bN 2 a ++ (bN 2 b ++ (bN 2 c ++ (bN 4 n ++ (x.hs ++ [0, 0]))))) := by
    unfold putH
    rw [v_bN hR, ea, eb', ec, en]
    simp
  have hlen : (putH x).length = 48 := by rw [hP]; simp [l1, l2, l3, l4, hx]
  have hparse : parseH (putH x ++ s) = x := by
    obtain ⟨xa, xb, xc, xn, xh⟩ := x
    dsimp only at *
    subst ea eb' ec en
    rw [hP]
    unfold parseH
    congr 1
    · simp only [List.append_assoc]
      rw [List.drop_left' (show ([84, 82, 73, 80] : List UInt8).length = 4 from rfl), List.take_left' l1, ta]
    · simp only [List.append_assoc]
      rw [← List.append_assoc, List.drop_left' (by simp [l1]), List.take_left' l2, tb]
    · simp only [List.append_assoc]
      rw [← List.append_assoc, ← List.append_assoc, List.drop_left' (by simp [l1, l2]), List.take_left' l3, tc]
    · simp only [List.append_assoc]
      rw [← List.append_assoc, ← List.append_assoc, ← List.append_assoc, List.drop_left' (by simp [l1, l2, l3]), List.take_left' l4, tn4]
    · simp only [List.append_assoc]
      rw [← List.append_assoc, ← List.append_assoc, ← List.append_assoc, ← List.append_assoc, List.drop_left' (by simp [l1, l2, l3, l4]), List.take_left' hx]
  unfold getH
  rw [if_neg (by rw [List.length_append]; omega), hparse, List.take_left' hlen, if_pos ⟨hR, rfl⟩]
theorem get_len (s : List UInt8) : (getH s).1.hs.length = 32 := by
  unfold getH
  split
  · exact z32_len
  · rename_i h
    split
    · exact parse_len h
    · exact z32_len
theorem aeq_refl : ∀ l : List Value, (∀ v ∈ l, ∃ k n, v = .int k n) → aeqL (ckl l.length) l l = some true
  | [], _ => rfl
  | v :: l, h => by
    obtain ⟨k, n, rfl⟩ := h v (by simp)
    show (match aeqC .i (.int k n) (.int k n), aeqL (ckl l.length) l l with | some a, some b => some (a && b) | _, _ => none) = _
    rw [aeq_refl l fun w hw => h w (by simp [hw])]
    simp [aeqC]
theorem hc_eq {x : Hd} (hx : x.hs.length = 32) : aeqL (ckl 36) (hc x) (hc x) = some true := by
  have hl : (hc x).length = 36 := by simp [hc, ubs_len, hx]
  rw [← hl]
  refine aeq_refl _ fun v hv => ?_
  rcases List.mem_append.1 hv with hv | hv
  · simp at hv
    rcases hv with rfl | rfl | rfl | rfl <;> exact ⟨_, _, rfl⟩
  · obtain ⟨y, _, rfl⟩ := List.mem_map.1 hv
    exact ⟨_, _, rfl⟩
theorem headPuts_ok (x : Hd) (hx : x.hs.length = 32) (s : List UInt8) (h : Heap) : ACalls Try.prog 19 [hv x, .string (bs s)] h fun v _ => v = .bool true := by
  refine acalls_of mix Try.func19 k19 n19 (by simp) fun hcl hb => ?_
  have hlen : ∀ x : Hd, x.hs.length = 32 → (hc x).length = 36 := fun x hx => by simp [hc, ubs_len, hx]
  have hz := z36_len
  have hbsz := bs_size s
  have hpz : ∀ x : Hd, x.hs.length = 32 → aput z36 0 (hc x) = hc x := fun x hx => aput_all _ _ (by rw [hlen x hx, z36_len])
  have hxl := hlen x hx
  have c36 := acut_full hxl
  have hpx := hpz x hx
  have hag : ∀ x, Value.agg (hc x).toArray = hv x := fun _ => rfl
  simp only [c19, s_seq, s_ops]
  simp [m_hv]
  refine (hawake_ok _).mono ?_
  rintro _ h9 ⟨rfl, e⟩
  rw [e]
  clear e h9
  simp [aun]
  by_cases hbig : 1000 < s.length
  · have : (1000 : Int) < s.length := by omega
    simp [hbsz, this]
  have hbig' : ¬ (1000 : Int) < s.length := by omega
  have hb1 : ¬ h.n = h.n + 1 := by omega
  have hb2 : ¬ h.n = h.n + 1 + 1 := by omega
  have hb3 : ¬ h.n + 1 = h.n + 1 + 1 := by omega
  simp [hbsz, hbig', cellsOf_at, cellsOf_ne, apart, c36, hag, m_hv, hxl, hz, hpx, set_at, hb1]
  refine (hput_ok x hx _).mono ?_
  rintro _ h9 ⟨rfl, e⟩
  rw [e]
  clear e h9
  have last : ∀ (f : AF) (H : Heap), True := fun _ _ => trivial
  by_cases hR : rightH x
  · have hV : putV x = .tuple #[.string (bs (putH x)), .int .i64 0] := if_pos hR
    have hPl : (putH x).length = 48 := by
      have l1 : (x.vs.flatMap fun k => bN 2 k.toNat).length = 6 := by rw [bytes_len]; rfl
      have l2 : (bN 4 x.n.toNat).length = 4 := bN_len _ _
      unfold putH
      simp [l1, l2, hx]
    have hgp := get_put hx hR s
    rw [hV]
    simp [cellsOf_at, cellsOf_ne, apart, c36, hag, hb1]
    refine (hrefRight_ok x _).mono ?_
    rintro _ h9 ⟨rfl, e⟩
    rw [e]
    clear e h9
    simp [cellsOf_at, cellsOf_ne, apart, c36, hag, hb1]
    refine (hright_ok x _).mono ?_
    rintro _ h9 ⟨rfl, e⟩
    rw [e]
    clear e h9
    have hps : (bs (putH x)).size + (bs s).size ≤ 9223372036854775807 := by rw [bs_size, bs_size]; omega
    have hps2 : (putH x).length + s.length ≤ 9223372036854775807 := by omega
    simp [hR, aeq, aun, bs_append, bs_size, hps2]
    refine (hget_ok (putH x ++ s) (by rw [List.length_append]; omega) _).mono ?_
    rintro _ h9 ⟨rfl, e⟩
    rw [e]
    clear e h9
    rw [hgp]
    have he := hc_eq hx
    simp [m_hv, hxl, hz, hpx, set_at, cellsOf_at, cellsOf_ne, apart, c36, hag, hb1, hb2, hb3]
    refine (hrefPut_ok x hx hR _).mono ?_
    rintro _ h9 ⟨rfl, e⟩
    rw [e]
    clear e h9
    simp [cellsOf_at, cellsOf_ne, apart, c36, hb1, hb2, hb3, he]
    have hyl := hlen (getH s).1 (get_len s)
    have cy := acut_full hyl
    have hpy := hpz (getH s).1 (get_len s)
    have hey := hc_eq (get_len s)
    refine (hget_ok s (by omega) _).mono ?_
    rintro _ h9 ⟨rfl, e⟩
    rw [e]
    clear e h9
    generalize hY : (getH s).1 = Y at *
    generalize hG : (getH s).2 = G at *
    simp [m_hv, hyl, hz, hpy, set_at, cellsOf_at, cellsOf_ne]
    refine (hrefGet_ok s (by omega) _).mono ?_
    rintro _ h9 ⟨rfl, e⟩
    rw [e]
    clear e h9
    rw [hY, hG]
    simp [m_hv, hyl, hz, hpy, set_at, cellsOf_at, cellsOf_ne, apart, cy, hey]
  · have hV : putV x = .tuple #[.string (bs []), .int .i64 1] := if_neg hR
    rw [hV]
    simp [cellsOf_at, cellsOf_ne, apart, c36, hag, hb1]
    refine (hrefRight_ok x _).mono ?_
    rintro _ h9 ⟨rfl, e⟩
    rw [e]
    clear e h9
    simp [cellsOf_at, cellsOf_ne, apart, c36, hag, hb1]
    refine (hright_ok x _).mono ?_
    rintro _ h9 ⟨rfl, e⟩
    rw [e]
    clear e h9
    simp [hR, aeq, bs_lit, aun]
    have hyl := hlen (getH s).1 (get_len s)
    have cy := acut_full hyl
    have hpy := hpz (getH s).1 (get_len s)
    have hey := hc_eq (get_len s)
    refine (hget_ok s (by omega) _).mono ?_
    rintro _ h9 ⟨rfl, e⟩
    rw [e]
    clear e h9
    generalize hY : (getH s).1 = Y at *
    generalize hG : (getH s).2 = G at *
    simp [m_hv, hyl, hz, hpy, set_at, cellsOf_at, cellsOf_ne]
    refine (hrefGet_ok s (by omega) _).mono ?_
    rintro _ h9 ⟨rfl, e⟩
    rw [e]
    clear e h9
    rw [hY, hG]
    simp [m_hv, hyl, hz, hpy, set_at, cellsOf_at, cellsOf_ne, apart, cy, hey]
/-! what is numbers alone, of any kinds -/
section
open Go.RowKit Go.ChangeShapes Go.WideShapes
variable {H : Type} {P : Program} {W : World} {enc : TypeId × Value → H}
def FlatK (enc : TypeId × Value → H) (P : Program) (W : World) (t : TypeId) (K : List IntKind) : Prop :=
  P.cellsOf t = K.length ∧ ∀ b sp hh fuel cs x, DataW.trod enc P W b sp hh fuel t cs = some x → cs.length = K.length ∧ ∀ j, j < K.length → ∃ n, cs[j]? = some (Value.int (K.getD j .i64) n) ∧ (Lit.int (K.getD j .i64) n).wf = true
theorem flatK_int {t : TypeId} {k : IntKind} (h : P.underlying t = some (.int k)) (h1 : P.cellsOf t = 1) : FlatK enc P W t [k] := ⟨h1, fun b sp hh fuel cs x hx => by
  obtain ⟨n, hn, _, wf⟩ := DataW.trod_int h hx
  rw [hn]
  refine ⟨rfl, fun j hj => ?_⟩
  have : j = 0 := by simpa using hj
  subst this
  exact ⟨n, rfl, wf⟩⟩
theorem flatK_array {t e : TypeId} {n : Nat} {K : List IntKind} {k : IntKind} (h : P.underlying t = some (.array n e)) (he : FlatK enc P W e K) (hc : P.cellsOf t = n * K.length) (hK : ∀ j, j < K.length → K.getD j .i64 = k) : FlatK enc P W t (List.replicate (n * K.length) k) := ⟨by rw [hc, List.length_replicate], fun b sp hh fuel cs x hx => by
  obtain ⟨xs, m, _, _, hl0, hl, hi⟩ := DataW.trod_array h hx
  rw [List.length_replicate]
  rw [hc] at hl0
  refine ⟨hl0, fun j hj => ?_⟩
  have hpos : 0 < K.length := by
    rcases Nat.eq_zero_or_pos K.length with q | q
    · rw [q] at hj; simp at hj
    · exact q
  have hjn : j / K.length < n := by rw [Nat.div_lt_iff_lt_mul hpos]; exact hj
  have hx2 := hi _ hjn
  rw [List.getElem?_eq_getElem (by omega), he.1] at hx2
  have hmod := Nat.mod_lt j hpos
  have hdm := Nat.div_add_mod' j K.length
  obtain ⟨m', hm1, hm2⟩ := (he.2 _ _ _ _ _ _ hx2).2 (j % K.length) hmod
  rw [hK _ hmod] at hm1 hm2
  rw [List.getElem?_take, if_pos hmod, List.getElem?_drop, hdm] at hm1
  have hr : (List.replicate (n * K.length) k).getD j .i64 = k := by rw [List.getD, List.getElem?_replicate, if_pos hj]; rfl
  rw [hr]
  exact ⟨m', hm1, hm2⟩⟩
theorem flatK_struct {t : TypeId} {fs : Array Field} {K : List IntKind} (h : P.underlying t = some (.struct fs)) (hK : P.cellsOf t = K.length)
    (cover : ∀ j, j < K.length → ∃ (i : Nat) (f : Field) (Kf : List IntKind), fs[i]? = some f ∧ f.offset ≤ j ∧ j < f.offset + Kf.length ∧ FlatK enc P W f.type Kf ∧ Kf.getD (j - f.offset) .i64 = K.getD j .i64) : FlatK enc P W t K := ⟨hK, fun b sp hh fuel cs x hx => by
  obtain ⟨xs, m, _, _, hl0, hl, hi⟩ := DataW.trod_struct h hx
  refine ⟨by rw [hl0, hK], fun j hj => ?_⟩
  obtain ⟨i, f, Kf, hf, h1, h2, h3, h4⟩ := cover j hj
  have hx2 := hi i f hf
  have hif : i < fs.size := (Array.getElem?_eq_some_iff.1 hf).1
  rw [List.getElem?_eq_getElem (by omega), h3.1] at hx2
  obtain ⟨m', hm1, hm2⟩ := (h3.2 _ _ _ _ _ _ hx2).2 (j - f.offset) (by omega)
  rw [h4] at hm1 hm2
  rw [List.getElem?_take, if_pos (by omega), List.getElem?_drop, show f.offset + (j - f.offset) = j by omega] at hm1
  exact ⟨m', hm1, hm2⟩⟩
theorem open_flatK {t : TypeId} {fs : Array Field} {K : List IntKind} {v : Value} {d : DataW H} {ps : List MemPlace} (ht : P.underlying t = some (.struct fs)) (hF : FlatK enc P W t K)
    {r : Reach} {b : Nat} (hval : Value.okWide P W r b t v) {sp : Nat → Bool} {hh : Bool} (hd : DataW.Trod enc P W 0 sp hh t v d ps) :
    ∃ cs : List Value, v = .agg cs.toArray ∧ cs.length = K.length ∧ ∀ j, j < K.length → ∃ n, cs[j]? = some (Value.int (K.getD j .i64) n) ∧ (Lit.int (K.getD j .i64) n).wf = true := by
  obtain ⟨cs, rfl, hsz⟩ := okWide_struct ht hval
  obtain ⟨fuel, h⟩ := hd
  obtain ⟨hl, hall⟩ := hF.2 _ _ _ _ _ _ h
  have e : (Value.agg cs).cells.toList = cs.toList := rfl
  rw [e] at hl hall
  exact ⟨cs.toList, by simp, hl, hall⟩
theorem rel_flat (μ : Mu) (l : List Value) (hl : ∀ v ∈ l, ∃ k n, v = .int k n) : VRel μ (.agg l.toArray) (.agg l.toArray) :=
  .agg rfl (fun i hi => by
    have hi' : i < l.length := by simpa using hi
    obtain ⟨k, n, e⟩ := hl l[i] (List.getElem_mem hi')
    simp [Array.getD, hi', e]; exact .int) (fun i hi => by
    have hi' : i < l.length := by simpa using hi
    obtain ⟨k, n, e⟩ := hl l[i] (List.getElem_mem hi')
    simp [Array.getD, hi', e]; rfl)
end
theorem u8_of {n : Int} (h : (Lit.int .u8 n).wf = true) : ∃ c : UInt8, n = (c.toNat : Int) := by
  simp [Lit.wf, IntKind.min, IntKind.max, IntKind.signed, IntKind.bits] at h
  refine ⟨UInt8.ofNat n.toNat, ?_⟩
  simp
  omega
theorem bytes_list : ∀ {cs : List Value}, (∀ j, j < cs.length → ∃ n, cs[j]? = some (Value.int .u8 n) ∧ (Lit.int .u8 n).wf = true) → ∃ l : List UInt8, cs = ubs l
  | [], _ => ⟨[], rfl⟩
  | c :: cs, h => by
    obtain ⟨l, h1⟩ := bytes_list (cs := cs) fun j hj => by simpa using h (j + 1) (by simpa using hj)
    obtain ⟨n, h2, wf⟩ := h 0 (by simp)
    obtain ⟨c', hc⟩ := u8_of wf
    simp at h2
    exact ⟨c' :: l, by rw [h1, h2, hc]; rfl⟩
def kHead : List IntKind := [.i64, .i64, .i64, .i64] ++ List.replicate 32 .u8
theorem flat106 {H : Type} {W : World} {enc : TypeId × Value → H} : FlatK enc Try.prog W 106 kHead := by
  have i3 : FlatK enc Try.prog W 3 [.i64] := flatK_int Try.underlying3 (by kernel_rfl)
  have i5 : FlatK enc Try.prog W 5 [.u8] := flatK_int Try.underlying5 (by kernel_rfl)
  have a101 : FlatK enc Try.prog W 101 (List.replicate 3 .i64) := flatK_array (K := [.i64]) Try.underlying101 i3 (by kernel_rfl) (fun j hj => match j, hj with
    | 0, _ => rfl)
  have a96 : FlatK enc Try.prog W 96 (List.replicate 32 .u8) := flatK_array (K := [.u8]) Try.underlying96 i5 (by kernel_rfl) (fun j hj => match j, hj with
    | 0, _ => rfl)
  refine flatK_struct Try.underlying106 (by kernel_rfl) fun j hj => ?_
  have hj36 : j < 36 := by simpa [kHead] using hj
  by_cases h3 : j < 3
  · refine ⟨0, _, _, rfl, Nat.zero_le _, (by show j < 0 + 3; omega), a101, ?_⟩
    match j, h3 with
    | 0, _ => rfl
    | 1, _ => rfl
    | 2, _ => rfl
  · by_cases h4 : j = 3
    · subst h4
      exact ⟨1, _, _, rfl, Nat.le_refl _, (by show 3 < 3 + 1; omega), i3, rfl⟩
    · refine ⟨2, _, _, rfl, (by show 4 ≤ j; omega), (by show j < 4 + 32; omega), a96, ?_⟩
      show (List.replicate 32 IntKind.u8).getD (j - 4) .i64 = kHead.getD j .i64
      unfold kHead
      rw [List.getD, List.getD, List.getElem?_append_right (by show 4 ≤ j; omega)]
      rfl
theorem head_of {cs : List Value} (hl : cs.length = kHead.length) (h : ∀ j, j < kHead.length → ∃ n, cs[j]? = some (Value.int (kHead.getD j .i64) n) ∧ (Lit.int (kHead.getD j .i64) n).wf = true) : ∃ x : Hd, cs = hc x ∧ x.hs.length = 32 := by
  have hk : kHead.length = 36 := by simp [kHead]
  match cs, hl with
  | a :: b :: c :: n :: r, hl =>
    have hr : r.length = 32 := by rw [hk] at hl; simpa using hl
    obtain ⟨a', ha, _⟩ := h 0 (by omega)
    obtain ⟨b', hb, _⟩ := h 1 (by omega)
    obtain ⟨c', hc', _⟩ := h 2 (by omega)
    obtain ⟨n', hn, _⟩ := h 3 (by omega)
    obtain ⟨l, hrl⟩ := bytes_list (cs := r) fun j hj => by
      obtain ⟨m, h1, h2⟩ := h (j + 4) (by omega)
      have e : kHead.getD (j + 4) .i64 = .u8 := by
        unfold kHead
        rw [List.getD, List.getElem?_append_right (by show 4 ≤ j + 4; omega), List.getElem?_replicate, if_pos (by show j + 4 - 4 < 32; omega)]
        rfl
      rw [e] at h1 h2
      exact ⟨m, by simpa using h1, h2⟩
    simp at ha hb hc' hn
    refine ⟨⟨a', b', c', n', l⟩, ?_, ?_⟩
    · rw [ha, hb, hc', hn, hrl]
      rfl
    · show l.length = 32
      rw [← ubs_len l, ← hrl, hr]
theorem hc_ints (x : Hd) : ∀ v ∈ hc x, ∃ k n, v = .int k n := fun v hv => by
  rcases List.mem_append.1 hv with hv | hv
  · simp at hv
    rcases hv with rfl | rfl | rfl | rfl <;> exact ⟨_, _, rfl⟩
  · obtain ⟨y, _, rfl⟩ := List.mem_map.1 hv
    exact ⟨_, _, rfl⟩
end Go.Proofs.Ythhhcpbkedikfaa.head
