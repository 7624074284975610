/-
  Contracts.
-/
import Derived.Test.YtofoihlcjmghfaaGreatDoorSha
import Derived.Test.YtofoihlcjmghfaaGreatDoorLin1
import Derived.Test.YtofoihlcjmghfaaGreatDoorVers
import Derived.Test.YtofoihlcjmghfaaGreatDoorStr
import Derived.Test.YtofoihlcjmghfaaGreatDoorAbEnter
import Derived.Test.YtofoihlcjmghfaaGreatDoorAbStep
import Derived.Test.YtofoihlcjmghfaaGreatDoorProg
import Derived.IntWalk
import Derived.KernelRfl
set_option linter.unusedSimpArgs false
set_option linter.unusedVariables false
set_option linter.unusedSectionVars false
namespace Go.Proofs.YtofoihlcjmghfaaGreatDoor.rsha
open Go Go.Ab Go.Proofs Go.RowKit Go.Proofs.YtofoihlcjmghfaaGreatDoor.str Go.Proofs.YtofoihlcjmghfaaGreatDoor.vers Go.Proofs.YtofoihlcjmghfaaGreatDoor.lin1 Go.Proofs.YtofoihlcjmghfaaGreatDoor.sha
variable [Inhabited TabBox]
variable [Nonempty GF]
variable [Nonempty GE]
set_option maxRecDepth 100000
attribute [local simp] s_ops s_seq s_cond s_cond_t s_cond_f s_block s_exit s_ret s_skip s_then_n s_then_n' s_then_e s_then_e' s_then_r s_then_r' s_block_n s_block_r s_block_e s_post_r s_post_n s_res0 s_res1 s_res2 s_res3 s_res4 s_nil s_cons s_guard s_guard_tt s_guard_ff s_guard_tf s_guard_ft s_guard_u s_call s_kL s_put s_put0 s_set s_tmp s_const s_func s_glob s_init s_mkF s_mkF0 s_mv s_bin s_pick s_op aop oK_some oK_none bK_some bK_none b_add b_sub b_mul b_quo b_rem b_and b_or b_xor b_andNot b_shl b_shr b_eql b_neq b_lss b_leq b_gtr b_geq b_sadd b_seql b_sneq b_slss b_sleq b_sgtr b_sgeq s_draw s_drawT s_tK s_tT s_tF s_tB s_tR s_stage s_stage0 s_kW s_kR s_rc0 s_rc s_rcg rK_some rK_none rG_b rG_u s_callv s_callv_f s_nextM s_postR_r s_postR_n s_resA0 s_resAt s_resAc s_resC s_tup0 s_tup1 s_tup2 s_tup3
def c76 : AC := .seq (.ops [⟨some 4,none,.mv (.const (.int .i64 0))⟩]) (.seq (.ops [⟨some 5,none,.mv (.tmp 0)⟩,⟨some 6,none,.mv (.tmp 1)⟩,⟨some 7,none,.toInt .u64 (.tmp 6)⟩,⟨some 8,none,.bin .shr (.tmp 5) (.tmp 7)⟩,⟨some 9,none,.mv (.tmp 0)⟩,⟨some 10,none,.mv (.tmp 1)⟩,⟨some 11,none,.bin .sub (.const (.int .i64 32)) (.tmp 10)⟩,⟨some 12,none,.toInt .u64 (.tmp 11)⟩,⟨some 13,none,.bin .shl (.tmp 9) (.tmp 12)⟩,⟨some 14,none,.bin .rem (.tmp 13) (.const (.int .i64 4294967296))⟩,⟨some 15,none,.bin .or (.tmp 8) (.tmp 14)⟩,⟨some 4,none,.mv (.tmp 15)⟩]) .ret)
theorem k76 : compF Tryz.prog Tryz.f76 = some (c76, [4]) := by kernel_rfl
theorem n76 : Tryz.f76.ntmps = 16 := by kernel_rfl
def c94 : AC := .seq (.ops [⟨some 4,none,.mv (.const (.slice none 0 0))⟩]) (.seq (.ops [⟨some 11,none,.mv (.tmp 0)⟩,⟨some 12,none,.lenS false (.tmp 11)⟩,⟨some 13,none,.bin .add (.tmp 12) (.const (.int .i64 4))⟩,⟨some 14,none,.mkSl [.int .i64 0] 8 (.tmp 13) (.tmp 13)⟩,⟨some 5,none,.mv (.tmp 14)⟩]) (.seq (.ops [⟨some 15,none,.mv (.tmp 1)⟩,⟨some 16,none,.bin .rem (.tmp 15) (.const (.int .i64 65536))⟩,⟨some 17,none,.mv (.tmp 1)⟩,⟨some 18,none,.bin .quo (.tmp 17) (.const (.int .i64 65536))⟩,⟨some 19,none,.bin .rem (.tmp 18) (.const (.int .i64 65536))⟩,⟨some 20,none,.mv (.tmp 1)⟩,⟨some 21,none,.bin .quo (.tmp 20) (.const (.int .i64 4294967296))⟩,⟨some 22,none,.buildS 3 [.int .i64 0,.int .i64 0,.int .i64 0] [(0,1,.tmp 16),(1,1,.tmp 19),(2,1,.tmp 21)]⟩,⟨some 6,none,.mv (.tmp 22)⟩]) (.seq (.seq (.ops [⟨some 7,none,.mv (.const (.int .i64 0))⟩]) (.block 0 (.loop (.seq (.seq (.ops [⟨some 23,none,.mv (.tmp 7)⟩,⟨some 24,none,.mv (.tmp 0)⟩,⟨some 25,none,.lenS false (.tmp 24)⟩,⟨some 26,none,.bin .lss (.tmp 23) (.tmp 25)⟩]) (.cond (.tmp 26) .skip (.exit 0))) (.seq (.block 1 (.seq (.ops [⟨some 8,none,.mv (.const (.int .i64 0))⟩]) (.block 2 (.loop (.seq (.seq (.ops [⟨some 29,none,.mv (.tmp 8)⟩,⟨some 30,none,.bin .lss (.tmp 29) (.const (.int .i64 3))⟩]) (.cond (.tmp 30) .skip (.exit 2))) (.seq (.block 3 (.seq (.draw [([⟨some 33,none,.mv (.tmp 0)⟩,⟨some 34,none,.mv (.tmp 7)⟩,⟨some 35,none,.iAddrS 1 (.tmp 33) (.tmp 34)⟩,⟨some 36,none,.load none (.tmp 35)⟩,⟨some 37,none,.mv (.tmp 6)⟩,⟨some 38,none,.mv (.tmp 8)⟩,⟨some 39,none,.iAddrS 1 (.tmp 37) (.tmp 38)⟩,⟨some 40,none,.load none (.tmp 39)⟩,⟨some 41,none,.bin .mul (.tmp 36) (.tmp 40)⟩,⟨some 9,none,.mv (.tmp 41)⟩],[],[])]) (.seq (.ops [⟨some 42,none,.mv (.tmp 7)⟩,⟨some 43,none,.mv (.tmp 8)⟩,⟨some 44,none,.bin .add (.tmp 42) (.tmp 43)⟩,⟨some 10,none,.mv (.tmp 44)⟩]) (.block 4 (.loop (.seq (.seq (.ops [⟨some 45,none,.mv (.tmp 9)⟩,⟨some 46,none,.bin .gtr (.tmp 45) (.const (.int .i64 0))⟩]) (.cond (.tmp 46) .skip (.exit 4))) (.seq (.block 5 (.seq (.ops [⟨some 49,none,.mv (.tmp 9)⟩,⟨some 50,none,.mv (.tmp 5)⟩,⟨some 51,none,.mv (.tmp 10)⟩,⟨some 52,none,.iAddrS 1 (.tmp 50) (.tmp 51)⟩,⟨some 53,none,.load none (.tmp 52)⟩,⟨some 54,none,.bin .add (.tmp 49) (.tmp 53)⟩,⟨some 9,none,.mv (.tmp 54)⟩]) (.seq (.ops [⟨some 55,none,.mv (.tmp 5)⟩,⟨some 56,none,.mv (.tmp 10)⟩,⟨some 57,none,.mv (.tmp 9)⟩,⟨some 58,none,.bin .rem (.tmp 57) (.const (.int .i64 65536))⟩,⟨some 59,none,.iAddrS 1 (.tmp 55) (.tmp 56)⟩,⟨none,none,.store 1 (.tmp 59) (.tmp 58)⟩]) (.ops [⟨some 60,none,.mv (.tmp 9)⟩,⟨some 61,none,.bin .quo (.tmp 60) (.const (.int .i64 65536))⟩,⟨some 9,none,.mv (.tmp 61)⟩])))) (.ops [⟨some 47,none,.mv (.tmp 10)⟩,⟨some 48,none,.bin .add (.tmp 47) (.const (.int .i64 1))⟩,⟨some 10,none,.mv (.tmp 48)⟩])))))))) (.ops [⟨some 31,none,.mv (.tmp 8)⟩,⟨some 32,none,.bin .add (.tmp 31) (.const (.int .i64 1))⟩,⟨some 8,none,.mv (.tmp 32)⟩]))))))) (.ops [⟨some 27,none,.mv (.tmp 7)⟩,⟨some 28,none,.bin .add (.tmp 27) (.const (.int .i64 1))⟩,⟨some 7,none,.mv (.tmp 28)⟩])))))) (.seq (.ops [⟨some 62,none,.mv (.tmp 5)⟩,⟨some 4,none,.mv (.tmp 62)⟩]) .ret))))
theorem k94 : compF Tryz.prog Tryz.f94 = some (c94, [4]) := by kernel_rfl
theorem n94 : Tryz.f94.ntmps = 63 := by kernel_rfl
def c60 : AC := .seq (.ops [⟨some 6,none,.mv (.const (.bool false))⟩]) (.seq (.ops [⟨some 12,none,.buildS 1 [.int .i64 0] [(0,1,.const (.int .i64 1))]⟩,⟨some 13,none,.mv (.tmp 0)⟩,⟨some 14,none,.call 94 [.tmp 12,.tmp 13]⟩,⟨some 15,none,.mv (.tmp 0)⟩,⟨some 16,none,.call 94 [.tmp 14,.tmp 15]⟩,⟨some 7,none,.mv (.tmp 16)⟩]) (.seq (.ops [⟨some 8,none,.mv (.const (.int .i64 4))⟩]) (.seq (.seq (.ops [⟨some 17,none,.mv (.tmp 2)⟩,⟨some 18,none,.un .not (.tmp 17)⟩]) (.cond (.tmp 18) (.seq (.ops [⟨some 19,none,.mv (.tmp 7)⟩,⟨some 20,none,.mv (.tmp 0)⟩,⟨some 21,none,.call 94 [.tmp 19,.tmp 20]⟩,⟨some 7,none,.mv (.tmp 21)⟩]) (.ops [⟨some 8,none,.mv (.const (.int .i64 6))⟩])) .skip)) (.seq (.ops [⟨some 9,none,.mv (.const (.int .i64 0))⟩]) (.seq (.seq (.ops [⟨some 22,none,.mv (.tmp 7)⟩,⟨some 23,none,.lenS false (.tmp 22)⟩,⟨some 24,none,.bin .sub (.tmp 23) (.const (.int .i64 1))⟩,⟨some 10,none,.mv (.tmp 24)⟩]) (.block 0 (.loop (.seq (.seq (.ops [⟨some 25,none,.mv (.tmp 10)⟩,⟨some 26,none,.mv (.tmp 8)⟩,⟨some 27,none,.bin .geq (.tmp 25) (.tmp 26)⟩]) (.cond (.tmp 27) .skip (.exit 0))) (.seq (.block 1 (.seq (.seq (.ops [⟨some 30,none,.mv (.tmp 9)⟩,⟨some 31,none,.bin .gtr (.tmp 30) (.const (.int .i64 1000000))⟩]) (.cond (.tmp 31) (.seq (.ops [⟨some 6,none,.mv (.const (.bool false))⟩]) .ret) .skip)) (.ops [⟨some 32,none,.mv (.tmp 9)⟩,⟨some 33,none,.bin .mul (.const (.int .i64 65536)) (.tmp 32)⟩,⟨some 34,none,.mv (.tmp 7)⟩,⟨some 35,none,.mv (.tmp 10)⟩,⟨some 36,none,.iAddrS 1 (.tmp 34) (.tmp 35)⟩,⟨some 37,none,.load none (.tmp 36)⟩,⟨some 38,none,.bin .add (.tmp 33) (.tmp 37)⟩,⟨some 9,none,.mv (.tmp 38)⟩]))) (.ops [⟨some 28,none,.mv (.tmp 10)⟩,⟨some 29,none,.bin .sub (.tmp 28) (.const (.int .i64 1))⟩,⟨some 10,none,.mv (.tmp 29)⟩])))))) (.seq (.seq (.ops [⟨some 39,none,.mv (.tmp 9)⟩,⟨some 40,none,.mv (.tmp 1)⟩,⟨some 41,none,.bin .neq (.tmp 39) (.tmp 40)⟩]) (.cond (.tmp 41) (.seq (.ops [⟨some 42,none,.mv (.tmp 9)⟩,⟨some 43,none,.mv (.tmp 1)⟩,⟨some 44,none,.bin .lss (.tmp 42) (.tmp 43)⟩,⟨some 6,none,.mv (.tmp 44)⟩]) .ret) .skip)) (.seq (.seq (.ops [⟨some 11,none,.mv (.const (.int .i64 0))⟩]) (.block 2 (.loop (.seq (.seq (.ops [⟨some 45,none,.mv (.tmp 11)⟩,⟨some 46,none,.mv (.tmp 8)⟩,⟨some 47,none,.bin .lss (.tmp 45) (.tmp 46)⟩]) (.cond (.tmp 47) .skip (.exit 2))) (.seq (.block 3 (.seq (.ops [⟨some 50,none,.mv (.tmp 7)⟩,⟨some 51,none,.mv (.tmp 11)⟩,⟨some 52,none,.iAddrS 1 (.tmp 50) (.tmp 51)⟩,⟨some 53,none,.load none (.tmp 52)⟩,⟨some 54,none,.bin .neq (.tmp 53) (.const (.int .i64 0))⟩]) (.cond (.tmp 54) (.seq (.ops [⟨some 6,none,.mv (.const (.bool false))⟩]) .ret) .skip))) (.ops [⟨some 48,none,.mv (.tmp 11)⟩,⟨some 49,none,.bin .add (.tmp 48) (.const (.int .i64 1))⟩,⟨some 11,none,.mv (.tmp 49)⟩])))))) (.seq (.ops [⟨some 6,none,.mv (.const (.bool true))⟩]) .ret))))))))
theorem k60 : compF Tryz.prog Tryz.f60 = some (c60, [6]) := by kernel_rfl
theorem n60 : Tryz.f60.ntmps = 55 := by kernel_rfl
def c26 : AC := .seq (.ops [⟨some 4,none,.mv (.const (.int .i64 0))⟩]) (.seq (.ops [⟨some 5,none,.mv (.const (.int .i64 0))⟩]) (.seq (.seq (.ops [⟨some 6,none,.mv (.const (.int .i64 35))⟩]) (.block 0 (.loop (.seq (.seq (.ops [⟨some 8,none,.mv (.tmp 6)⟩,⟨some 9,none,.bin .geq (.tmp 8) (.const (.int .i64 0))⟩]) (.cond (.tmp 9) .skip (.exit 0))) (.seq (.block 1 (.seq (.ops [⟨some 12,none,.mv (.tmp 5)⟩,⟨some 13,none,.mv (.tmp 6)⟩,⟨some 14,none,.toInt .u64 (.tmp 13)⟩,⟨some 15,none,.bin .shl (.const (.int .i64 1)) (.tmp 14)⟩,⟨some 16,none,.bin .add (.tmp 12) (.tmp 15)⟩,⟨some 7,none,.mv (.tmp 16)⟩]) (.seq (.ops [⟨some 17,none,.mv (.tmp 7)⟩,⟨some 18,none,.mv (.tmp 0)⟩,⟨some 19,none,.mv (.tmp 1)⟩,⟨some 20,none,.call 60 [.tmp 17,.tmp 18,.tmp 19]⟩]) (.cond (.tmp 20) (.ops [⟨some 21,none,.mv (.tmp 7)⟩,⟨some 5,none,.mv (.tmp 21)⟩]) .skip)))) (.ops [⟨some 10,none,.mv (.tmp 6)⟩,⟨some 11,none,.bin .sub (.tmp 10) (.const (.int .i64 1))⟩,⟨some 6,none,.mv (.tmp 11)⟩])))))) (.seq (.ops [⟨some 22,none,.mv (.tmp 5)⟩,⟨some 23,none,.bin .rem (.tmp 22) (.const (.int .i64 4294967296))⟩,⟨some 4,none,.mv (.tmp 23)⟩]) .ret)))
theorem k26 : compF Tryz.prog Tryz.f26 = some (c26, [4]) := by kernel_rfl
theorem n26 : Tryz.f26.ntmps = 24 := by kernel_rfl
def c25 : AC := .seq (.ops [⟨some 0,none,.mv (.const (.slice none 0 0))⟩]) (.seq (.ops [⟨some 5,none,.buildS 0 [] []⟩,⟨some 1,none,.mv (.tmp 5)⟩]) (.seq (.seq (.ops [⟨some 2,none,.mv (.const (.int .i64 2))⟩]) (.block 0 (.loop (.seq (.seq (.ops [⟨some 6,none,.mv (.tmp 1)⟩,⟨some 7,none,.lenS false (.tmp 6)⟩,⟨some 8,none,.bin .lss (.tmp 7) (.const (.int .i64 64))⟩]) (.cond (.tmp 8) .skip (.exit 0))) (.seq (.block 1 (.seq (.ops [⟨some 3,none,.mv (.const (.bool true))⟩]) (.seq (.seq (.ops [⟨some 4,none,.mv (.const (.int .i64 0))⟩]) (.block 2 (.loop (.seq (.seq (.ops [⟨some 11,none,.mv (.tmp 4)⟩,⟨some 12,none,.mv (.tmp 1)⟩,⟨some 13,none,.lenS false (.tmp 12)⟩,⟨some 14,none,.bin .lss (.tmp 11) (.tmp 13)⟩]) (.cond (.tmp 14) .skip (.exit 2))) (.seq (.block 3 (.ops [⟨some 17,none,.mv (.tmp 3)⟩,⟨some 18,none,.mv (.tmp 17)⟩,⟨some 19,some (18,true),.mv (.tmp 2)⟩,⟨some 20,some (18,true),.mv (.tmp 1)⟩,⟨some 21,some (18,true),.mv (.tmp 4)⟩,⟨some 22,some (18,true),.iAddrS 1 (.tmp 20) (.tmp 21)⟩,⟨some 23,some (18,true),.load none (.tmp 22)⟩,⟨some 24,some (18,true),.bin .rem (.tmp 19) (.tmp 23)⟩,⟨some 25,some (18,true),.bin .neq (.tmp 24) (.const (.int .i64 0))⟩,⟨some 26,none,.pick (.tmp 18) (.tmp 25) (.const (.bool false))⟩,⟨some 3,none,.mv (.tmp 26)⟩])) (.ops [⟨some 15,none,.mv (.tmp 4)⟩,⟨some 16,none,.bin .add (.tmp 15) (.const (.int .i64 1))⟩,⟨some 4,none,.mv (.tmp 16)⟩])))))) (.seq (.ops [⟨some 27,none,.mv (.tmp 3)⟩]) (.cond (.tmp 27) (.ops [⟨some 28,none,.mv (.tmp 1)⟩,⟨some 29,none,.mv (.tmp 2)⟩,⟨some 30,none,.buildS 1 [.int .i64 0] [(0,1,.tmp 29)]⟩,⟨some 31,none,.app 1 8 3 (.tmp 28) (.tmp 30)⟩,⟨some 1,none,.mv (.tmp 31)⟩]) .skip))))) (.ops [⟨some 9,none,.mv (.tmp 2)⟩,⟨some 10,none,.bin .add (.tmp 9) (.const (.int .i64 1))⟩,⟨some 2,none,.mv (.tmp 10)⟩])))))) (.seq (.ops [⟨some 32,none,.mv (.tmp 1)⟩,⟨some 0,none,.mv (.tmp 32)⟩]) .ret)))
theorem k25 : compF Tryz.prog Tryz.f25 = some (c25, [0]) := by kernel_rfl
theorem n25 : Tryz.f25.ntmps = 33 := by kernel_rfl
def c8 : AC := .seq (.ops [⟨some 0,none,.alloc [.slice none 0 0,.slice none 0 0]⟩]) (.seq (.ops [⟨some 4,none,.build [.slice none 0 0,.slice none 0 0] []⟩,⟨some 1,none,.alloc [.slice none 0 0,.slice none 0 0]⟩,⟨none,none,.store 2 (.tmp 1) (.tmp 4)⟩]) (.seq (.ops [⟨some 5,none,.call 25 []⟩,⟨some 2,none,.mv (.tmp 5)⟩]) (.seq (.seq (.ops [⟨some 3,none,.mv (.const (.int .i64 0))⟩]) (.block 0 (.loop (.seq (.seq (.ops [⟨some 6,none,.mv (.tmp 3)⟩,⟨some 7,none,.bin .lss (.tmp 6) (.const (.int .i64 64))⟩]) (.cond (.tmp 7) .skip (.exit 0))) (.seq (.block 1 (.seq (.seq (.ops [⟨some 10,none,.mv (.tmp 3)⟩,⟨some 11,none,.bin .lss (.tmp 10) (.const (.int .i64 8))⟩]) (.cond (.tmp 11) (.draw [([⟨some 12,none,.fAddr 0 (.tmp 1)⟩,⟨some 13,none,.load none (.tmp 12)⟩,⟨some 14,none,.mv (.tmp 2)⟩,⟨some 15,none,.mv (.tmp 3)⟩,⟨some 16,none,.iAddrS 1 (.tmp 14) (.tmp 15)⟩,⟨some 17,none,.load none (.tmp 16)⟩],[⟨some 18,none,.call 26 [.tmp 17,.const (.bool true)]⟩],[⟨some 13,none,.load none (.tmp 12)⟩]),([],[⟨some 19,none,.buildS 1 [.int .i64 0] [(0,1,.tmp 18)]⟩],[⟨some 13,none,.load none (.tmp 12)⟩]),([],[⟨some 20,none,.app 1 8 3 (.tmp 13) (.tmp 19)⟩],[]),([⟨some 21,none,.fAddr 0 (.tmp 1)⟩],[⟨none,none,.store 1 (.tmp 21) (.tmp 20)⟩],[]),([],[],[])]) .skip)) (.draw [([⟨some 22,none,.fAddr 1 (.tmp 1)⟩,⟨some 23,none,.load none (.tmp 22)⟩,⟨some 24,none,.mv (.tmp 2)⟩,⟨some 25,none,.mv (.tmp 3)⟩,⟨some 26,none,.iAddrS 1 (.tmp 24) (.tmp 25)⟩,⟨some 27,none,.load none (.tmp 26)⟩],[⟨some 28,none,.call 26 [.tmp 27,.const (.bool false)]⟩],[⟨some 23,none,.load none (.tmp 22)⟩]),([],[⟨some 29,none,.buildS 1 [.int .i64 0] [(0,1,.tmp 28)]⟩],[⟨some 23,none,.load none (.tmp 22)⟩]),([],[⟨some 30,none,.app 1 8 3 (.tmp 23) (.tmp 29)⟩],[]),([⟨some 31,none,.fAddr 1 (.tmp 1)⟩],[⟨none,none,.store 1 (.tmp 31) (.tmp 30)⟩],[]),([],[],[])]))) (.ops [⟨some 8,none,.mv (.tmp 3)⟩,⟨some 9,none,.bin .add (.tmp 8) (.const (.int .i64 1))⟩,⟨some 3,none,.mv (.tmp 9)⟩])))))) (.seq (.ops [⟨some 32,none,.load (some 2) (.tmp 1)⟩,⟨none,none,.store 2 (.tmp 0) (.tmp 32)⟩]) .ret))))
theorem k8 : compR Tryz.prog Tryz.f8 = some (c8, [.c 0 (some 2)]) := by kernel_rfl
theorem n8 : Tryz.f8.ntmps = 33 := by kernel_rfl
def c38_14 : AC := .seq (.seq (.ops [⟨some 259,none,.mv (.tmp 25)⟩,⟨some 260,none,.bin .lss (.tmp 259) (.const (.int .i64 32))⟩]) (.cond (.tmp 260) .skip (.exit 14))) (.seq (.block 15 (.ops [⟨some 263,none,.mv (.tmp 25)⟩,⟨some 264,none,.mv (.tmp 8)⟩,⟨some 265,none,.mv (.tmp 25)⟩,⟨some 266,none,.bin .quo (.tmp 265) (.const (.int .i64 4))⟩,⟨some 267,none,.iAddrS 1 (.tmp 264) (.tmp 266)⟩,⟨some 268,none,.load none (.tmp 267)⟩,⟨some 269,none,.mv (.tmp 25)⟩,⟨some 270,none,.bin .rem (.tmp 269) (.const (.int .i64 4))⟩,⟨some 271,none,.bin .mul (.const (.int .i64 8)) (.tmp 270)⟩,⟨some 272,none,.bin .sub (.const (.int .i64 24)) (.tmp 271)⟩,⟨some 273,none,.toInt .u64 (.tmp 272)⟩,⟨some 274,none,.bin .shr (.tmp 268) (.tmp 273)⟩,⟨some 275,none,.bin .rem (.tmp 274) (.const (.int .i64 256))⟩,⟨some 276,none,.toInt .u8 (.tmp 275)⟩,⟨some 277,none,.iAddrA 32 1 (.tmp 24) (.tmp 263)⟩,⟨none,none,.store 1 (.tmp 277) (.tmp 276)⟩])) (.ops [⟨some 261,none,.mv (.tmp 25)⟩,⟨some 262,none,.bin .add (.tmp 261) (.const (.int .i64 1))⟩,⟨some 25,none,.mv (.tmp 262)⟩]))
def c38_12 : AC := .seq (.seq (.ops [⟨some 241,none,.mv (.tmp 23)⟩,⟨some 242,none,.bin .lss (.tmp 241) (.const (.int .i64 8))⟩]) (.cond (.tmp 242) .skip (.exit 12))) (.seq (.block 13 (.draw [([⟨some 245,none,.mv (.tmp 8)⟩,⟨some 246,none,.mv (.tmp 23)⟩,⟨some 247,none,.mv (.tmp 8)⟩,⟨some 248,none,.mv (.tmp 23)⟩,⟨some 249,none,.iAddrS 1 (.tmp 247) (.tmp 248)⟩,⟨some 250,none,.load none (.tmp 249)⟩,⟨some 251,none,.mv (.tmp 15)⟩,⟨some 252,none,.mv (.tmp 23)⟩,⟨some 253,none,.iAddrS 1 (.tmp 251) (.tmp 252)⟩,⟨some 254,none,.load none (.tmp 253)⟩,⟨some 255,none,.bin .add (.tmp 250) (.tmp 254)⟩,⟨some 256,none,.bin .rem (.tmp 255) (.const (.int .i64 4294967296))⟩,⟨some 257,none,.iAddrS 1 (.tmp 245) (.tmp 246)⟩],[⟨none,none,.store 1 (.tmp 257) (.tmp 256)⟩],[]),([],[],[])])) (.ops [⟨some 243,none,.mv (.tmp 23)⟩,⟨some 244,none,.bin .add (.tmp 243) (.const (.int .i64 1))⟩,⟨some 23,none,.mv (.tmp 244)⟩]))
def c38_10 : AC := .seq (.seq (.ops [⟨some 140,none,.mv (.tmp 16)⟩,⟨some 141,none,.bin .lss (.tmp 140) (.const (.int .i64 64))⟩]) (.cond (.tmp 141) .skip (.exit 10))) (.seq (.block 11 (.seq (.draw [([⟨some 144,none,.mv (.tmp 15)⟩,⟨some 145,none,.iAddrS 1 (.tmp 144) (.const (.int .i64 4))⟩,⟨some 146,none,.load none (.tmp 145)⟩,⟨some 147,none,.mv (.tmp 15)⟩,⟨some 148,none,.iAddrS 1 (.tmp 147) (.const (.int .i64 0))⟩,⟨some 149,none,.load none (.tmp 148)⟩,⟨some 17,none,.mv (.tmp 146)⟩,⟨some 18,none,.mv (.tmp 149)⟩],[],[])]) (.seq (.draw [([⟨some 150,none,.mv (.tmp 17)⟩,⟨some 151,none,.mv (.tmp 15)⟩,⟨some 152,none,.iAddrS 1 (.tmp 151) (.const (.int .i64 5))⟩,⟨some 153,none,.load none (.tmp 152)⟩,⟨some 154,none,.bin .and (.tmp 150) (.tmp 153)⟩,⟨some 155,none,.mv (.tmp 17)⟩,⟨some 156,none,.bin .sub (.const (.int .i64 4294967295)) (.tmp 155)⟩,⟨some 157,none,.mv (.tmp 15)⟩,⟨some 158,none,.iAddrS 1 (.tmp 157) (.const (.int .i64 6))⟩,⟨some 159,none,.load none (.tmp 158)⟩,⟨some 160,none,.bin .and (.tmp 156) (.tmp 159)⟩,⟨some 161,none,.bin .or (.tmp 154) (.tmp 160)⟩,⟨some 19,none,.mv (.tmp 161)⟩],[],[])]) (.seq (.draw [([⟨some 162,none,.mv (.tmp 18)⟩,⟨some 163,none,.mv (.tmp 15)⟩,⟨some 164,none,.iAddrS 1 (.tmp 163) (.const (.int .i64 1))⟩,⟨some 165,none,.load none (.tmp 164)⟩,⟨some 166,none,.bin .and (.tmp 162) (.tmp 165)⟩,⟨some 167,none,.mv (.tmp 18)⟩,⟨some 168,none,.mv (.tmp 15)⟩,⟨some 169,none,.iAddrS 1 (.tmp 168) (.const (.int .i64 2))⟩,⟨some 170,none,.load none (.tmp 169)⟩,⟨some 171,none,.bin .and (.tmp 167) (.tmp 170)⟩,⟨some 172,none,.bin .or (.tmp 166) (.tmp 171)⟩,⟨some 173,none,.mv (.tmp 15)⟩,⟨some 174,none,.iAddrS 1 (.tmp 173) (.const (.int .i64 1))⟩,⟨some 175,none,.load none (.tmp 174)⟩,⟨some 176,none,.mv (.tmp 15)⟩,⟨some 177,none,.iAddrS 1 (.tmp 176) (.const (.int .i64 2))⟩,⟨some 178,none,.load none (.tmp 177)⟩,⟨some 179,none,.bin .and (.tmp 175) (.tmp 178)⟩,⟨some 180,none,.bin .or (.tmp 172) (.tmp 179)⟩,⟨some 20,none,.mv (.tmp 180)⟩],[],[])]) (.seq (.draw [([⟨some 181,none,.mv (.tmp 15)⟩,⟨some 182,none,.iAddrS 1 (.tmp 181) (.const (.int .i64 7))⟩,⟨some 183,none,.load none (.tmp 182)⟩,⟨some 184,none,.mv (.tmp 17)⟩,⟨some 186,none,.mv (.tmp 17)⟩,⟨some 189,none,.mv (.tmp 17)⟩,⟨some 193,none,.mv (.tmp 19)⟩,⟨some 195,none,.fAddr 1 (.tmp 2)⟩,⟨some 196,none,.load none (.tmp 195)⟩,⟨some 197,none,.mv (.tmp 16)⟩,⟨some 198,none,.iAddrS 1 (.tmp 196) (.tmp 197)⟩,⟨some 199,none,.load none (.tmp 198)⟩,⟨some 201,none,.mv (.tmp 10)⟩,⟨some 202,none,.mv (.tmp 16)⟩,⟨some 203,none,.iAddrS 1 (.tmp 201) (.tmp 202)⟩,⟨some 204,none,.load none (.tmp 203)⟩],[⟨some 185,none,.call 76 [.tmp 184,.const (.int .i64 6)]⟩],[⟨some 183,none,.load none (.tmp 182)⟩,⟨some 196,none,.load none (.tmp 195)⟩,⟨some 199,none,.load none (.tmp 198)⟩,⟨some 204,none,.load none (.tmp 203)⟩]),([],[⟨some 187,none,.call 76 [.tmp 186,.const (.int .i64 11)]⟩],[⟨some 183,none,.load none (.tmp 182)⟩,⟨some 196,none,.load none (.tmp 195)⟩,⟨some 199,none,.load none (.tmp 198)⟩,⟨some 204,none,.load none (.tmp 203)⟩]),([⟨some 188,none,.bin .xor (.tmp 185) (.tmp 187)⟩],[⟨some 190,none,.call 76 [.tmp 189,.const (.int .i64 25)]⟩],[⟨some 183,none,.load none (.tmp 182)⟩,⟨some 196,none,.load none (.tmp 195)⟩,⟨some 199,none,.load none (.tmp 198)⟩,⟨some 204,none,.load none (.tmp 203)⟩]),([⟨some 191,none,.bin .xor (.tmp 188) (.tmp 190)⟩,⟨some 192,none,.bin .add (.tmp 183) (.tmp 191)⟩,⟨some 194,none,.bin .add (.tmp 192) (.tmp 193)⟩,⟨some 200,none,.bin .add (.tmp 194) (.tmp 199)⟩,⟨some 205,none,.bin .add (.tmp 200) (.tmp 204)⟩,⟨some 21,none,.mv (.tmp 205)⟩],[],[])]) (.seq (.ops [⟨some 206,none,.mv (.tmp 18)⟩,⟨some 207,none,.call 76 [.tmp 206,.const (.int .i64 2)]⟩,⟨some 208,none,.mv (.tmp 18)⟩,⟨some 209,none,.call 76 [.tmp 208,.const (.int .i64 13)]⟩,⟨some 210,none,.bin .xor (.tmp 207) (.tmp 209)⟩,⟨some 211,none,.mv (.tmp 18)⟩,⟨some 212,none,.call 76 [.tmp 211,.const (.int .i64 22)]⟩,⟨some 213,none,.bin .xor (.tmp 210) (.tmp 212)⟩,⟨some 214,none,.mv (.tmp 20)⟩,⟨some 215,none,.bin .add (.tmp 213) (.tmp 214)⟩,⟨some 22,none,.mv (.tmp 215)⟩]) (.draw [([⟨some 216,none,.mv (.tmp 21)⟩,⟨some 217,none,.mv (.tmp 22)⟩,⟨some 218,none,.bin .add (.tmp 216) (.tmp 217)⟩,⟨some 219,none,.bin .rem (.tmp 218) (.const (.int .i64 4294967296))⟩,⟨some 220,none,.mv (.tmp 18)⟩,⟨some 221,none,.mv (.tmp 15)⟩,⟨some 222,none,.iAddrS 1 (.tmp 221) (.const (.int .i64 1))⟩,⟨some 223,none,.load none (.tmp 222)⟩,⟨some 224,none,.mv (.tmp 15)⟩,⟨some 225,none,.iAddrS 1 (.tmp 224) (.const (.int .i64 2))⟩,⟨some 226,none,.load none (.tmp 225)⟩,⟨some 227,none,.mv (.tmp 15)⟩,⟨some 228,none,.iAddrS 1 (.tmp 227) (.const (.int .i64 3))⟩,⟨some 229,none,.load none (.tmp 228)⟩,⟨some 230,none,.mv (.tmp 21)⟩,⟨some 231,none,.bin .add (.tmp 229) (.tmp 230)⟩,⟨some 232,none,.bin .rem (.tmp 231) (.const (.int .i64 4294967296))⟩,⟨some 233,none,.mv (.tmp 17)⟩,⟨some 234,none,.mv (.tmp 15)⟩,⟨some 235,none,.iAddrS 1 (.tmp 234) (.const (.int .i64 5))⟩,⟨some 236,none,.load none (.tmp 235)⟩,⟨some 237,none,.mv (.tmp 15)⟩,⟨some 238,none,.iAddrS 1 (.tmp 237) (.const (.int .i64 6))⟩,⟨some 239,none,.load none (.tmp 238)⟩],[⟨some 240,none,.buildS 8 (zl .i64 8) [(0,1,.tmp 219),(1,1,.tmp 220),(2,1,.tmp 223),(3,1,.tmp 226),(4,1,.tmp 232),(5,1,.tmp 233),(6,1,.tmp 236),(7,1,.tmp 239)]⟩],[]),([],[⟨some 15,none,.mv (.tmp 240)⟩],[]),([],[],[])]))))))) (.ops [⟨some 142,none,.mv (.tmp 16)⟩,⟨some 143,none,.bin .add (.tmp 142) (.const (.int .i64 1))⟩,⟨some 16,none,.mv (.tmp 143)⟩]))
def c38_8 : AC := .seq (.seq (.ops [⟨some 71,none,.mv (.tmp 12)⟩,⟨some 72,none,.bin .lss (.tmp 71) (.const (.int .i64 4))⟩]) (.cond (.tmp 72) .skip (.exit 8))) (.seq (.block 9 (.draw [([⟨some 75,none,.mv (.tmp 10)⟩,⟨some 76,none,.mv (.tmp 11)⟩,⟨some 77,none,.mv (.tmp 10)⟩,⟨some 78,none,.mv (.tmp 11)⟩,⟨some 79,none,.iAddrS 1 (.tmp 77) (.tmp 78)⟩,⟨some 80,none,.load none (.tmp 79)⟩,⟨some 81,none,.bin .mul (.const (.int .i64 256)) (.tmp 80)⟩,⟨some 82,none,.mv (.tmp 5)⟩,⟨some 83,none,.mv (.tmp 9)⟩,⟨some 84,none,.mv (.tmp 11)⟩,⟨some 85,none,.bin .mul (.const (.int .i64 4)) (.tmp 84)⟩,⟨some 86,none,.bin .add (.tmp 83) (.tmp 85)⟩,⟨some 87,none,.mv (.tmp 12)⟩,⟨some 88,none,.bin .add (.tmp 86) (.tmp 87)⟩,⟨some 89,none,.iAddrS 1 (.tmp 82) (.tmp 88)⟩,⟨some 90,none,.load none (.tmp 89)⟩,⟨some 91,none,.toInt .i64 (.tmp 90)⟩,⟨some 92,none,.bin .add (.tmp 81) (.tmp 91)⟩,⟨some 93,none,.iAddrS 1 (.tmp 75) (.tmp 76)⟩],[⟨none,none,.store 1 (.tmp 93) (.tmp 92)⟩],[]),([],[],[])])) (.ops [⟨some 73,none,.mv (.tmp 12)⟩,⟨some 74,none,.bin .add (.tmp 73) (.const (.int .i64 1))⟩,⟨some 12,none,.mv (.tmp 74)⟩]))
def c38_6 : AC := .seq (.seq (.ops [⟨some 65,none,.mv (.tmp 11)⟩,⟨some 66,none,.bin .lss (.tmp 65) (.const (.int .i64 64))⟩]) (.cond (.tmp 66) .skip (.exit 6))) (.seq (.block 7 (.seq (.seq (.ops [⟨some 69,none,.mv (.tmp 11)⟩,⟨some 70,none,.bin .lss (.tmp 69) (.const (.int .i64 16))⟩]) (.cond (.tmp 70) (.seq (.seq (.ops [⟨some 12,none,.mv (.const (.int .i64 0))⟩]) (.block 8 (.loop c38_8))) (.exit 7)) .skip)) (.seq (.draw [([⟨some 94,none,.mv (.tmp 10)⟩,⟨some 95,none,.mv (.tmp 11)⟩,⟨some 96,none,.bin .sub (.tmp 95) (.const (.int .i64 15))⟩,⟨some 97,none,.iAddrS 1 (.tmp 94) (.tmp 96)⟩,⟨some 98,none,.load none (.tmp 97)⟩,⟨some 99,none,.mv (.tmp 10)⟩,⟨some 100,none,.mv (.tmp 11)⟩,⟨some 101,none,.bin .sub (.tmp 100) (.const (.int .i64 2))⟩,⟨some 102,none,.iAddrS 1 (.tmp 99) (.tmp 101)⟩,⟨some 103,none,.load none (.tmp 102)⟩,⟨some 13,none,.mv (.tmp 98)⟩,⟨some 14,none,.mv (.tmp 103)⟩],[],[])]) (.draw [([⟨some 104,none,.mv (.tmp 10)⟩,⟨some 105,none,.mv (.tmp 11)⟩,⟨some 106,none,.mv (.tmp 13)⟩,⟨some 108,none,.mv (.tmp 13)⟩,⟨some 111,none,.mv (.tmp 13)⟩,⟨some 112,none,.bin .shr (.tmp 111) (.const (.int .u64 3))⟩,⟨some 114,none,.mv (.tmp 14)⟩,⟨some 116,none,.mv (.tmp 14)⟩,⟨some 119,none,.mv (.tmp 14)⟩,⟨some 120,none,.bin .shr (.tmp 119) (.const (.int .u64 10))⟩,⟨some 123,none,.mv (.tmp 10)⟩,⟨some 124,none,.mv (.tmp 11)⟩,⟨some 125,none,.bin .sub (.tmp 124) (.const (.int .i64 7))⟩,⟨some 126,none,.iAddrS 1 (.tmp 123) (.tmp 125)⟩,⟨some 127,none,.load none (.tmp 126)⟩,⟨some 129,none,.mv (.tmp 10)⟩,⟨some 130,none,.mv (.tmp 11)⟩,⟨some 131,none,.bin .sub (.tmp 130) (.const (.int .i64 16))⟩,⟨some 132,none,.iAddrS 1 (.tmp 129) (.tmp 131)⟩,⟨some 133,none,.load none (.tmp 132)⟩],[⟨some 107,none,.call 76 [.tmp 106,.const (.int .i64 7)]⟩],[⟨some 127,none,.load none (.tmp 126)⟩,⟨some 133,none,.load none (.tmp 132)⟩]),([],[⟨some 109,none,.call 76 [.tmp 108,.const (.int .i64 18)]⟩],[⟨some 127,none,.load none (.tmp 126)⟩,⟨some 133,none,.load none (.tmp 132)⟩]),([⟨some 110,none,.bin .xor (.tmp 107) (.tmp 109)⟩,⟨some 113,none,.bin .xor (.tmp 110) (.tmp 112)⟩],[⟨some 115,none,.call 76 [.tmp 114,.const (.int .i64 17)]⟩],[⟨some 127,none,.load none (.tmp 126)⟩,⟨some 133,none,.load none (.tmp 132)⟩]),([],[⟨some 117,none,.call 76 [.tmp 116,.const (.int .i64 19)]⟩],[⟨some 127,none,.load none (.tmp 126)⟩,⟨some 133,none,.load none (.tmp 132)⟩]),([⟨some 118,none,.bin .xor (.tmp 115) (.tmp 117)⟩,⟨some 121,none,.bin .xor (.tmp 118) (.tmp 120)⟩,⟨some 122,none,.bin .add (.tmp 113) (.tmp 121)⟩,⟨some 128,none,.bin .add (.tmp 122) (.tmp 127)⟩,⟨some 134,none,.bin .add (.tmp 128) (.tmp 133)⟩,⟨some 135,none,.bin .rem (.tmp 134) (.const (.int .i64 4294967296))⟩,⟨some 136,none,.iAddrS 1 (.tmp 104) (.tmp 105)⟩],[⟨none,none,.store 1 (.tmp 136) (.tmp 135)⟩],[]),([],[],[])])))) (.ops [⟨some 67,none,.mv (.tmp 11)⟩,⟨some 68,none,.bin .add (.tmp 67) (.const (.int .i64 1))⟩,⟨some 11,none,.mv (.tmp 68)⟩]))
def c38_4 : AC := .seq (.seq (.ops [⟨some 58,none,.mv (.tmp 9)⟩,⟨some 59,none,.mv (.tmp 5)⟩,⟨some 60,none,.lenS false (.tmp 59)⟩,⟨some 61,none,.bin .lss (.tmp 58) (.tmp 60)⟩]) (.cond (.tmp 61) .skip (.exit 4))) (.seq (.block 5 (.seq (.ops [⟨some 64,none,.mkSl [.int .i64 0] 8 (.const (.int .i64 64)) (.const (.int .i64 64))⟩,⟨some 10,none,.mv (.tmp 64)⟩]) (.seq (.seq (.ops [⟨some 11,none,.mv (.const (.int .i64 0))⟩]) (.block 6 (.loop c38_6))) (.seq (.ops [⟨some 137,none,.buildS 0 [] []⟩,⟨some 138,none,.mv (.tmp 8)⟩,⟨some 139,none,.app 1 8 3 (.tmp 137) (.tmp 138)⟩,⟨some 15,none,.mv (.tmp 139)⟩]) (.seq (.seq (.ops [⟨some 16,none,.mv (.const (.int .i64 0))⟩]) (.block 10 (.loop c38_10))) (.seq (.ops [⟨some 23,none,.mv (.const (.int .i64 0))⟩]) (.block 12 (.loop c38_12)))))))) (.ops [⟨some 62,none,.mv (.tmp 9)⟩,⟨some 63,none,.bin .add (.tmp 62) (.const (.int .i64 64))⟩,⟨some 9,none,.mv (.tmp 63)⟩]))
def c38_2 : AC := .seq (.seq (.ops [⟨some 40,none,.mv (.tmp 7)⟩,⟨some 41,none,.bin .geq (.tmp 40) (.const (.int .i64 0))⟩]) (.cond (.tmp 41) .skip (.exit 2))) (.seq (.block 3 (.ops [⟨some 44,none,.mv (.tmp 5)⟩,⟨some 45,none,.mv (.tmp 6)⟩,⟨some 46,none,.mv (.tmp 7)⟩,⟨some 47,none,.bin .mul (.const (.int .i64 8)) (.tmp 46)⟩,⟨some 48,none,.toInt .u64 (.tmp 47)⟩,⟨some 49,none,.bin .shr (.tmp 45) (.tmp 48)⟩,⟨some 50,none,.bin .rem (.tmp 49) (.const (.int .i64 256))⟩,⟨some 51,none,.toInt .u8 (.tmp 50)⟩,⟨some 52,none,.buildS 1 [.int .u8 0] [(0,1,.tmp 51)]⟩,⟨some 53,none,.app 1 1 5 (.tmp 44) (.tmp 52)⟩,⟨some 5,none,.mv (.tmp 53)⟩])) (.ops [⟨some 42,none,.mv (.tmp 7)⟩,⟨some 43,none,.bin .sub (.tmp 42) (.const (.int .i64 1))⟩,⟨some 7,none,.mv (.tmp 43)⟩]))
def c38_0 : AC := .seq (.seq (.ops [⟨some 30,none,.mv (.tmp 5)⟩,⟨some 31,none,.lenS false (.tmp 30)⟩,⟨some 32,none,.bin .rem (.tmp 31) (.const (.int .i64 64))⟩,⟨some 33,none,.bin .neq (.tmp 32) (.const (.int .i64 56))⟩]) (.cond (.tmp 33) .skip (.exit 0))) (.block 1 (.ops [⟨some 34,none,.mv (.tmp 5)⟩,⟨some 35,none,.buildS 1 [.int .u8 0] [(0,1,.const (.int .u8 0))]⟩,⟨some 36,none,.app 1 1 5 (.tmp 34) (.tmp 35)⟩,⟨some 5,none,.mv (.tmp 36)⟩]))
def c38 : AC := .seq (.ops [⟨some 2,none,.box (.tmp 0)⟩,⟨some 4,none,.alloc (zl .u8 32)⟩]) (.seq (.ops [⟨some 26,none,.mv (.tmp 1)⟩,⟨some 27,none,.toBytes 5 (.tmp 26)⟩,⟨some 28,none,.buildS 1 [.int .u8 0] [(0,1,.const (.int .u8 128))]⟩,⟨some 29,none,.app 1 1 5 (.tmp 27) (.tmp 28)⟩,⟨some 5,none,.mv (.tmp 29)⟩]) (.seq (.block 0 (.loop c38_0)) (.seq (.ops [⟨some 37,none,.mv (.tmp 1)⟩,⟨some 38,none,.lenS true (.tmp 37)⟩,⟨some 39,none,.bin .mul (.const (.int .i64 8)) (.tmp 38)⟩,⟨some 6,none,.mv (.tmp 39)⟩]) (.seq (.seq (.ops [⟨some 7,none,.mv (.const (.int .i64 7))⟩]) (.block 2 (.loop c38_2))) (.seq (.ops [⟨some 54,none,.buildS 0 [] []⟩,⟨some 55,none,.fAddr 0 (.tmp 2)⟩,⟨some 56,none,.load none (.tmp 55)⟩,⟨some 57,none,.app 1 8 3 (.tmp 54) (.tmp 56)⟩,⟨some 8,none,.mv (.tmp 57)⟩]) (.seq (.seq (.ops [⟨some 9,none,.mv (.const (.int .i64 0))⟩]) (.block 4 (.loop c38_4))) (.seq (.ops [⟨some 258,none,.build (zl .u8 32) []⟩,⟨some 24,none,.alloc (zl .u8 32)⟩,⟨none,none,.store 32 (.tmp 24) (.tmp 258)⟩]) (.seq (.seq (.ops [⟨some 25,none,.mv (.const (.int .i64 0))⟩]) (.block 14 (.loop c38_14))) (.seq (.ops [⟨some 278,none,.load (some 32) (.tmp 24)⟩,⟨none,none,.store 32 (.tmp 4) (.tmp 278)⟩]) .ret)))))))))
theorem k38 : compR Tryz.prog Tryz.f38 = some (c38, [.c 4 (some 32)]) := by kernel_rfl
theorem n38 : Tryz.f38.ntmps = 279 := by kernel_rfl
theorem wid (a : W32) : BitVec.ofInt 64 (tn a) = a.setWidth 64 := by
  apply BitVec.eq_of_toNat_eq
  unfold tn
  simp
theorem wrap64 {n : Nat} (h : n < 4294967296) : IntKind.i64.wrap (n : Int) = (n : Int) := i64_small (by omega) (by omega)
theorem t6 (op : W32 → W32 → W32) (op' : BitVec 64 → BitVec 64 → BitVec 64) (hop : ∀ a b : W32, (op' (a.setWidth 64) (b.setWidth 64)).toNat = (op a b).toNat) (a b : W32) :
    IntKind.i64.wrap (((op' (BitVec.ofInt 64 (tn a)) (BitVec.ofInt 64 (tn b))).toNat : Nat) : Int) = tn (op a b) := by
  rw [wid, wid, hop]
  exact wrap64 (op a b).isLt
theorem m64 (a : W32) : a.toNat % 18446744073709551616 = a.toNat := Nat.mod_eq_of_lt (by have := a.isLt; omega)
theorem t6_and (a b : W32) : abits .and .i64 (tn a) (tn b) = tn (a &&& b) := t6 (· &&& ·) (· &&& ·) (fun a b => by simp [m64]) a b
theorem t6_or (a b : W32) : abits .or .i64 (tn a) (tn b) = tn (a ||| b) := t6 (· ||| ·) (· ||| ·) (fun a b => by simp [m64]) a b
theorem t6_xor (a b : W32) : abits .xor .i64 (tn a) (tn b) = tn (a ^^^ b) := t6 (· ^^^ ·) (· ^^^ ·) (fun a b => by simp [m64]) a b
theorem t6_shr (a : W32) (k : Nat) (hk : k < 32) : (tn a).fdiv (2 ^ k) = tn (a >>> k) := by
  unfold tn
  rw [BitVec.toNat_ushiftRight, Nat.shiftRight_eq_div_pow, Int.fdiv_eq_ediv_of_nonneg _ (by exact_mod_cast Nat.zero_le (2 ^ k))]
  norm_cast
theorem t6_shl (a : W32) (k : Nat) (hk : k ≤ 30) : (IntKind.i64.wrap (tn a * 2 ^ k)).tmod 4294967296 = tn (a <<< k) := by
  have h1 : tn a * 2 ^ k = ((a.toNat * 2 ^ k : Nat) : Int) := by unfold tn; norm_cast
  have h2 : a.toNat * 2 ^ k < 4294967296 * 1073741824 := by
    have hp : 2 ^ k ≤ 2 ^ 30 := Nat.pow_le_pow_right (by omega) hk
    exact Nat.mul_lt_mul_of_lt_of_le a.isLt hp (by omega)
  rw [h1, i64_small (by omega) (by omega), show (4294967296 : Int) = ((4294967296 : Nat) : Int) by rfl, ← Int.ofNat_tmod]
  unfold tn
  rw [BitVec.toNat_shiftLeft, Nat.shiftLeft_eq]
theorem rturn_ok (x : W32) (n : Nat) (hn : 2 ≤ n ∧ n ≤ 31) (h : Heap) : ACalls Tryz.prog 76 [.int .i64 (tn x), .int .i64 (n : Int)] h fun v h' => v = .int .i64 (tn (rot n x)) ∧ h' = h := by
  refine ACalls.same .int (acalls_of mix Tryz.func76 k76 n76 (by simp) fun hcl hb => ?_)
  have b64 : IntKind.i64.bits = 64 := rfl
  have w1 : IntKind.u64.wrap (n : Int) = (n : Int) := by unfold IntKind.wrap; simp [IntKind.bits, IntKind.signed]; omega
  have w2 : IntKind.i64.wrap (32 - (n : Int)) = ((32 - n : Nat) : Int) := by rw [i64_small (by omega) (by omega)]; omega
  have w3 : IntKind.u64.wrap ((32 - n : Nat) : Int) = ((32 - n : Nat) : Int) := by unfold IntKind.wrap; simp [IntKind.bits, IntKind.signed]; omega
  have m1 : min n 64 = n := by omega
  have m2 : min (32 - n) 64 = 32 - n := by omega
  have g1 : (0 : Int) ≤ ((32 - n : Nat) : Int) := by omega
  have s1 := t6_shr x n (by omega)
  have s2 := t6_shl x (32 - n) (by omega)
  simp only [c76, s_seq, s_ops]
  generalize hq : 32 - n = q at *
  simp [w1, w2, w3, b64, m1, m2, g1, s1, s2, t6_or]
  refine ⟨?_, Heap.Ext.refl _⟩
  unfold rot
  rw [hq, BitVec.or_comm]

abbrev cN (x : Nat) : Value := .int .i64 (x : Int)
def V : List Nat → Nat
  | [] => 0
  | x :: r => x + 65536 * V r
def Lim (l : List Nat) : Prop := ∀ x ∈ l, x < 65536
theorem V_lt : ∀ l : List Nat, Lim l → V l < 65536 ^ l.length
  | [], _ => by simp [V]
  | x :: r, h => by
    have h1 := V_lt r fun y hy => h y (by simp [hy])
    have h2 := h x (by simp)
    rw [V, List.length_cons, Nat.pow_succ]
    omega
theorem V_set : ∀ (l : List Nat) (m x : Nat), m < l.length → V (l.set m x) + l.getD m 0 * 65536 ^ m = V l + x * 65536 ^ m
  | y :: r, 0, x, _ => by simp [V]; omega
  | y :: r, m + 1, x, h => by
    have := V_set r m x (by simpa using h)
    rw [List.set_cons_succ, V, V, Nat.pow_succ]
    have e : (y :: r).getD (m + 1) 0 = r.getD m 0 := rfl
    rw [e]
    have e1 : r.getD m 0 * (65536 ^ m * 65536) = 65536 * (r.getD m 0 * 65536 ^ m) := by rw [← Nat.mul_assoc, Nat.mul_comm]
    have e2 : x * (65536 ^ m * 65536) = 65536 * (x * 65536 ^ m) := by rw [← Nat.mul_assoc, Nat.mul_comm]
    rw [e1, e2]
    omega
theorem V_app : ∀ (l : List Nat) (x : Nat), V (l ++ [x]) = V l + x * 65536 ^ l.length
  | [], x => by simp [V]
  | y :: r, x => by
    rw [List.cons_append, V, V, V_app r x, List.length_cons, Nat.pow_succ]
    have e2 : x * (65536 ^ r.length * 65536) = 65536 * (x * 65536 ^ r.length) := by rw [← Nat.mul_assoc, Nat.mul_comm]
    rw [e2]
    omega
theorem V_zero : ∀ n : Nat, V (List.replicate n 0) = 0
  | 0 => rfl
  | n + 1 => by rw [List.replicate_succ, V, V_zero n]
theorem Lim_set {l : List Nat} (h : Lim l) {m x : Nat} (hx : x < 65536) : Lim (l.set m x) := fun y hy => by
  rcases List.mem_or_eq_of_mem_set hy with q | q
  · exact h y q
  · rw [q]; exact hx
theorem Lim_get {l : List Nat} (h : Lim l) (m : Nat) : l.getD m 0 < 65536 := by
  by_cases hm : m < l.length
  · rw [List.getD, List.getElem?_eq_getElem hm]; exact h _ (List.getElem_mem hm)
  · rw [List.getD, List.getElem?_eq_none (by omega)]; decide
theorem V_mono_take (l : List Nat) (i : Nat) (h : i < l.length) : V (l.take (i + 1)) = V (l.take i) + l.getD i 0 * 65536 ^ i := by
  rw [List.take_succ_eq_append_getElem h, V_app, List.length_take, Nat.min_eq_left (by omega), List.getD, List.getElem?_eq_getElem h]
  rfl
def lowV (n : Nat) : Nat → Nat
  | 0 => 0
  | 1 => n % 65536
  | 2 => n % 65536 + n / 65536 % 65536 * 65536
  | _ => n
def lows (n : Nat) : List Nat := [n % 65536, n / 65536 % 65536, n / 4294967296]
theorem lowV_succ (n k : Nat) (hk : k < 3) : lowV n (k + 1) = lowV n k + (lows n).getD k 0 * 65536 ^ k := by
  match k, hk with
  | 0, _ => simp [lowV, lows]
  | 1, _ => simp [lowV, lows]
  | 2, _ => simp [lowV, lows]; omega
theorem lowV_le (n k : Nat) : lowV n k ≤ n := by
  match k with
  | 0 => exact Nat.zero_le _
  | 1 => exact Nat.mod_le _ _
  | 2 => show n % 65536 + n / 65536 % 65536 * 65536 ≤ n; omega
  | k + 3 => exact Nat.le_refl _
def nl (l : List Nat) : List Value := l.map cN
theorem nl_len (l : List Nat) : (nl l).length = l.length := List.length_map _
theorem nl_get {l : List Nat} {i : Nat} (h : i < l.length) : (nl l)[i]? = some (.int .i64 ((l.getD i 0 : Nat) : Int)) := by
  unfold nl
  simp only [List.getElem?_map, List.getD, List.getElem?_eq_getElem h]
  rfl
theorem nl_set {l : List Nat} {i x : Nat} (h : i < l.length) : aput (nl l) i [.int .i64 (x : Int)] = nl (l.set i x) := by
  unfold aput nl
  rw [List.map_set]
  refine List.ext_getElem? fun j => ?_
  have hl : (l.map cN).length = l.length := List.length_map _
  rw [List.getElem?_set, List.append_assoc, List.getElem?_append, List.length_take, hl, Nat.min_eq_left (by omega)]
  by_cases h1 : j < i
  · rw [if_pos h1, List.getElem?_take, if_pos h1, if_neg (by omega)]
  · rw [if_neg h1]
    by_cases h2 : i = j
    · subst h2
      simp [h]
    · rw [if_neg h2, List.getElem?_append_right (by simp; omega), List.getElem?_drop]
      congr 1
      simp
      omega
theorem nl_bel {n : Nat} {l : List Nat} : ∀ x ∈ nl l, VBelow n x := fun x hx => by obtain ⟨y, _, rfl⟩ := List.mem_map.1 hx; exact .int

abbrev SlN (h : Heap) (v : Value) (l : List Nat) : Prop := Sl cN h v l
theorem nl_rep (n : Nat) : (List.replicate n [Value.int .i64 0]).flatten = nl (List.replicate n 0) := by
  unfold nl
  rw [List.map_replicate]
  induction n with
  | zero => rfl
  | succ n ih => rw [List.replicate_succ, List.flatten_cons, ih, List.replicate_succ]; rfl
theorem lows_len (n : Nat) : (lows n).length = 3 := rfl
theorem lows_lt {n k : Nat} (hn : n < 65536 ^ 3) (hk : k < 3) : (lows n).getD k 0 < 65536 := by
  match k, hk with
  | 0, _ => show n % 65536 < 65536; omega
  | 1, _ => show n / 65536 % 65536 < 65536; omega
  | 2, _ => show n / 4294967296 < 65536; omega
def mh (h : Heap) (out : List Nat) (n : Nat) : Heap := (h.push (.cells (nl out) .ex 1)).push (.cells (nl (lows n)) .ex 1)
theorem mh_n (h : Heap) (o : List Nat) (n : Nat) : (mh h o n).n = h.n + 1 + 1 := rfl
theorem mh_out (h : Heap) (o : List Nat) (n : Nat) : (mh h o n).cellsOf h.n = some (nl o, .ex, 1) := by
  unfold mh
  rw [cellsOf_ne (by show ¬ h.n = h.n + 1; omega)]
  exact cellsOf_new _ _ _ _
theorem mh_low (h : Heap) (o : List Nat) (n : Nat) : (mh h o n).cellsOf (h.n + 1) = some (nl (lows n), .ex, 1) := cellsOf_new _ _ _ _
theorem mh_set (h : Heap) (o o' : List Nat) (n : Nat) : (mh h o n).set h.n (.cells (nl o') .ex 1) = mh h o' n := by
  unfold mh
  rw [push_set (by show h.n < h.n + 1; omega), set_push']
theorem mh_closed {h : Heap} (hc : h.Closed) (o : List Nat) (n : Nat) : (mh h o n).Closed := closed_push (closed_push hc nl_bel) nl_bel
theorem mh_ext {h : Heap} (hc : h.Closed) (o : List Nat) (n : Nat) : h.Ext (mh h o n) := ((Heap.Ext.refl h).push hc _).push hc _
theorem mh_sub {h : Heap} (hc : h.Closed) (o : List Nat) (n : Nat) : (mh h o n).Sub h.n (mh h o n) := ⟨by rw [mh_n]; omega, Nat.le_refl _, fun _ _ e => e, mh_closed hc _ _⟩
structure MS where
  out : List Nat
  m : Nat
  c : Nat
theorem carry {out : List Nat} {m c T : Nat} (hm : m < out.length) (h : V out + c * 65536 ^ m = T) :
    V (out.set m ((c + out.getD m 0) % 65536)) + (c + out.getD m 0) / 65536 * 65536 ^ (m + 1) = T := by
  have := V_set out m ((c + out.getD m 0) % 65536) hm
  have e := Nat.div_add_mod (c + out.getD m 0) 65536
  have e2 : (c + out.getD m 0) * 65536 ^ m = (65536 * ((c + out.getD m 0) / 65536) + (c + out.getD m 0) % 65536) * 65536 ^ m := by rw [e]
  rw [Nat.add_mul, Nat.add_mul] at e2
  have e3 : (c + out.getD m 0) / 65536 * 65536 ^ (m + 1) = 65536 * ((c + out.getD m 0) / 65536) * 65536 ^ m := by
    rw [Nat.pow_succ]; ac_rfl
  rw [e3]
  omega
theorem V_take_le (l : List Nat) (i : Nat) : V (l.take i) ≤ V l := by
  by_cases h : i ≤ l.length
  · induction l generalizing i with
    | nil => simp
    | cons x r ih =>
      cases i with
      | zero => simp [V]
      | succ i => simp only [List.take_succ_cons, V]; have := ih i (by simpa using h); omega
  · rw [List.take_of_length_le (by omega)]; exact Nat.le_refl _
theorem room {c m A L n : Nat} (hc : 0 < c) (h : c * 65536 ^ m ≤ A * n) (hA : A < 65536 ^ L) (hn : n ≤ 65536 ^ 3) : m < L + 3 := by
  apply Classical.byContradiction
  intro hb
  have h1 : 65536 ^ (L + 3) ≤ 65536 ^ m := Nat.pow_le_pow_right (by omega) (by omega)
  have h2 : 65536 ^ m ≤ c * 65536 ^ m := Nat.le_mul_of_pos_left _ hc
  have h3 : A * n ≤ A * 65536 ^ 3 := Nat.mul_le_mul_left _ hn
  have h4 : A * 65536 ^ 3 < 65536 ^ L * 65536 ^ 3 := Nat.mul_lt_mul_of_pos_right hA (by decide)
  rw [Nat.pow_add] at h1
  omega
theorem mul_ok (a : List Nat) (ha : Lim a) (hal : a.length ≤ 1000) (n : Nat) (hn : n < 65536 ^ 3) (v : Value) (h : Heap) (hl : SlN h v a) :
    ACalls Tryz.prog 94 [v, .int .i64 (n : Int)] h fun r h' => ∃ out, SlN h' r out ∧ Lim out ∧ out.length = a.length + 4 ∧ V out = V a * n ∧ h.Sub h.n h' := by
  refine acalls_of mix Tryz.func94 k94 n94 (by simp) fun hcl hb => ?_
  have bl := Sl.below hl hcl
  obtain ⟨ad, c, rfl⟩ := Sl.form hl
  have w4 : IntKind.i64.wrap ((a.length : Int) + 4) = ((a.length + 4 : Nat) : Int) := by rw [i64_small (by omega) (by omega)]; omega
  have hmk : (0 : Int) ≤ ((a.length + 4 : Nat) : Int) ∧ ((a.length + 4 : Nat) : Int) ≤ ((a.length + 4 : Nat) : Int) ∧ ((a.length + 4 : Nat) : Int) * (8 + 1) ≤ 1099511627776 := ⟨by omega, by omega, by omega⟩
  have q1 : (n : Int).tmod 65536 = ((n % 65536 : Nat) : Int) := tmodN n 65536
  have q2 : (n : Int).tdiv 65536 = ((n / 65536 : Nat) : Int) := tdivN n 65536
  have q3 : ((n / 65536 : Nat) : Int).tmod 65536 = ((n / 65536 % 65536 : Nat) : Int) := tmodN _ 65536
  have q4 : (n : Int).tdiv 4294967296 = ((n / 4294967296 : Nat) : Int) := tdivN n 4294967296
  have n48 : n < 281474976710656 := hn
  have w2 : IntKind.i64.wrap ((n / 65536 : Nat) : Int) = ((n / 65536 : Nat) : Int) := i64_small (by omega) (by omega)
  have w3 : IntKind.i64.wrap ((n / 4294967296 : Nat) : Int) = ((n / 4294967296 : Nat) : Int) := i64_small (by omega) (by omega)
  have hfill : afill [.int .i64 0, .int .i64 0, .int .i64 0] [(0, 1, .int .i64 ((n % 65536 : Nat) : Int)), (1, 1, .int .i64 ((n / 65536 % 65536 : Nat) : Int)), (2, 1, .int .i64 ((n / 4294967296 : Nat) : Int))] = some (nl (lows n)) := rfl
  have hmk9 : ((a.length + 4 : Nat) : Int) * 9 ≤ 1099511627776 := by omega
  have hrep : List.replicate (a.length + 4) (Value.int .i64 0) = nl (List.replicate (a.length + 4) 0) := by simp [nl]
  have hfirst : (h.push (.cells (nl (List.replicate (a.length + 4) 0)) .ex 1)).push (.cells (nl (lows n)) .ex 1) = mh h (List.replicate (a.length + 4) 0) n := rfl
  simp only [c94, s_seq, s_ops]
  simp [-Int.natCast_add, -Int.natCast_emod, -Int.natCast_ediv, w4, hmk9, hrep, q1, q2, q3, q4, w2, w3, hfill, hfirst]
  refine awp_loop_of (α := Nat × List Nat) (fun x => x.1 ≤ a.length ∧ Lim x.2 ∧ x.2.length = a.length + 4 ∧ V x.2 = V (a.take x.1) * n)
    (fun x => [(0, .slice ad a.length c), (5, .slice (some ⟨h.n, 0, none⟩) (a.length + 4) (a.length + 4)), (6, .slice (some ⟨h.n + 1, 0, none⟩) 3 3), (7, .int .i64 x.1)]) (fun x => mh h x.2 n) (fun x => a.length - x.1) (0, List.replicate (a.length + 4) 0)
    ⟨Nat.zero_le _, fun x hx => by rw [List.eq_of_mem_replicate hx]; omega, List.length_replicate, by simp [V, V_zero]⟩ (mh_sub hcl _ _) (by simp [mh_n]; exact ⟨bl.mono (by omega), vb_slice (by omega), vb_slice (by omega), .int⟩) ?_
  rintro ⟨i, out⟩ ⟨hi, hlim, hlen, hV⟩
  dsimp only at hi hlim hlen hV
  by_cases hia : i < a.length
  · obtain ⟨b1, o1, cs1, m1, e1, rfl, _, g1, g1'⟩ := Sl.at hl hia
    have hi' : (i : Int) < a.length := by omega
    have hVs := V_mono_take a i hia
    have hle : V (a.take (i + 1)) ≤ V a := V_take_le _ _
    have haV := V_lt a ha
    have fa : ∀ o, (mh h o n).cellsOf b1 = some (cs1, m1, e1) := fun o => cellsOf_keep (mh_ext hcl _ _).m g1
    have hai : a.getD i 0 = a[i] := by rw [List.getD, List.getElem?_eq_getElem hia]; rfl
    have hax : a[i] < 65536 := ha _ (List.getElem_mem hia)
    rw [hai] at hVs
    simp [hi', hia]
    refine awp_loop_of (α := Nat × List Nat) (fun y => y.1 ≤ 3 ∧ Lim y.2 ∧ y.2.length = a.length + 4 ∧ V y.2 = V (a.take i) * n + a[i] * lowV n y.1 * 65536 ^ i)
      (fun y => [(0, .slice (some ⟨b1, o1, none⟩) a.length c), (5, .slice (some ⟨h.n, 0, none⟩) (a.length + 4) (a.length + 4)), (6, .slice (some ⟨h.n + 1, 0, none⟩) 3 3), (7, .int .i64 i), (8, .int .i64 y.1)]) (fun y => mh h y.2 n) (fun y => 3 - y.1) (0, out)
      ⟨Nat.zero_le _, hlim, hlen, by simp [lowV, hV]⟩ (mh_sub hcl _ _) (by simp [mh_n]; exact ⟨bl.mono (by omega), vb_slice (by omega), vb_slice (by omega), .int, .int⟩) ?_
    rintro ⟨k, out1⟩ ⟨hk, hlim1, hlen1, hV1⟩
    dsimp only at hk hlim1 hlen1 hV1
    by_cases hk3 : k < 3
    · have hk3' : (k : Int) < 3 := by omega
      have hlow : (nl (lows n))[k]? = some (.int .i64 (((lows n).getD k 0 : Nat) : Int)) := nl_get (by rw [lows_len]; exact hk3)
      have hlt := lows_lt hn hk3
      have hsucc := lowV_succ n k hk3
      generalize (lows n).getD k 0 = y at *
      have hmul : a[i] * y < 4294967296 := Nat.lt_of_le_of_lt (Nat.mul_le_mul (Nat.le_of_lt_succ hax) (Nat.le_of_lt_succ hlt)) (by decide)
      have hwc : IntKind.i64.wrap ((a[i] : Int) * (y : Int)) = ((a[i] * y : Nat) : Int) := by rw [← Int.natCast_mul]; exact wrap64 hmul
      have hwk : IntKind.i64.wrap ((i : Int) + (k : Int)) = ((i + k : Nat) : Int) := by rw [i64_small (by omega) (by omega)]; omega
      simp [hk3', aidx_of hia, aidx_of hk3, fa, mh_low, apart, g1', hlow, hwc, hwk, -Int.natCast_add, -Int.natCast_mul]
      have hT : V (a.take i) * n + a[i] * lowV n (k + 1) * 65536 ^ i ≤ V a * n := by
        have q1 : a[i] * lowV n (k + 1) * 65536 ^ i ≤ a[i] * 65536 ^ i * n := by
          have := Nat.mul_le_mul_left (a[i] * 65536 ^ i) (lowV_le n (k + 1))
          calc a[i] * lowV n (k + 1) * 65536 ^ i = a[i] * 65536 ^ i * lowV n (k + 1) := by ac_rfl
            _ ≤ _ := this
        have q2 := Nat.mul_le_mul_right n hle
        rw [hVs, Nat.add_mul] at q2
        omega
      generalize hTd : V (a.take i) * n + a[i] * lowV n (k + 1) * 65536 ^ i = T at *
      refine awp_loop_of (α := MS) (fun z => i + k ≤ z.m ∧ z.m ≤ a.length + 3 ∧ Lim z.out ∧ z.out.length = a.length + 4 ∧ V z.out + z.c * 65536 ^ z.m = T ∧ z.c < 8589934592)
        (fun z => [(0, .slice (some ⟨b1, o1, none⟩) a.length c), (5, .slice (some ⟨h.n, 0, none⟩) (a.length + 4) (a.length + 4)), (6, .slice (some ⟨h.n + 1, 0, none⟩) 3 3), (7, .int .i64 i), (8, .int .i64 k), (9, .int .i64 z.c), (10, .int .i64 z.m)]) (fun z => mh h z.out n) (fun z => a.length + 4 - z.m) ⟨out1, i + k, a[i] * y⟩
        ⟨Nat.le_refl _, by show i + k ≤ a.length + 3; omega, hlim1, hlen1, by
          show V out1 + a[i] * y * 65536 ^ (i + k) = T
          rw [← hTd, hV1, hsucc, Nat.mul_add, Nat.add_mul, Nat.pow_add, Nat.add_assoc]
          congr 2
          ac_rfl, by show a[i] * y < 8589934592; omega⟩ (mh_sub hcl _ _) (by simp [mh_n]; exact ⟨bl.mono (by omega), vb_slice (by omega), vb_slice (by omega), .int, .int, .int, .int⟩) ?_
      rintro ⟨out2, m, cc⟩ ⟨hm, hm4, hlim2, hlen2, hV2, hcc⟩
      dsimp only at hm hm4 hlim2 hlen2 hV2 hcc
      by_cases hc0 : 0 < cc
      · have hc0' : (0 : Int) < (cc : Int) := by omega
        have hmr : m < a.length + 3 := room hc0 (Nat.le_trans (by omega : cc * 65536 ^ m ≤ T) hT) haV (Nat.le_of_lt hn)
        have hml : m < a.length + 4 := by omega
        have hgm := nl_get (l := out2) (i := m) (by omega)
        have hcar := carry (m := m) (c := cc) (by omega) hV2
        have hlg := Lim_get hlim2 m
        have hput := nl_set (l := out2) (i := m) (x := (cc + out2.getD m 0) % 65536) (by omega)
        generalize out2.getD m 0 = g at *
        have e1 : IntKind.i64.wrap ((cc : Int) + (g : Int)) = ((cc + g : Nat) : Int) := by rw [← Int.natCast_add]; exact i64_small (by omega) (by omega)
        have e2 : ((cc + g : Nat) : Int).tmod 65536 = (((cc + g) % 65536 : Nat) : Int) := tmodN _ _
        have e3 : ((cc + g : Nat) : Int).tdiv 65536 = (((cc + g) / 65536 : Nat) : Int) := tdivN _ _
        have e4 : IntKind.i64.wrap (((cc + g) / 65536 : Nat) : Int) = (((cc + g) / 65536 : Nat) : Int) := i64_small (by omega) (by omega)
        have e5 : IntKind.i64.wrap ((m : Int) + 1) = ((m + 1 : Nat) : Int) := by rw [i64_small (by omega) (by omega)]; omega
        simp [hc0', hc0, aidx_of hml, mh_out, apart, hgm, e1, e2, e3, e4, e5, mcells, nl_len, hlen2, hput, mh_set, hm4, -Int.natCast_add, -Int.natCast_mul, -Int.natCast_emod, -Int.natCast_ediv]
        refine ⟨⟨out2.set m ((cc + g) % 65536), m + 1, (cc + g) / 65536⟩, by show a.length + 4 - (m + 1) < _; omega, ⟨by show i + k ≤ m + 1; omega, by show m + 1 ≤ _; omega, Lim_set hlim2 (by omega), by rw [List.length_set]; exact hlen2, hcar, by show (cc + g) / 65536 < _; omega⟩, mh_sub hcl _ _, bl.mono (by show h.n ≤ h.n + 1 + 1; omega), vb_slice (by show h.n < h.n + 1 + 1; omega), vb_slice (by show h.n + 1 < h.n + 1 + 1; omega), .int, .int, ⟨rfl, .int⟩, rfl, .int⟩
      · have hcz : cc = 0 := by omega
        subst hcz
        have hwk1 : IntKind.i64.wrap ((k : Int) + 1) = ((k + 1 : Nat) : Int) := by rw [i64_small (by omega) (by omega)]; omega
        simp [hwk1, -Int.natCast_add]
        rw [Nat.zero_mul, Nat.add_zero] at hV2
        refine ⟨k + 1, by omega, out2, ⟨by omega, hlim2, hlen2, hV2.trans hTd.symm⟩, mh_sub hcl _ _, bl.mono (by show h.n ≤ h.n + 1 + 1; omega), vb_slice (by show h.n < h.n + 1 + 1; omega), vb_slice (by show h.n + 1 < h.n + 1 + 1; omega), .int, rfl, .int⟩
    · have hk33 : k = 3 := by omega
      subst hk33
      have hwi : IntKind.i64.wrap ((i : Int) + 1) = ((i + 1 : Nat) : Int) := by rw [i64_small (by omega) (by omega)]; omega
      simp [hwi, -Int.natCast_add]
      refine ⟨i + 1, by omega, out1, ⟨by omega, hlim1, hlen1, ?_⟩, mh_sub hcl _ _, bl.mono (by show h.n ≤ h.n + 1 + 1; omega), vb_slice (by show h.n < h.n + 1 + 1; omega), vb_slice (by show h.n + 1 < h.n + 1 + 1; omega), rfl, .int⟩
      rw [hV1, hVs, Nat.add_mul]
      show _ + a[i] * n * 65536 ^ i = _
      congr 1
      ac_rfl
  · have hie : i = a.length := by omega
    subst hie
    simp
    rw [List.take_of_length_le (Nat.le_refl _)] at hV
    refine ⟨out, ?_, hlim, hlen, hV, (mh_ext hcl _ _).sub hcl⟩
    exact .inr ⟨h.n, 0, a.length + 4, nl out, .ex, 1, by rw [hlen], mh_out _ _ _, by omega, fun _ => by rw [nl_len]; omega, fun j hj => by
      rw [Nat.zero_add, nl_get hj, List.getD, List.getElem?_eq_getElem hj]; rfl⟩

def tl : AC → AC
  | .seq _ b => b
  | a => a
def hd : AC → AC
  | .seq a _ => a
  | a => a
theorem V_split (l : List Nat) (k : Nat) (h : k ≤ l.length) : V l = V (l.take k) + 65536 ^ k * V (l.drop k) := by
  induction k generalizing l with
  | zero => simp [V]
  | succ k ih =>
    cases l with
    | nil => simp at h
    | cons x r =>
      simp only [List.take_succ_cons, List.drop_succ_cons, V]
      rw [ih r (by simpa using h), Nat.pow_succ, Nat.mul_add, ← Nat.mul_assoc, Nat.mul_comm 65536 (65536 ^ k)]
      omega
theorem V_drop_get (l : List Nat) (i : Nat) (h : i < l.length) : V (l.drop i) = l.getD i 0 + 65536 * V (l.drop (i + 1)) := by
  rw [List.drop_eq_getElem_cons h, V, List.getD, List.getElem?_eq_getElem h]; rfl
theorem V_drop_ge (l : List Nat) (i j : Nat) (hij : i ≤ j) : V (l.drop j) ≤ V (l.drop i) := by
  induction j with
  | zero => have : i = 0 := by omega
            subst this; exact Nat.le_refl _
  | succ j ih =>
    by_cases hj : i ≤ j
    · refine Nat.le_trans ?_ (ih hj)
      by_cases hl : j < l.length
      · rw [V_drop_get l j hl]; omega
      · rw [List.drop_eq_nil_of_le (by omega)]; exact Nat.zero_le _
    · have : i = j + 1 := by omega
      subst this; exact Nat.le_refl _
theorem V_eq_zero : ∀ l : List Nat, V l = 0 ↔ ∀ x ∈ l, x = 0
  | [] => by simp [V]
  | x :: r => by
    have := V_eq_zero r
    simp only [V, List.mem_cons, forall_eq_or_imp]
    constructor
    · intro h; exact ⟨by omega, this.1 (by omega)⟩
    · intro ⟨h1, h2⟩; have := this.2 h2; omega
def leP (l : List Nat) (p k : Nat) : Bool := decide (V l ≤ p * 65536 ^ k)
theorem leP_hi {l : List Nat} {p k : Nat} (hk : k ≤ l.length) (h : p < V (l.drop k)) : leP l p k = false := by
  unfold leP
  rw [decide_eq_false_iff_not, V_split l k hk]
  have : (p + 1) * 65536 ^ k ≤ V (l.drop k) * 65536 ^ k := Nat.mul_le_mul_right _ h
  have h0 : 0 < 65536 ^ k := Nat.pow_pos (by decide)
  rw [Nat.mul_comm (65536 ^ k), Nat.add_mul] at *
  omega
theorem leP_lo {l : List Nat} {p k : Nat} (hl : Lim l) (hk : k ≤ l.length) (h : V (l.drop k) < p) : leP l p k = true := by
  unfold leP
  rw [decide_eq_true_eq, V_split l k hk]
  have h1 := V_lt (l.take k) fun x hx => hl x (List.mem_of_mem_take hx)
  rw [List.length_take, Nat.min_eq_left hk] at h1
  have : (V (l.drop k) + 1) * 65536 ^ k ≤ p * 65536 ^ k := Nat.mul_le_mul_right _ h
  rw [Nat.mul_comm (65536 ^ k), Nat.add_mul] at *
  omega
theorem leP_eq {l : List Nat} {p k : Nat} (hk : k ≤ l.length) (h : V (l.drop k) = p) : leP l p k = decide (V (l.take k) = 0) := by
  unfold leP
  rw [V_split l k hk, h, Nat.mul_comm]
  congr 1
  apply propext
  omega
theorem fits_tail {n0 : Nat} {R : Value → Heap → Prop} (l : List Nat) (hl : Lim l) (hll : l.length ≤ 100) (p k : Nat) (hp : p ≤ 1000000) (hk : k ≤ l.length) (v : Value) (H : Heap) (hcl : H.Closed) (hn : n0 ≤ H.n) (hs : SlN H v l) (f : AF)
    (f1 : f 1 = .int .i64 (p : Int)) (f7 : f 7 = v) (f8 : f 8 = .int .i64 (k : Int)) (hR : R (.bool (leP l p k)) H) : awp Tryz.prog n0 (tl (tl (tl (tl c60)))) (apost [6] R) f H := by
  have bl := Sl.below hs hcl
  obtain ⟨ad, c, rfl⟩ := Sl.form hs
  simp only [c60, tl, s_seq, s_ops]
  have w0 : IntKind.i64.wrap ((l.length : Int) - 1) = (l.length : Int) - 1 := IntWalk.i64_in _ (by omega)
  simp [f7, w0]
  have hget : ∀ i, i < l.length → ∃ b o cs m e, ad = some ⟨b, o, none⟩ ∧ H.cellsOf b = some (cs, m, e) ∧ cs[o + i]? = some (.int .i64 ((l.getD i 0 : Nat) : Int)) := fun i hi => by
    obtain ⟨b, o, cs, m, e, h1, _, h2, h3⟩ := Sl.at hs hi
    exact ⟨b, o, cs, m, e, h1, h2, by rw [h3, List.getD, List.getElem?_eq_getElem hi]; rfl⟩
  refine awp_loop_of (α := Nat) (fun j => k ≤ j ∧ j ≤ l.length ∧ V (l.drop j) ≤ 65536065535)
    (fun j => [(1, .int .i64 p), (7, .slice ad l.length c), (8, .int .i64 k), (9, .int .i64 (V (l.drop j))), (10, .int .i64 ((j : Int) - 1))]) (fun _ => H) (fun j => j) l.length
    ⟨hk, Nat.le_refl _, by rw [List.drop_eq_nil_of_le (Nat.le_refl _)]; exact Nat.zero_le _⟩ ((Heap.Sub.refl hcl).weak hn) (by simp [f1, f7, f8, V]; exact ⟨.int, bl, .int, .int, .int⟩) ?_
  rintro j ⟨hkj, hjl, hVj⟩
  by_cases hlt : k < j
  · have hlt' : (k : Int) ≤ (j : Int) - 1 := by omega
    by_cases hbig : 1000000 < V (l.drop j)
    · have hbig' : (1000000 : Int) < ((V (l.drop j) : Nat) : Int) := by omega
      have hf : leP l p k = false := leP_hi hk (by have := V_drop_ge l k j hkj; omega)
      rw [hf] at hR
      simp [hlt', hbig', hR]
    · have hbig' : ¬ (1000000 : Int) < ((V (l.drop j) : Nat) : Int) := by omega
      obtain ⟨b, o, cs, m, e, rfl, g1, g2⟩ := hget (j - 1) (by omega)
      have hix : aidx (.int .i64 ((j : Int) - 1)) l.length = some (j - 1) := by
        have := aidx_of (k := .i64) (i := j - 1) (n := l.length) (by omega)
        rwa [show ((j - 1 : Nat) : Int) = (j : Int) - 1 by omega] at this
      have hd := V_drop_get l (j - 1) (by omega)
      rw [show j - 1 + 1 = j by omega] at hd
      have hlg := Lim_get hl (j - 1)
      generalize V (l.drop j) = X at *
      generalize l.getD (j - 1) 0 = g at *
      have e1 : IntKind.i64.wrap (65536 * (X : Int)) = 65536 * (X : Int) := i64_small (by omega) (by omega)
      have e2 : IntKind.i64.wrap (65536 * (X : Int) + (g : Int)) = ((V (l.drop (j - 1)) : Nat) : Int) := by rw [i64_small (by omega) (by omega), hd]; omega
      have e3 : IntKind.i64.wrap ((j : Int) - 1 - 1) = ((j - 1 : Nat) : Int) - 1 := by rw [IntWalk.i64_in _ (by omega)]; omega
      simp [hlt', hbig', hix, g1, g2, apart, e1, e2, e3]
      exact ⟨j - 1, by omega, ⟨by omega, by omega, by omega⟩, (Heap.Sub.refl hcl).weak hn, .int, bl, .int, ⟨rfl, .int⟩, rfl, .int⟩
  · have hjk : j = k := by omega
    subst hjk
    have hlt' : ¬ (j : Int) ≤ (j : Int) - 1 := by omega
    by_cases hne : V (l.drop j) = p
    · have hne' : ((V (l.drop j) : Nat) : Int) = (p : Int) := by omega
      have hf := leP_eq hk hne
      simp [hlt', hne']
      refine awp_loop_of (α := Nat) (fun i => i ≤ j ∧ ∀ x ∈ l.take i, x = 0)
        (fun i => [(7, .slice ad l.length c), (8, .int .i64 j), (11, .int .i64 i)]) (fun _ => H) (fun i => j - i) 0
        ⟨Nat.zero_le _, by simp⟩ ((Heap.Sub.refl hcl).weak hn) (by simp; exact ⟨bl, .int, .int⟩) ?_
      rintro i ⟨hij, hz⟩
      by_cases hi : i < j
      · have hi' : (i : Int) < j := by omega
        obtain ⟨b, o, cs, m, e, rfl, g1, g2⟩ := hget i (by omega)
        have e1 : IntKind.i64.wrap ((i : Int) + 1) = ((i + 1 : Nat) : Int) := by rw [IntWalk.i64_in _ (by omega)]; omega
        have htk : ∀ x ∈ l.take (i + 1), x ∈ l.take i ∨ x = l.getD i 0 := fun x hx => by
          rw [List.take_succ_eq_append_getElem (by omega)] at hx
          rcases List.mem_append.1 hx with q | q
          · exact .inl q
          · right
            rw [List.getD, List.getElem?_eq_getElem (by omega)]
            simpa using q
        have hin : l.getD i 0 ∈ l.take j := by
          rw [List.getD, List.getElem?_eq_getElem (by omega)]
          exact List.mem_iff_getElem.2 ⟨i, by rw [List.length_take]; omega, by simp⟩
        generalize l.getD i 0 = g at *
        by_cases hg : g = 0
        · subst hg
          simp [hi', aidx_of (show i < l.length by omega), g1, g2, apart, e1, -Int.natCast_add]
          refine ⟨i + 1, by omega, ⟨by omega, fun x hx => ?_⟩, (Heap.Sub.refl hcl).weak hn, bl, .int, rfl, .int⟩
          rcases htk x hx with q | q
          · exact hz x q
          · exact q
        · have hg' : ¬ (g : Int) = 0 := by omega
          have hnz : ¬ V (l.take j) = 0 := fun q => hg ((V_eq_zero _).1 q g hin)
          rw [hf, decide_eq_false hnz] at hR
          simp [hi', aidx_of (show i < l.length by omega), g1, g2, apart, hg, hR]
      · have hij' : i = j := by omega
        subst hij'
        have hnz : V (l.take i) = 0 := (V_eq_zero _).2 hz
        rw [hf, decide_eq_true hnz] at hR
        simp [hR]
    · have hne' : ¬ ((V (l.drop j) : Nat) : Int) = (p : Int) := by omega
      have hf : leP l p j = decide (V (l.drop j) < p) := by
        by_cases q : V (l.drop j) < p
        · rw [leP_lo hl hk q, decide_eq_true q]
        · rw [leP_hi hk (by omega), decide_eq_false q]
      rw [hf] at hR
      simp [hlt', hne', hR]
def fitsN (x p : Nat) (two : Bool) : Bool := if two then decide (x * x ≤ p * 65536 ^ 4) else decide (x * x * x ≤ p * 65536 ^ 6)
theorem fits_ok (x p : Nat) (hx : x < 65536 ^ 3) (hp : p ≤ 1000000) (two : Bool) (h : Heap) : ACalls Tryz.prog 60 [.int .i64 (x : Int), .int .i64 (p : Int), .bool two] h fun v h' => v = .bool (fitsN x p two) ∧ h' = h := by
  refine ACalls.same .bool (acalls_of mix Tryz.func60 k60 n60 (by simp) fun hcl hb => ?_)
  have fil : afill [.int .i64 0] [(0, 1, .int .i64 1)] = some (nl [1]) := rfl
  obtain ⟨T, hT⟩ : ∃ T, tl (tl (tl (tl c60))) = T := ⟨_, rfl⟩
  have hc : c60 = .seq (hd c60) (.seq (hd (tl c60)) (.seq (hd (tl (tl c60))) (.seq (hd (tl (tl (tl c60)))) T))) := by rw [← hT]; rfl
  rw [hc]
  simp only [c60, hd, tl, s_seq, s_ops]
  simp [fil]
  have hc1 : (h.push (.cells (nl [1]) .ex 1)).Closed := closed_push hcl nl_bel
  have s1 : SlN (h.push (.cells (nl [1]) .ex 1)) (.slice (some ⟨h.n, 0, none⟩) 1 1) [1] := .inr ⟨h.n, 0, 1, nl [1], .ex, 1, rfl, cellsOf_new _ _ _ _, Nat.le_refl _, fun _ => by simp [nl], fun i hi => by
    have : i = 0 := by simpa using hi
    subst this; rfl⟩
  refine (mul_ok [1] (fun x hx => by simp at hx; omega) (by simp) x hx _ _ s1).mono' ?_
  rintro v1 h1 hcl1 hv1 ⟨o1, sl1, lim1, len1, V1, sub1⟩
  simp
  refine (mul_ok o1 lim1 (by rw [len1]; simp) x hx _ _ sl1).mono' ?_
  rintro v2 h2 hcl2 hv2 ⟨o2, sl2, lim2, len2, V2, sub2⟩
  have hext : h.Ext h1 := ((Heap.Ext.refl h).push hcl _).trans ⟨sub1.hi, sub1.sub⟩
  have hext2 : h.Ext h2 := hext.trans ⟨sub2.hi, sub2.sub⟩
  have e0 : V [1] = 1 := rfl
  rw [e0, Nat.one_mul] at V1
  rw [V1] at V2
  rw [len1] at len2
  have len2' : o2.length = 9 := len2
  cases two with
  | true =>
    simp [aun]
    rw [← hT]
    refine fits_tail o2 lim2 (by omega) p 4 hp (by omega) v2 h2 hcl2 hext2.n sl2 _ ?_ ?_ ?_ ?_
    · simp
    · simp
    · simp
    refine ⟨?_, hext2⟩
    unfold leP fitsN
    rw [V2, if_pos rfl]
  | false =>
    simp [aun]
    refine (mul_ok o2 lim2 (by omega) x hx _ _ sl2).mono' ?_
    rintro v3 h3 hcl3 hv3 ⟨o3, sl3, lim3, len3, V3, sub3⟩
    have hext3 : h.Ext h3 := hext2.trans ⟨sub3.hi, sub3.sub⟩
    simp
    rw [← hT]
    refine fits_tail o3 lim3 (by omega) p 6 hp (by omega) v3 h3 hcl3 hext3.n sl3 _ ?_ ?_ ?_ ?_
    · simp
    · simp
    · simp
    refine ⟨?_, hext3⟩
    unfold leP fitsN
    rw [V3, V2, if_neg (by decide)]

def rootGo (p : Nat) (two : Bool) : Nat → Nat → Nat
  | 0, x => x
  | b + 1, x => rootGo p two b (if fitsN (x + 2 ^ b) p two then x + 2 ^ b else x)
def rootN (p : Nat) (two : Bool) : Nat := rootGo p two 36 0 % 4294967296
theorem root_ok (p : Nat) (hp : p ≤ 1000000) (two : Bool) (h : Heap) : ACalls Tryz.prog 26 [.int .i64 (p : Int), .bool two] h fun v h' => v = .int .i64 ((rootN p two : Nat) : Int) ∧ h' = h := by
  refine ACalls.same .int (acalls_of mix Tryz.func26 k26 n26 (by simp) fun hcl hb => ?_)
  simp [c26]
  refine awp_loop_of (α := Nat × Nat) (fun z => z.1 ≤ 36 ∧ rootGo p two z.1 z.2 = rootGo p two 36 0 ∧ z.2 + 2 ^ z.1 ≤ 2 ^ 36)
    (fun z => [(0, .int .i64 p), (1, .bool two), (5, .int .i64 z.2), (6, .int .i64 ((z.1 : Int) - 1))]) (fun _ => h) (fun z => z.1) (36, 0)
    ⟨Nat.le_refl _, rfl, by simp⟩ (Heap.Sub.refl hcl) (by simp; exact ⟨.int, .bool, .int, .int⟩) ?_
  rintro ⟨j, x⟩ ⟨hj, hr, hx⟩
  dsimp only at hj hr hx
  cases j with
  | zero =>
    have hm : ((x : Nat) : Int).tmod 4294967296 = ((rootN p two : Nat) : Int) := by
      rw [show (4294967296 : Int) = ((4294967296 : Nat) : Int) from rfl, tmodN]
      unfold rootN
      rw [← hr]; rfl
    simp [hm]
    exact Heap.Ext.refl _
  | succ b =>
    have hb0 : (0 : Int) ≤ (b : Int) := by omega
    have hpow : 2 ^ b ≤ 2 ^ 35 := Nat.pow_le_pow_right (by omega) (by omega)
    have hps : 2 ^ (b + 1) = 2 ^ b + 2 ^ b := by rw [Nat.pow_succ]; omega
    have w1 : IntKind.u64.wrap (b : Int) = (b : Int) := by unfold IntKind.wrap; simp [IntKind.bits, IntKind.signed]; omega
    have m1 : min b 64 = b := by omega
    have b64 : IntKind.i64.bits = 64 := rfl
    generalize hP : 2 ^ b = B at *
    have w2 : IntKind.i64.wrap ((2 : Int) ^ b) = (B : Int) := by
      have : (2 : Int) ^ b = ((2 ^ b : Nat) : Int) := by norm_cast
      rw [this, hP]; exact IntWalk.i64_in _ (by omega)
    have w3 : IntKind.i64.wrap ((x : Int) + (B : Int)) = ((x + B : Nat) : Int) := by rw [IntWalk.i64_in _ (by omega)]; omega
    have w4 : IntKind.i64.wrap ((b : Int) - 1) = (b : Int) - 1 := IntWalk.i64_in _ (by omega)
    have hgo : rootGo p two (b + 1) x = rootGo p two b (if fitsN (x + B) p two then x + B else x) := by rw [rootGo, hP]
    rw [hgo] at hr
    have hb1 : (((b + 1 : Nat) : Int) - 1) = b := by omega
    simp [hb0, hb1, w1, w2, w3, w4, m1, b64, -Int.natCast_add]
    refine (fits_ok (x + B) p (by omega) hp two h).mono ?_
    rintro _ _ ⟨rfl, rfl⟩
    cases hf : fitsN (x + B) p two with
    | true =>
      rw [hf, if_pos rfl] at hr
      simp [w4, hb1, -Int.natCast_add]
      exact ⟨b, by omega, x + B, ⟨by omega, hr, by omega⟩, Heap.Sub.refl hcl, .int, .bool, ⟨rfl, .int⟩, rfl, .int⟩
    | false =>
      rw [hf, if_neg (by decide)] at hr
      simp [w4, hb1, -Int.natCast_add]
      exact ⟨b, by omega, x, ⟨by omega, hr, by omega⟩, Heap.Sub.refl hcl, .int, .bool, ⟨rfl, .int⟩, rfl, .int⟩

def ndiv (n q : Nat) : Bool := !decide (n % q = 0)
def pr : Nat → List Nat
  | 0 => []
  | k + 1 => let l := pr k; if l.all (ndiv (k + 2)) then l ++ [k + 2] else l
theorem pr_len (k : Nat) : (pr k).length ≤ (pr (k + 1)).length := by
  rw [pr]
  split
  · simp
  · exact Nat.le_refl _
theorem pr_mono (j : Nat) : ∀ k, k ≤ j → (pr k).length ≤ (pr j).length := by
  induction j with
  | zero => intro k hk; have : k = 0 := by omega
            subst this; exact Nat.le_refl _
  | succ j ih =>
    intro k hk
    by_cases h : k = j + 1
    · subst h; exact Nat.le_refl _
    · exact Nat.le_trans (ih k (by omega)) (pr_len j)
theorem pr_two : ∀ k, ∀ x ∈ pr k, 2 ≤ x ∧ x ≤ k + 1
  | 0, x, hx => by cases hx
  | k + 1, x, hx => by
    rw [pr] at hx
    split at hx
    · rcases List.mem_append.1 hx with q | q
      · have := pr_two k x q; omega
      · simp at q; omega
    · have := pr_two k x hx; omega
theorem pr_309 : (pr 309).length = 63 := by decide +kernel
theorem pr_310 : (pr 310).length = 64 := by decide +kernel
structure PSr where
  k : Nat
  nm : Option Nat
  v : Value
  H : Heap
structure Grr (h H : Heap) : Prop where
  n : h.n ≤ H.n
  cl : H.Closed
  m : ∀ y ob, h.m y = some ob → H.m y = some ob
theorem Grr.push {h H : Heap} (g : Grr h H) {o : AObj} (ho : o.Below (H.n + 1)) : Grr h (H.push o) :=
  ⟨Nat.le_succ_of_le g.n, closed_push g.cl ho, fun y ob e => by have q := g.m y ob e; rw [push_m, if_neg (by have := (g.cl y ob q).1; omega)]; exact q⟩
theorem Grr.sub {h H : Heap} (g : Grr h H) : H.Sub h.n H := ⟨g.n, Nat.le_refl _, fun _ _ e => e, g.cl⟩
theorem Grr.ext {h H : Heap} (g : Grr h H) : h.Ext H := ⟨g.n, g.m⟩
theorem Grr.refl {h : Heap} (hc : h.Closed) : Grr h h := ⟨Nat.le_refl _, hc, fun _ _ e => e⟩
theorem primes_ok (h : Heap) : ACalls Tryz.prog 25 [] h fun r h' => SlN h' r (pr 310) ∧ h.Sub h.n h' := by
  refine acalls_of mix Tryz.func25 k25 n25 (by simp) fun hcl hb => ?_
  simp [c25, afill]
  have m0 := LAt.made h 1
  have g0 : Grr h (h.push (.cells [] .ex 1)) := (Grr.refl hcl).push (fun x hx => by cases hx)
  refine awp_loop_of (α := PSr) (fun z => z.k ≤ 310 ∧ LAt z.H 1 z.nm z.v (pr z.k).length (nl (pr z.k)) ∧ Grr h z.H ∧ ∀ x, z.nm = some x → h.n ≤ x)
    (fun z => [(1, z.v), (2, .int .i64 ((z.k + 2 : Nat) : Int))]) (fun z => z.H) (fun z => 310 - z.k) ⟨0, some h.n, .slice (some ⟨h.n, 0, none⟩) 0 0, h.push (.cells [] .ex 1)⟩
    ⟨Nat.zero_le _, m0, g0, fun x e => by cases e; exact Nat.le_refl _⟩ g0.sub (by simp; exact ⟨m0.below g0.cl, .int⟩) ?_
  rintro ⟨k, nm, v, H⟩ ⟨hk, hl, hg, hnm⟩
  dsimp only at hk hl hg hnm ⊢
  have hbl := hl.below hg.cl
  have hsl : SlN H v (pr k) := hl.sl
  obtain ⟨ad, rfl⟩ := hl.form
  by_cases hlt : (pr k).length < 64
  · have hk309 : k < 310 := by
      apply Classical.byContradiction
      intro q
      have : k = 310 := by omega
      rw [this, pr_310] at hlt
      omega
    have hlt' : ((pr k).length : Int) < 64 := by omega
    have htwo := pr_two k
    have hstep : pr (k + 1) = if (pr k).all (ndiv (k + 2)) then pr k ++ [k + 2] else pr k := rfl
    have hge : ∀ i, i < (pr k).length → ∃ b o cs m e, ad = some ⟨b, o, none⟩ ∧ H.cellsOf b = some (cs, m, e) ∧ cs[o + i]? = some (.int .i64 (((pr k).getD i 0 : Nat) : Int)) ∧ 2 ≤ (pr k).getD i 0 := fun i hi => by
      obtain ⟨b, o, cs, m, e, h1, _, h2, h3⟩ := Sl.at hsl hi
      have hd : (pr k).getD i 0 = (pr k)[i] := by rw [List.getD, List.getElem?_eq_getElem hi]; rfl
      exact ⟨b, o, cs, m, e, h1, h2, by rw [h3, hd], by rw [hd]; exact (htwo _ (List.getElem_mem hi)).1⟩
    generalize hL : pr k = L at *
    simp [hlt', hlt, -Int.natCast_add]
    refine awp_loop_of (α := Nat) (fun i => i ≤ L.length)
      (fun i => [(1, .slice ad L.length L.length), (2, .int .i64 ((k + 2 : Nat) : Int)), (3, .bool ((L.take i).all (ndiv (k + 2)))), (4, .int .i64 i)]) (fun _ => H) (fun i => L.length - i) 0
      (Nat.zero_le _) hg.sub (by simp [-Int.natCast_add]; exact ⟨hbl, .int, .bool, .int⟩) ?_
    intro i hi
    by_cases hil : i < L.length
    · have hil' : (i : Int) < (L.length : Int) := by omega
      obtain ⟨b, o, cs, m, e, rfl, g1, g2, g3⟩ := hge i hil
      have e1 : IntKind.i64.wrap ((i : Int) + 1) = ((i + 1 : Nat) : Int) := by rw [IntWalk.i64_in _ (by omega)]; omega
      have htk : ((L.take (i + 1)).all (ndiv (k + 2))) = (((L.take i).all (ndiv (k + 2))) && ndiv (k + 2) (L.getD i 0)) := by
        rw [List.take_succ_eq_append_getElem hil, List.all_append, List.getD, List.getElem?_eq_getElem hil]
        simp
      generalize L.getD i 0 = g at *
      have e2 : (((k + 2 : Nat) : Int)).tmod (g : Int) = (((k + 2) % g : Nat) : Int) := tmodN _ _
      have hg0 : ¬ g = 0 := by omega
      cases hB : ((L.take i).all (ndiv (k + 2))) with
      | false =>
        simp [hil', hB, e1, -Int.natCast_add, -List.all_eq_true, -List.all_eq_false]
        exact ⟨i + 1, by omega, by omega, hg.sub, hbl, .int, ⟨by rw [htk, hB]; rfl, .bool⟩, rfl, .int⟩
      | true =>
        have hnd : ndiv (k + 2) g = !decide ((k + 2) % g = 0) := rfl
        rw [hB, Bool.true_and, hnd] at htk
        generalize (k + 2) % g = r at *
        simp [hil', hB, e1, e2, aidx_of hil, g1, g2, apart, hg0, -Int.natCast_add, -List.all_eq_true]
        exact ⟨i + 1, by omega, by omega, hg.sub, hbl, .int, ⟨by rw [htk]; simp, .bool⟩, rfl, .int⟩
    · have hie : i = L.length := by omega
      subst hie
      rw [List.take_of_length_le (Nat.le_refl _)]
      have e1 : IntKind.i64.wrap (((k + 2 : Nat) : Int) + 1) = ((k + 3 : Nat) : Int) := by rw [IntWalk.i64_in _ (by omega)]; omega
      cases hB : (L.all (ndiv (k + 2))) with
      | false =>
        rw [hB, if_neg (by decide)] at hstep
        simp [e1, -Int.natCast_add]
        refine ⟨⟨k + 1, nm, .slice ad L.length L.length, H⟩, by show 310 - (k + 1) < _; omega, ⟨by show k + 1 ≤ 310; omega, ?_, hg, hnm⟩, hg.sub, ⟨rfl, hbl⟩, rfl, .int⟩
        show LAt H 1 nm _ (pr (k + 1)).length (nl (pr (k + 1)))
        rw [hstep]; exact hl
      | true =>
        rw [hB, if_pos rfl] at hstep
        have g1 : Grr h (H.push (.cells (nl [k + 2]) .ex 1)) := hg.push nl_bel
        have l1 : LAt (H.push (.cells (nl [k + 2]) .ex 1)) 1 nm (.slice ad L.length L.length) L.length (nl L) := hl.keep fun x e => by
          subst e
          rw [push_m, if_neg (by have := hl.lt hg.cl; omega)]
        obtain ⟨a, q, v2, H2, happ, l2, keep2, n2, c2⟩ := lat_app (t := 3) (bytes := 8) (k := 1) (new := nl [k + 2]) g1.cl l1 Nat.one_pos rfl (fun x hx => nl_bel x hx) (by omega)
        cases q
        have fil : afill [.int .i64 0] [(0, 1, .int .i64 ((k + 2 : Nat) : Int))] = some (nl [k + 2]) := rfl
        have hfst : afirst (H.push (.cells (nl [k + 2]) .ex 1)) 1 1 (.slice (some ⟨H.n, 0, none⟩) 1 1) = some (nl [k + 2]) := by simp [afirst, cellsOf_new, acut, nl]
        simp [fil, alen, hfst, happ, e1, -Int.natCast_add]
        have g2 : Grr h H2 := ⟨by have := g1.n; omega, c2, fun y ob e => keep2 y ob (g1.m y ob e) (fun q => by have := hnm y q; have := (hcl y ob e).1; omega)⟩
        refine ⟨⟨k + 1, some (H.n + 1), v2, H2⟩, by show 310 - (k + 1) < _; omega, ⟨by show k + 1 ≤ 310; omega, ?_, g2, fun x e => by cases e; have := hg.n; omega⟩, g2.sub, ⟨rfl, l2.below c2⟩, rfl, .int⟩
        show LAt H2 1 (some (H.n + 1)) v2 (pr (k + 1)).length (nl (pr (k + 1)))
        rw [hstep, List.length_append]
        have : nl (L ++ [k + 2]) = nl L ++ nl [k + 2] := by simp [nl]
        rw [this]; exact l2
  · have hk310 : k = 310 := by
      apply Classical.byContradiction
      intro q
      have := pr_mono 309 k (by omega)
      rw [pr_309] at this
      omega
    subst hk310
    have hlt' : ¬ ((pr 310).length : Int) < 64 := by omega
    simp [hlt', hlt]
    exact ⟨hsl, hg.ext.sub hcl⟩

theorem lat_at {h : Heap} {esz n x : Nat} {nm : Option Nat} {v : Value} {cells : List Value} (l : LAt h esz nm v n cells) (e : nm = some x) : ∃ ob, h.m x = some ob := by
  subst e
  rcases l with ⟨q, _⟩ | ⟨y, md, e, q, _, h3, _⟩
  · cases q
  · cases q; exact ⟨_, m_of_cells h3⟩
theorem lat_lt' {h : Heap} {esz n x : Nat} {nm : Option Nat} {v : Value} {cells : List Value} (l : LAt h esz nm v n cells) (hc : h.Closed) (e : nm = some x) : x < h.n := by
  obtain ⟨ob, q⟩ := lat_at l e
  exact (hc x ob q).1
def hW : List Nat := (List.range 8).map fun i => rootN ((pr 310).getD i 0) true
def kW : List Nat := (List.range 64).map fun i => rootN ((pr 310).getD i 0) false
theorem hW_len : hW.length = 8 := by simp [hW]
theorem kW_len : kW.length = 64 := by simp [kW]
theorem hW_succ (i : Nat) (h : i < 8) : hW.take (i + 1) = hW.take i ++ [rootN ((pr 310).getD i 0) true] := by
  rw [List.take_succ_eq_append_getElem (by rw [hW_len]; exact h)]
  simp [hW]
theorem kW_succ (i : Nat) (h : i < 64) : kW.take (i + 1) = kW.take i ++ [rootN ((pr 310).getD i 0) false] := by
  rw [List.take_succ_eq_append_getElem (by rw [kW_len]; exact h)]
  simp [kW]
theorem pr_small (i : Nat) (h : i < 64) : (pr 310).getD i 0 ≤ 1000000 := by
  have : i < (pr 310).length := by rw [pr_310]; exact h
  rw [List.getD, List.getElem?_eq_getElem this]
  have := (pr_two 310 _ (List.getElem_mem this)).2
  show (pr 310)[i] ≤ 1000000
  omega
theorem sl_b {h : Heap} {v : Value} {l : List Nat} (s : SlN h v l) (hl : l ≠ []) : ∃ b o c cs m e, v = .slice (some ⟨b, o, none⟩) l.length c ∧ h.cellsOf b = some (cs, m, e) ∧ ∀ i, i < l.length → cs[o + i]? = some (.int .i64 ((l.getD i 0 : Nat) : Int)) := by
  rcases s with ⟨c, _, q⟩ | ⟨b, o, cap, c, m, e, h1, h2, h3, h4, h5⟩
  · exact absurd q hl
  · exact ⟨b, o, cap, c, m, e, h1, h2, fun i hi => by rw [h5 i hi, List.getD, List.getElem?_eq_getElem hi]; rfl⟩
structure WS where
  i : Nat
  n1 : Option Nat
  v1 : Value
  n2 : Option Nat
  v2 : Value
  H : Heap
theorem lat_one {H : Heap} {nm : Option Nat} {v : Value} {l : List Nat} (hc : H.Closed) (q : LAt H 1 nm v l.length (nl l)) (x : Nat) (hl : l.length ≤ 1000000) :
    ∃ a, v = .slice a l.length l.length ∧ ∃ v2 H2, aapp (H.push (.cells (nl [x]) .ex 1)) 3 1 8 a l.length l.length (nl [x]) 1 = some (v2, H2) ∧ LAt H2 1 (some (H.n + 1)) v2 (l.length + 1) (nl (l ++ [x])) ∧
      (∀ y ob, H.m y = some ob → nm ≠ some y → H2.m y = some ob) ∧ H2.n = H.n + 2 ∧ H2.Closed := by
  have l1 : LAt (H.push (.cells (nl [x]) .ex 1)) 1 nm v l.length (nl l) := q.keep fun y e => by
    subst e
    rw [push_m, if_neg (by have := q.lt hc; omega)]
  obtain ⟨a, q, v2, H2, happ, l2, keep2, n2, c2⟩ := lat_app (t := 3) (bytes := 8) (k := 1) (new := nl [x]) (closed_push hc (o := .cells (nl [x]) .ex 1) (fun y hy => nl_bel y hy)) l1 Nat.one_pos rfl (fun x hx => nl_bel x hx) (by omega)
  refine ⟨a, q, v2, H2, happ, ?_, fun y ob e hne => keep2 y ob (by rw [push_m, if_neg (by have := (hc y ob e).1; omega)]; exact e) hne, n2, c2⟩
  have : nl (l ++ [x]) = nl l ++ nl [x] := by simp [nl]
  rw [this]; exact l2
theorem new_ok (h : Heap) : ACalls Tryz.prog 8 [] h fun r h' => ∃ v1 v2, r = .agg #[v1, v2] ∧ SlN h' v1 hW ∧ SlN h' v2 kW ∧ h.Sub h.n h' := by
  refine acalls_ofR mix Tryz.func8 k8 n8 (by simp) fun hcl hb => ?_
  have fil : afill [Value.slice none 0 0, .slice none 0 0] [] = some [.slice none 0 0, .slice none 0 0] := rfl
  have hz : ∀ n, ∀ x ∈ ([.slice none 0 0, .slice none 0 0] : List Value), VBelow n x := fun n x hx => by simp at hx; rw [hx]; exact .snil
  have hp : aput [Value.slice none 0 0, .slice none 0 0] 0 [.slice none 0 0, .slice none 0 0] = [.slice none 0 0, .slice none 0 0] := rfl
  simp only [c8, s_seq, s_ops]
  simp [fil, cellsOf_at, mcells, set_at, hp]
  have c1 : (h.push (.cells [.slice none 0 0, .slice none 0 0] .ex 1)).Closed := closed_push hcl (hz _)
  have c2 : ((h.push (.cells [.slice none 0 0, .slice none 0 0] .ex 1)).push (.cells [.slice none 0 0, .slice none 0 0] .ex 1)).Closed := closed_push c1 (hz _)
  have f0 : ((h.push (.cells [.slice none 0 0, .slice none 0 0] .ex 1)).push (.cells [.slice none 0 0, .slice none 0 0] .ex 1)).cellsOf h.n = some ([.slice none 0 0, .slice none 0 0], .ex, 1) := by rw [cellsOf_ne (by show ¬ h.n = h.n + 1; omega)]; exact cellsOf_new _ _ _ _
  have f1 : ((h.push (.cells [.slice none 0 0, .slice none 0 0] .ex 1)).push (.cells [.slice none 0 0, .slice none 0 0] .ex 1)).cellsOf (h.n + 1) = some ([.slice none 0 0, .slice none 0 0], .ex, 1) := cellsOf_new _ _ _ _
  have x1 := ((Heap.Ext.refl h).push hcl (.cells [.slice none 0 0, .slice none 0 0] .ex 1)).push hcl (.cells [.slice none 0 0, .slice none 0 0] .ex 1)
  have hn0 : ((h.push (.cells [.slice none 0 0, .slice none 0 0] .ex 1)).push (.cells [.slice none 0 0, .slice none 0 0] .ex 1)).n = h.n + 2 := rfl
  generalize (h.push (.cells [.slice none 0 0, .slice none 0 0] .ex 1)).push (.cells [.slice none 0 0, .slice none 0 0] .ex 1) = H0 at *
  refine (primes_ok H0).mono' ?_
  rintro pv H1 hc1 hbp ⟨slp, sub1⟩
  have g0 := cellsOf_keep sub1.sub f0
  have g1 := cellsOf_keep sub1.sub f1
  have hpl := pr_310
  obtain ⟨b1, o1, cp1, cs1, m1, e1, rfl, hcb, hpg⟩ := sl_b slp (by intro q; rw [q] at hpl; cases hpl)
  have hb1 : b1 ≠ h.n + 1 := by
    intro q
    rw [q, g1] at hcb
    simp only [Option.some.injEq, Prod.mk.injEq] at hcb
    have := hpg 0 (by omega)
    rw [← hcb.1] at this
    match o1, this with
    | 0, t => cases t
    | 1, t => cases t
    | o + 2, t => simp at t
  simp
  have hn1 : h.n + 2 ≤ H1.n := by have := sub1.hi; omega
  refine awp_loop_of (α := WS) (fun z => z.i ≤ 64 ∧ z.H.Closed ∧ H1.n ≤ z.H.n ∧ (∀ y ob, H1.m y = some ob → y ≠ h.n + 1 → z.H.m y = some ob) ∧ z.H.cellsOf (h.n + 1) = some ([z.v1, z.v2], .ex, 1) ∧
      LAt z.H 1 z.n1 z.v1 (hW.take z.i).length (nl (hW.take z.i)) ∧ LAt z.H 1 z.n2 z.v2 (kW.take z.i).length (nl (kW.take z.i)) ∧ (∀ x, z.n1 = some x → H1.n ≤ x ∧ z.n2 ≠ some x) ∧ (∀ x, z.n2 = some x → H1.n ≤ x ∧ z.n1 ≠ some x))
    (fun z => [(0, .pointer (some ⟨h.n, 0, none⟩)), (1, .pointer (some ⟨h.n + 1, 0, none⟩)), (2, .slice (some ⟨b1, o1, none⟩) (pr 310).length cp1), (3, .int .i64 z.i)]) (fun z => z.H) (fun z => 64 - z.i) ⟨0, none, .slice none 0 0, none, .slice none 0 0, H1⟩
    ⟨Nat.zero_le _, hc1, Nat.le_refl _, fun y ob e _ => e, g1, .inl ⟨rfl, rfl, rfl, rfl⟩, .inl ⟨rfl, rfl, rfl, rfl⟩, fun x e => (by cases e), fun x e => (by cases e)⟩ ⟨by show h.n ≤ H1.n; omega, Nat.le_refl _, fun _ _ e => e, hc1⟩
    (by simp; exact ⟨.ptr (by show h.n < H1.n; omega), .ptr (by show h.n + 1 < H1.n; omega), hbp, .int⟩) ?_
  rintro ⟨i, n1, v1, n2, v2, H⟩ ⟨hi, hcH, hnH, hkeep, hst, hl1, hl2, hx1, hx2⟩
  dsimp only at hi hcH hnH hkeep hst hl1 hl2 hx1 hx2 ⊢
  have hgb : H.cellsOf b1 = some (cs1, m1, e1) := by
    have := hkeep b1 _ (m_of_cells hcb) hb1
    unfold Heap.cellsOf
    rw [this]
  by_cases hi64 : i < 64
  · have hi' : (i : Int) < 64 := by omega
    have hpi := hpg i (by omega)
    have hps := pr_small i hi64
    have hks := kW_succ i hi64
    have hix : aidx (.int .i64 (i : Int)) (pr 310).length = some i := aidx_of (by omega)
    have hkl : (kW.take i).length ≤ 64 := by rw [List.length_take]; omega
    have hhl : (hW.take i).length ≤ 64 := by rw [List.length_take]; omega
    by_cases h8 : i < 8
    · have h8' : (i : Int) < 8 := by omega
      have hhs := hW_succ i h8
      generalize (pr 310).getD i 0 = p at *
      generalize hW.take i = L1 at *
      generalize kW.take i = L2 at *
      obtain ⟨a, q, w2, H2, happ, lw, keepw, nw, cw⟩ := lat_one hcH hl1 (rootN p true) (by omega)
      subst q
      obtain ⟨a3, rfl⟩ := lw.form
      have fil3 : afill [.int .i64 0] [(0, 1, .int .i64 ((rootN p true : Nat) : Int))] = some (nl [rootN p true]) := rfl
      have hfst3 : afirst (H.push (.cells (nl [rootN p true]) .ex 1)) 1 1 (.slice (some ⟨H.n, 0, none⟩) 1 1) = some (nl [rootN p true]) := by simp [afirst, cellsOf_new, acut, nl]
      have st2 : (H.push (.cells (nl [rootN p true]) .ex 1)).cellsOf (h.n + 1) = some ([.slice a L1.length L1.length, v2], .ex, 1) := cellsOf_push hcH hst
      have st3 : H2.cellsOf (h.n + 1) = some ([.slice a L1.length L1.length, v2], .ex, 1) := by
        have := keepw (h.n + 1) _ (m_of_cells hst) (fun q => by have := (hx1 _ q).1; omega)
        unfold Heap.cellsOf; rw [this]
      have hput : aput [.slice a L1.length L1.length, v2] 0 [(.slice a3 (L1.length + 1) (L1.length + 1))] = [(.slice a3 (L1.length + 1) (L1.length + 1)), v2] := rfl
      have hbv2 := hl2.below hcH
      have hbw2 := lw.below cw
      have hc3 : (H2.set (h.n + 1) (.cells [(.slice a3 (L1.length + 1) (L1.length + 1)), v2] .ex 1)).Closed := closed_set cw (by omega) (fun x hx => by
        simp at hx
        rcases hx with rfl | rfl
        · exact hbw2
        · exact hbv2.mono (by omega))
      have lw3 : LAt (H2.set (h.n + 1) (.cells [(.slice a3 (L1.length + 1) (L1.length + 1)), v2] .ex 1)) 1 (some (H.n + 1)) (.slice a3 (L1.length + 1) (L1.length + 1)) (L1.length + 1) (nl (L1 ++ [rootN p true])) := lw.keep fun x e => by cases e; rw [set_m, if_neg (by omega)]
      have hl23 : LAt (H2.set (h.n + 1) (.cells [(.slice a3 (L1.length + 1) (L1.length + 1)), v2] .ex 1)) 1 n2 v2 L2.length (nl L2) := (hl2.keep (h' := H2) fun x e => by
        obtain ⟨ob, hob⟩ := lat_at hl2 e
        rw [keepw x ob hob (hx2 x e).2, hob]).keep fun x e => by rw [set_m, if_neg (by have := (hx2 x e).1; omega)]
      have st4' : (H2.set (h.n + 1) (.cells [(.slice a3 (L1.length + 1) (L1.length + 1)), v2] .ex 1)).cellsOf (h.n + 1) = some ([(.slice a3 (L1.length + 1) (L1.length + 1)), v2], .ex, 1) := cellsOf_set _ _ _ _ _
      have keep3 : ∀ y ob, H1.m y = some ob → y ≠ h.n + 1 → (H2.set (h.n + 1) (.cells [(.slice a3 (L1.length + 1) (L1.length + 1)), v2] .ex 1)).m y = some ob := fun y ob e hne => by
        rw [set_m, if_neg hne]
        exact keepw y ob (hkeep y ob e hne) (fun q => by have := (hx1 y q).1; have := (hc1 y ob e).1; omega)
      have hn3 : (H2.set (h.n + 1) (.cells [(.slice a3 (L1.length + 1) (L1.length + 1)), v2] .ex 1)).n = H.n + 2 := nw
      have hgb3 : (H2.set (h.n + 1) (.cells [(.slice a3 (L1.length + 1) (L1.length + 1)), v2] .ex 1)).cellsOf b1 = some (cs1, m1, e1) := by
        have := keep3 b1 _ (m_of_cells hcb) hb1
        unfold Heap.cellsOf
        rw [this]
      have hx1' : ∀ x, some (H.n + 1) = some x → H1.n ≤ x ∧ n2 ≠ some x := fun x e => by
        cases e
        refine ⟨by omega, fun q => ?_⟩
        have := lat_lt' hl2 hcH q
        omega
      have hx2' : ∀ x, n2 = some x → H1.n ≤ x ∧ some (H.n + 1) ≠ some x := fun x e => ⟨(hx2 x e).1, fun q => by
        cases q
        have := lat_lt' hl2 hcH e
        omega⟩
      simp [hi', h8', hst, apart, hix, hgb, hpi]
      refine (root_ok p hps true H).mono ?_
      rintro _ h9 ⟨rfl, e⟩
      rw [e]
      clear e h9
      simp [hst, apart, fil3, st2, alen, hfst3, happ, st3, mcells, hput, cellsOf_set, apart]
      generalize hH3 : H2.set (h.n + 1) (.cells [(.slice a3 (L1.length + 1) (L1.length + 1)), v2] .ex 1) = H3 at *
      have hx1c := hx1'
      have hx2c := hx2'
      obtain ⟨a2, q2, u2, H4, happ4, lw4, keep4, n4, c4⟩ := lat_one hc3 hl23 (rootN p false) (by omega)
      subst q2
      obtain ⟨a5, rfl⟩ := lw4.form
      have fil4 : afill [.int .i64 0] [(0, 1, .int .i64 ((rootN p false : Nat) : Int))] = some (nl [rootN p false]) := rfl
      have hfst4 : afirst (H3.push (.cells (nl [rootN p false]) .ex 1)) 1 1 (.slice (some ⟨H3.n, 0, none⟩) 1 1) = some (nl [rootN p false]) := by simp [afirst, cellsOf_new, acut, nl]
      have st4 : (H3.push (.cells (nl [rootN p false]) .ex 1)).cellsOf (h.n + 1) = some ([(.slice a3 (L1.length + 1) (L1.length + 1)), .slice a2 L2.length L2.length], .ex, 1) := cellsOf_push hc3 st4'
      have st5 : H4.cellsOf (h.n + 1) = some ([(.slice a3 (L1.length + 1) (L1.length + 1)), .slice a2 L2.length L2.length], .ex, 1) := by
        have := keep4 (h.n + 1) _ (m_of_cells st4') (fun q => by have := (hx2c _ q).1; omega)
        unfold Heap.cellsOf; rw [this]
      have e5 : IntKind.i64.wrap ((i : Int) + 1) = ((i + 1 : Nat) : Int) := by rw [IntWalk.i64_in _ (by omega)]; omega
      simp [st4', apart, hix, hgb3, hpi]
      refine (root_ok p hps false _).mono ?_
      rintro _ h9 ⟨rfl, e⟩
      rw [e]
      clear e h9
      simp [st4', apart, fil4, st4, alen, hfst4, happ4, st5, mcells, e5, -Int.natCast_add, -List.length_take]
      have hputK : aput [(.slice a3 (L1.length + 1) (L1.length + 1)), .slice a2 L2.length L2.length] 1 [(.slice a5 (L2.length + 1) (L2.length + 1))] = [(.slice a3 (L1.length + 1) (L1.length + 1)), (.slice a5 (L2.length + 1) (L2.length + 1))] := rfl
      rw [hputK]
      refine ⟨⟨i + 1, some (H.n + 1), (.slice a3 (L1.length + 1) (L1.length + 1)), some (H3.n + 1), (.slice a5 (L2.length + 1) (L2.length + 1)), H4.set (h.n + 1) (.cells [(.slice a3 (L1.length + 1) (L1.length + 1)), (.slice a5 (L2.length + 1) (L2.length + 1))] .ex 1)⟩, by show 64 - (i + 1) < 64 - i; omega, ⟨by show i + 1 ≤ 64; omega, ?_, by show H1.n ≤ H4.n; omega, fun y ob e hne => ?_, cellsOf_set _ _ _ _ _, ?_, ?_, fun x e => ⟨(hx1c x e).1, fun q => ?_⟩, fun x e => ?_⟩, ⟨by show h.n ≤ H4.n; omega, Nat.le_refl _, fun _ _ e => e, ?_⟩, .ptr (by show h.n < H4.n; omega), .ptr (by show h.n + 1 < H4.n; omega), hbp.mono (by show _ ≤ H4.n; omega), rfl, .int⟩
      · exact closed_set c4 (by omega) (fun x hx => by
          simp at hx
          rcases hx with rfl | rfl
          · exact (lw3.below hc3).mono (by omega)
          · exact lw4.below c4)
      · rw [set_m, if_neg hne]
        exact keep4 y ob (keep3 y ob e hne) (fun q => by have := (hx2c y q).1; have := (hc1 y ob e).1; omega)
      · show LAt _ 1 (some (H.n + 1)) (.slice a3 (L1.length + 1) (L1.length + 1)) (min (i + 1) hW.length) (nl (hW.take (i + 1)))
        rw [← List.length_take, hhs, List.length_append]
        refine (lw3.keep (h' := H4) fun x e => ?_).keep fun x e => ?_
        · obtain ⟨ob, hob⟩ := lat_at lw3 e
          rw [keep4 x ob hob (hx1c x e).2, hob]
        · rw [set_m, if_neg (by have := (hx1c x e).1; omega)]
      · show LAt _ 1 (some (H3.n + 1)) (.slice a5 (L2.length + 1) (L2.length + 1)) (min (i + 1) kW.length) (nl (kW.take (i + 1)))
        rw [← List.length_take, hks, List.length_append]
        exact lw4.keep fun x e => by cases e; rw [set_m, if_neg (by omega)]
      · cases q
        have : H3.n + 1 < H3.n := lat_lt' lw3 hc3 e
        omega
      · cases e
        refine ⟨by omega, fun q => ?_⟩
        have : H3.n + 1 < H3.n := lat_lt' lw3 hc3 q
        omega
      · exact closed_set c4 (by omega) (fun x hx => by
          simp at hx
          rcases hx with rfl | rfl
          · exact (lw3.below hc3).mono (by omega)
          · exact lw4.below c4)
    · have h8' : ¬ (i : Int) < 8 := by omega
      have hhs : hW.take (i + 1) = hW.take i := by rw [List.take_of_length_le (by rw [hW_len]; omega), List.take_of_length_le (by rw [hW_len]; omega)]
      generalize (pr 310).getD i 0 = p at *
      generalize hW.take i = L1 at *
      generalize kW.take i = L2 at *
      simp [hi', h8']
      have hx1c := hx1
      have hx2c := hx2
      obtain ⟨a2, q2, u2, H4, happ4, lw4, keep4, n4, c4⟩ := lat_one hcH hl2 (rootN p false) (by omega)
      subst q2
      obtain ⟨a5, rfl⟩ := lw4.form
      have fil4 : afill [.int .i64 0] [(0, 1, .int .i64 ((rootN p false : Nat) : Int))] = some (nl [rootN p false]) := rfl
      have hfst4 : afirst (H.push (.cells (nl [rootN p false]) .ex 1)) 1 1 (.slice (some ⟨H.n, 0, none⟩) 1 1) = some (nl [rootN p false]) := by simp [afirst, cellsOf_new, acut, nl]
      have st4 : (H.push (.cells (nl [rootN p false]) .ex 1)).cellsOf (h.n + 1) = some ([v1, .slice a2 L2.length L2.length], .ex, 1) := cellsOf_push hcH hst
      have st5 : H4.cellsOf (h.n + 1) = some ([v1, .slice a2 L2.length L2.length], .ex, 1) := by
        have := keep4 (h.n + 1) _ (m_of_cells hst) (fun q => by have := (hx2c _ q).1; omega)
        unfold Heap.cellsOf; rw [this]
      have e5 : IntKind.i64.wrap ((i : Int) + 1) = ((i + 1 : Nat) : Int) := by rw [IntWalk.i64_in _ (by omega)]; omega
      simp [hst, apart, hix, hgb, hpi]
      refine (root_ok p hps false _).mono ?_
      rintro _ h9 ⟨rfl, e⟩
      rw [e]
      clear e h9
      simp [hst, apart, fil4, st4, alen, hfst4, happ4, st5, mcells, e5, -Int.natCast_add, -List.length_take]
      have hputK : aput [v1, .slice a2 L2.length L2.length] 1 [(.slice a5 (L2.length + 1) (L2.length + 1))] = [v1, (.slice a5 (L2.length + 1) (L2.length + 1))] := rfl
      rw [hputK]
      refine ⟨⟨i + 1, n1, v1, some (H.n + 1), (.slice a5 (L2.length + 1) (L2.length + 1)), H4.set (h.n + 1) (.cells [v1, (.slice a5 (L2.length + 1) (L2.length + 1))] .ex 1)⟩, by show 64 - (i + 1) < 64 - i; omega, ⟨by show i + 1 ≤ 64; omega, ?_, by show H1.n ≤ H4.n; omega, fun y ob e hne => ?_, cellsOf_set _ _ _ _ _, ?_, ?_, fun x e => ⟨(hx1c x e).1, fun q => ?_⟩, fun x e => ?_⟩, ⟨by show h.n ≤ H4.n; omega, Nat.le_refl _, fun _ _ e => e, ?_⟩, .ptr (by show h.n < H4.n; omega), .ptr (by show h.n + 1 < H4.n; omega), hbp.mono (by show _ ≤ H4.n; omega), rfl, .int⟩
      · exact closed_set c4 (by omega) (fun x hx => by
          simp at hx
          rcases hx with rfl | rfl
          · exact (hl1.below hcH).mono (by omega)
          · exact lw4.below c4)
      · rw [set_m, if_neg hne]
        exact keep4 y ob (hkeep y ob e hne) (fun q => by have := (hx2c y q).1; have := (hc1 y ob e).1; omega)
      · show LAt _ 1 n1 v1 (min (i + 1) hW.length) (nl (hW.take (i + 1)))
        rw [← List.length_take, hhs]
        refine (hl1.keep (h' := H4) fun x e => ?_).keep fun x e => ?_
        · obtain ⟨ob, hob⟩ := lat_at hl1 e
          rw [keep4 x ob hob (hx1c x e).2, hob]
        · rw [set_m, if_neg (by have := (hx1c x e).1; omega)]
      · show LAt _ 1 (some (H.n + 1)) (.slice a5 (L2.length + 1) (L2.length + 1)) (min (i + 1) kW.length) (nl (kW.take (i + 1)))
        rw [← List.length_take, hks, List.length_append]
        exact lw4.keep fun x e => by cases e; rw [set_m, if_neg (by omega)]
      · cases q
        have : H.n + 1 < H.n := lat_lt' hl1 hcH e
        omega
      · cases e
        refine ⟨by omega, fun q => ?_⟩
        have : H.n + 1 < H.n := lat_lt' hl1 hcH q
        omega
      · exact closed_set c4 (by omega) (fun x hx => by
          simp at hx
          rcases hx with rfl | rfl
          · exact (hl1.below hcH).mono (by omega)
          · exact lw4.below c4)
  · have hie : i = 64 := by omega
    subst hie
    rw [List.take_of_length_le (by rw [hW_len]; omega)] at hl1
    rw [List.take_of_length_le (by rw [kW_len]; omega)] at hl2
    have hg0 : H.cellsOf h.n = some ([.slice none 0 0, .slice none 0 0], .ex, 1) := by
      have := hkeep h.n _ (m_of_cells g0) (by omega)
      unfold Heap.cellsOf
      rw [this]
    have hcut : acut [v1, v2] 0 2 = some [v1, v2] := rfl
    have hput : aput [Value.slice none 0 0, .slice none 0 0] 0 [v1, v2] = [v1, v2] := rfl
    simp [hst, apart, hcut, mcells, hg0, hput, cellsOf_set]
    have hk : ∀ y ob, H.m y = some ob → y ≠ h.n → (H.set h.n (.cells [v1, v2] .ex 1)).m y = some ob := fun y ob e hne => by rw [set_m, if_neg hne]; exact e
    have q1 : LAt (H.set h.n (.cells [v1, v2] .ex 1)) 1 n1 v1 hW.length (nl hW) := hl1.keep fun x e => by rw [set_m, if_neg (by have := (hx1 x e).1; omega)]
    have q2 : LAt (H.set h.n (.cells [v1, v2] .ex 1)) 1 n2 v2 kW.length (nl kW) := hl2.keep fun x e => by rw [set_m, if_neg (by have := (hx2 x e).1; omega)]
    refine ⟨v1, v2, ⟨rfl, rfl⟩, q1.sl, q2.sl, Nat.le_refl _, by show h.n ≤ H.n; omega, fun y ob e => ?_, hcl⟩
    have hy := (hcl y ob e).1
    rw [set_m, if_neg (by omega)]
    exact hkeep y ob (sub1.sub y ob (x1.m y ob e)) (by omega)

abbrev cw (w : W32) : Value := .int .i64 (tn w)
def wl6 (l : List W32) : List Value := l.map cw
theorem wl6_len (l : List W32) : (wl6 l).length = l.length := List.length_map _
theorem wl6_bel {n : Nat} {l : List W32} : ∀ x ∈ wl6 l, VBelow n x := fun x hx => by obtain ⟨y, _, rfl⟩ := List.mem_map.1 hx; exact .int
theorem wl6_get {l : List W32} {i : Nat} (h : i < l.length) : (wl6 l)[i]? = some (.int .i64 (tn (l.getD i 0))) := by
  unfold wl6
  simp only [List.getElem?_map, List.getD, List.getElem?_eq_getElem h]
  rfl
theorem hW_eq : hW = s0.l.map (·.toNat) := by decide +kernel
theorem kW_eq : kW = kK.map (·.toNat) := by decide +kernel
def wz6 (l : List W32) (n : Nat) : List Value := wl6 l ++ List.replicate (n - l.length) (.int .i64 0)
theorem wz6_len {l : List W32} {n : Nat} (h : l.length ≤ n) : (wz6 l n).length = n := by simp [wz6, wl6_len]; omega
theorem wz6_get {l : List W32} {n i : Nat} (h : i < l.length) : (wz6 l n)[i]? = some (.int .i64 (tn (l.getD i 0))) := by
  unfold wz6
  rw [List.getElem?_append_left (by rw [wl6_len]; exact h)]
  exact wl6_get h
theorem wz6_put {l : List W32} {n : Nat} (h : l.length < n) (w : W32) : aput (wz6 l n) l.length [.int .i64 (tn w)] = wz6 (l ++ [w]) n := by
  unfold aput wz6
  have hl := wl6_len l
  rw [List.take_left' hl, List.drop_append, hl]
  have e1 : List.drop (l.length + [Value.int .i64 (tn w)].length) (wl6 l) = [] := List.drop_eq_nil_of_le (by rw [hl]; simp)
  rw [e1, List.nil_append, List.drop_replicate]
  have e2 : wl6 (l ++ [w]) = wl6 l ++ [.int .i64 (tn w)] := by simp [wl6]
  rw [e2]
  simp only [List.length_append, List.length_cons, List.length_nil]
  congr 2
  omega
theorem wz6_nil (n : Nat) : List.replicate n (.int .i64 0) = wz6 [] n := by simp [wz6, wl6]
theorem wz6_all {l : List W32} {n : Nat} (h : l.length = n) : wz6 l n = wl6 l := by simp [wz6, h]
theorem wz6_bel {n m : Nat} {l : List W32} : ∀ x ∈ wz6 l n, VBelow m x := fun x hx => by
  rcases List.mem_append.1 hx with hx | hx
  · exact wl6_bel x hx
  · rw [List.eq_of_mem_replicate hx]; exact .int
theorem tn_mod (n : Nat) : ((n : Nat) : Int).tmod 4294967296 = tn (BitVec.ofNat 32 n) := by
  rw [show (4294967296 : Int) = ((4294967296 : Nat) : Int) from rfl, tmodN]
  unfold tn
  simp
theorem or_add {a b k : Nat} (h : b < 2 ^ k) : (a * 2 ^ k) ||| b = a * 2 ^ k + b := by
  rw [Nat.mul_comm, ← Nat.two_pow_add_eq_or_of_lt h]
theorem be4_nat (b : List UInt8) (i : Nat) : (be4 b i).toNat = (((b.getD (4 * i) 0).toNat * 256 + (b.getD (4 * i + 1) 0).toNat) * 256 + (b.getD (4 * i + 2) 0).toNat) * 256 + (b.getD (4 * i + 3) 0).toNat := by
  unfold be4 ext
  have h0 := (b.getD (4 * i) 0).toNat_lt
  have h1 := (b.getD (4 * i + 1) 0).toNat_lt
  have h2 := (b.getD (4 * i + 2) 0).toNat_lt
  have h3 := (b.getD (4 * i + 3) 0).toNat_lt
  generalize (b.getD (4 * i) 0).toNat = x0 at *
  generalize (b.getD (4 * i + 1) 0).toNat = x1 at *
  generalize (b.getD (4 * i + 2) 0).toNat = x2 at *
  generalize (b.getD (4 * i + 3) 0).toNat = x3 at *
  have e0 : (BitVec.ofNat 32 x0 <<< 24).toNat = x0 * 2 ^ 24 := by
    rw [BitVec.toNat_shiftLeft, BitVec.toNat_ofNat, Nat.shiftLeft_eq]; omega
  have e1 : (BitVec.ofNat 32 x1 <<< 16).toNat = x1 * 2 ^ 16 := by
    rw [BitVec.toNat_shiftLeft, BitVec.toNat_ofNat, Nat.shiftLeft_eq]; omega
  have e2 : (BitVec.ofNat 32 x2 <<< 8).toNat = x2 * 2 ^ 8 := by
    rw [BitVec.toNat_shiftLeft, BitVec.toNat_ofNat, Nat.shiftLeft_eq]; omega
  have e3 : (BitVec.ofNat 32 x3).toNat = x3 := by rw [BitVec.toNat_ofNat]; omega
  rw [BitVec.toNat_or, BitVec.toNat_or, BitVec.toNat_or, e0, e1, e2, e3]
  rw [or_add (show x1 * 2 ^ 16 < 2 ^ 24 by omega)]
  rw [show x0 * 2 ^ 24 + x1 * 2 ^ 16 = (x0 * 256 + x1) * 2 ^ 16 by omega, or_add (show x2 * 2 ^ 8 < 2 ^ 16 by omega)]
  rw [show (x0 * 256 + x1) * 2 ^ 16 + x2 * 2 ^ 8 = ((x0 * 256 + x1) * 256 + x2) * 2 ^ 8 by omega, or_add (show x3 < 2 ^ 8 by omega)]
theorem ch_or (e f g : W32) : (e &&& f) ||| (~~~e &&& g) = (e &&& f) ^^^ (~~~e &&& g) := by
  apply BitVec.eq_of_getLsbD_eq
  intro i hi
  simp only [BitVec.getLsbD_or, BitVec.getLsbD_xor, BitVec.getLsbD_and, BitVec.getLsbD_not, hi, decide_true, Bool.true_and]
  cases e.getLsbD i <;> cases f.getLsbD i <;> cases g.getLsbD i <;> rfl
theorem maj_or (a b c : W32) : ((a &&& b) ||| (a &&& c)) ||| (b &&& c) = ((a &&& b) ^^^ (a &&& c)) ^^^ (b &&& c) := by
  apply BitVec.eq_of_getLsbD_eq
  intro i hi
  simp only [BitVec.getLsbD_or, BitVec.getLsbD_xor, BitVec.getLsbD_and]
  cases a.getLsbD i <;> cases b.getLsbD i <;> cases c.getLsbD i <;> rfl
theorem not_sub (e : W32) : (4294967295 : Int) - tn e = tn (~~~e) := by
  unfold tn
  have := e.isLt
  rw [BitVec.toNat_not]
  omega
theorem of_add (a b : W32) : BitVec.ofNat 32 (a.toNat + b.toNat) = a + b := by apply BitVec.eq_of_toNat_eq; simp
theorem ofNat_add (m n : Nat) : BitVec.ofNat 32 (m + n) = BitVec.ofNat 32 m + BitVec.ofNat 32 n := by apply BitVec.eq_of_toNat_eq; simp
theorem ofNat_tn (a : W32) : BitVec.ofNat 32 a.toNat = a := by simp

def pk (B : List UInt8) (o : Nat) : Nat → Nat
  | 0 => 0
  | k + 1 => 256 * pk B o k + (B.getD (o + k) 0).toNat
theorem pk_lt (B : List UInt8) (o : Nat) : ∀ k, pk B o k < 256 ^ k
  | 0 => by simp [pk]
  | k + 1 => by
    have := pk_lt B o k
    have h := (B.getD (o + k) 0).toNat_lt
    rw [pk, Nat.pow_succ]
    omega
theorem aput_twice {c : List Value} {o : Nat} {x y : Value} (h : o < c.length) : aput (aput c o [x]) o [y] = aput c o [y] := by
  unfold aput
  have hl : (c.take o).length = o := by rw [List.length_take]; omega
  simp only [List.length_cons, List.length_nil, Nat.zero_add]
  have e1 : List.take o (List.take o c ++ [x] ++ List.drop (o + 1) c) = List.take o c := by rw [List.append_assoc, List.take_left' hl]
  have e2 : List.drop (o + 1) (List.take o c ++ [x] ++ List.drop (o + 1) c) = List.drop (o + 1) c := List.drop_left' (by simp [hl])
  rw [e1, e2]
theorem aput_get {c : List Value} {o : Nat} {x : Value} (h : o < c.length) : (aput c o [x])[o]? = some x := by
  unfold aput
  have hl : (c.take o).length = o := by rw [List.length_take]; omega
  rw [List.append_assoc, List.getElem?_append_right (by omega), hl]
  simp
theorem wz6_zero {l : List W32} {n : Nat} (h : l.length < n) : aput (wz6 l n) l.length [.int .i64 0] = wz6 l n := by
  unfold aput wz6
  have hl := wl6_len l
  rw [List.take_left' hl, List.drop_append, hl]
  have e1 : List.drop (l.length + [Value.int .i64 0].length) (wl6 l) = [] := List.drop_eq_nil_of_le (by rw [hl]; simp)
  rw [e1, List.nil_append, List.drop_replicate, List.append_assoc]
  congr 1
  have : n - l.length = (n - l.length - 1) + 1 := by omega
  conv => rhs; rw [this, List.replicate_succ]
  simp
theorem wloop_ok {n0 : Nat} {Q : AQ} {f : AF} {H : Heap} (hcl : H.Closed) (hn : n0 ≤ H.n) (B : List UInt8) (hB : B.length ≤ 10000000) (at_ : Nat) (hat : at_ + 64 ≤ B.length) (bv : Value) (hb : SlB H bv B) (X : Nat) (hX : H.cellsOf X = some (wz6 [] 64, .ex, 1))
    (p2 p4 p8 : Value) (b2 : VBelow H.n p2) (b4 : VBelow H.n p4) (b8 : VBelow H.n p8)
    (f2 : f 2 = p2) (f4 : f 4 = p4) (f5 : f 5 = bv) (f8 : f 8 = p8) (f9 : f 9 = .int .i64 (at_ : Int)) (f10 : f 10 = .slice (some ⟨X, 0, none⟩) 64 64) (f11 : f 11 = .int .i64 0)
    (hQ : ∀ g, g 2 = p2 → g 4 = p4 → g 5 = bv → g 8 = p8 → g 9 = .int .i64 (at_ : Int) → g 10 = .slice (some ⟨X, 0, none⟩) 64 64 → Q (.exit 6) g (H.set X (.cells (wl6 (spreadL ((B.drop at_).take 64) 64)) .ex 1))) :
    awp Tryz.prog n0 (.loop c38_6) Q f H := by
  have hXn := cellsOf_lt hcl hX
  have bb := Sl.below hb hcl
  obtain ⟨bo, bc, rfl⟩ := Sl.form hb
  have hbb : ∀ i, i < B.length → ∃ b o cs m e, bo = some ⟨b, o, none⟩ ∧ b ≠ X ∧ H.cellsOf b = some (cs, m, e) ∧ cs[o + i]? = some (.int .u8 ((B.getD i 0).toNat : Int)) := fun i hi => by
    obtain ⟨b, o, cs, m, e, h1, _, h2, h3⟩ := Sl.at hb hi
    have hg : cs[o + i]? = some (.int .u8 ((B.getD i 0).toNat : Int)) := by rw [h3, List.getD, List.getElem?_eq_getElem hi]; rfl
    refine ⟨b, o, cs, m, e, h1, ?_, h2, hg⟩
    rintro rfl
    rw [hX] at h2
    simp only [Option.some.injEq, Prod.mk.injEq] at h2
    rw [← h2.1, ← wz6_nil] at hg
    have := List.eq_of_mem_replicate (List.mem_of_getElem? hg)
    cases this
  generalize hbl : (B.drop at_).take 64 = bl at *
  have hblg : ∀ i, i < 64 → bl.getD i 0 = B.getD (at_ + i) 0 := fun i hi => by
    rw [← hbl]
    simp [List.getD, hi]
  have clW : ∀ i, i ≤ 64 → (H.set X (.cells (wz6 (spreadL bl i) 64) .ex 1)).Closed := fun i hi => closed_set hcl hXn wz6_bel
  refine awp_loop_of (α := Nat) (fun i => i ≤ 64)
    (fun i => [(2, p2), (4, p4), (5, .slice bo B.length bc), (8, p8), (9, .int .i64 at_), (10, .slice (some ⟨X, 0, none⟩) 64 64), (11, .int .i64 i)]) (fun i => H.set X (.cells (wz6 (spreadL bl i) 64) .ex 1)) (fun i => 64 - i) 0
    (Nat.zero_le _) (by
      have : H.set X (.cells (wz6 (spreadL bl 0) 64) .ex 1) = H := set_same (m_of_cells hX)
      rw [this]; exact (Heap.Sub.refl hcl).weak hn) (by simp [f2, f4, f5, f8, f9, f10, f11]; exact ⟨b2, b4, bb, b8, .int, vb_slice hXn, .int⟩) ?_
  intro i hi
  have hsl := spreadL_len bl i
  have cW : ∀ c, (H.set X (.cells c .ex 1)).cellsOf X = some (c, .ex, 1) := fun c => cellsOf_set _ _ _ _ _
  by_cases hi64 : i < 64
  · have hi' : (i : Int) < 64 := by omega
    by_cases h16 : i < 16
    · have h16' : (i : Int) < 16 := by omega
      simp [c38_6, hi', h16']
      have hpk4 : ((pk B (at_ + 4 * i) 4 : Nat) : Int) = tn (be4 bl i) := by
        unfold tn
        rw [be4_nat, hblg (4 * i) (by omega), hblg (4 * i + 1) (by omega), hblg (4 * i + 2) (by omega), hblg (4 * i + 3) (by omega)]
        simp only [pk, Nat.add_zero, Nat.add_assoc]
        congr 1
        omega
      have hn4 : nextW bl (spreadL bl i) i = be4 bl i := by unfold nextW; rw [if_pos h16]
      have hnx : spreadL bl (i + 1) = spreadL bl i ++ [be4 bl i] := by rw [← hn4]; rfl
      have hlen : (wz6 (spreadL bl i) 64).length = 64 := wz6_len (by omega)
      have hput := wz6_put (n := 64) (l := spreadL bl i) (by omega) (be4 bl i)
      have hz0 := wz6_zero (n := 64) (l := spreadL bl i) (by omega)
      rw [hsl] at hput hz0
      have hcA : ∀ v : Int, (H.set X (.cells (aput (wz6 (spreadL bl i) 64) i [.int .i64 v]) .ex 1)).Closed := fun v => closed_set hcl hXn fun x hx => by
        unfold aput at hx
        rcases List.mem_append.1 hx with hx | hx
        · rcases List.mem_append.1 hx with hx | hx
          · exact wz6_bel x (List.mem_of_mem_take hx)
          · simp at hx; rw [hx]; exact .int
        · exact wz6_bel x (List.mem_of_mem_drop hx)
      refine awp_loop_of (α := Nat) (fun k => k ≤ 4)
        (fun k => [(2, p2), (4, p4), (5, .slice bo B.length bc), (8, p8), (9, .int .i64 at_), (10, .slice (some ⟨X, 0, none⟩) 64 64), (11, .int .i64 i), (12, .int .i64 k)]) (fun k => H.set X (.cells (aput (wz6 (spreadL bl i) 64) i [.int .i64 (pk B (at_ + 4 * i) k : Int)]) .ex 1)) (fun k => 4 - k) 0
        (Nat.zero_le _) (by
          rw [show ((pk B (at_ + 4 * i) 0 : Nat) : Int) = 0 from rfl, hz0]
          exact ⟨hn, Nat.le_refl _, fun _ _ e => e, clW i (by omega)⟩) (by simp; exact ⟨b2, b4, bb, b8, .int, vb_slice hXn, .int, .int⟩) ?_
      intro k hk
      by_cases hk4 : k < 4
      · have hk' : (k : Int) < 4 := by omega
        obtain ⟨b, o, cs, m, e, rfl, hbX, g1, g2⟩ := hbb (at_ + 4 * i + k) (by omega)
        have g1' : ∀ c, (H.set X (.cells c .ex 1)).cellsOf b = some (cs, m, e) := fun c => by rw [cellsOf_set_ne hbX]; exact g1
        have hpl := pk_lt B (at_ + 4 * i) k
        have hpl' : 256 ^ k ≤ 256 ^ 3 := Nat.pow_le_pow_right (by omega) (by omega)
        have hps : pk B (at_ + 4 * i) (k + 1) = 256 * pk B (at_ + 4 * i) k + (B.getD (at_ + 4 * i + k) 0).toNat := rfl
        have hby := (B.getD (at_ + 4 * i + k) 0).toNat_lt
        have hag := aput_get (c := wz6 (spreadL bl i) 64) (o := i) (x := .int .i64 (pk B (at_ + 4 * i) k : Int)) (by omega)
        have hat2 := fun y => aput_twice (c := wz6 (spreadL bl i) 64) (o := i) (x := .int .i64 (pk B (at_ + 4 * i) k : Int)) (y := y) (by omega)
        have hal : (aput (wz6 (spreadL bl i) 64) i [.int .i64 (pk B (at_ + 4 * i) k : Int)]).length = 64 := by rw [aput_len (by simp; omega)]; exact hlen
        generalize hp : pk B (at_ + 4 * i) k = p at *
        generalize (B.getD (at_ + 4 * i + k) 0).toNat = by_ at *
        have w1 : IntKind.i64.wrap (256 * (p : Int)) = ((256 * p : Nat) : Int) := by rw [IntWalk.i64_in _ (by omega)]; omega
        have w2 : IntKind.i64.wrap (4 * (i : Int)) = ((4 * i : Nat) : Int) := by rw [IntWalk.i64_in _ (by omega)]; omega
        have w3 : IntKind.i64.wrap ((at_ : Int) + ((4 * i : Nat) : Int)) = ((at_ + 4 * i : Nat) : Int) := by rw [IntWalk.i64_in _ (by omega)]; omega
        have w4 : IntKind.i64.wrap (((at_ + 4 * i : Nat) : Int) + (k : Int)) = ((at_ + 4 * i + k : Nat) : Int) := by rw [IntWalk.i64_in _ (by omega)]; omega
        have w5 : IntKind.i64.wrap (by_ : Int) = (by_ : Int) := IntWalk.i64_in _ (by omega)
        have w6 : IntKind.i64.wrap (((256 * p : Nat) : Int) + (by_ : Int)) = ((256 * p + by_ : Nat) : Int) := by rw [IntWalk.i64_in _ (by omega)]; omega
        have w7 : IntKind.i64.wrap ((k : Int) + 1) = ((k + 1 : Nat) : Int) := by rw [IntWalk.i64_in _ (by omega)]; omega
        have hix : aidx (.int .i64 ((at_ + 4 * i + k : Nat) : Int)) B.length = some (at_ + 4 * i + k) := aidx_of (by omega)
        simp [c38_8, hk', aidx_of hi64, cW, apart, hag, w1, w2, w3, w4, hix, g1', g2, w5, w6, w7, mcells, hal, hat2, show i ≤ 63 by omega, set_set, -Int.natCast_add, -Int.natCast_mul]
        refine ⟨k + 1, by omega, by omega, ?_, b2, b4, bb, b8, .int, vb_slice hXn, .int, rfl, .int⟩
        rw [hps]
        exact ⟨hn, Nat.le_refl _, fun _ _ e => e, hcA _⟩
      · have hke : k = 4 := by omega
        subst hke
        rw [hpk4, hput]
        have e1 : IntKind.i64.wrap ((i : Int) + 1) = ((i + 1 : Nat) : Int) := by rw [IntWalk.i64_in _ (by omega)]; omega
        simp [c38_8, e1, -Int.natCast_add]
        refine ⟨i + 1, by omega, by omega, ?_, b2, b4, bb, b8, .int, vb_slice hXn, rfl, .int⟩
        rw [hnx]
        exact ⟨hn, Nat.le_refl _, fun _ _ e => e, hnx ▸ clW (i + 1) (by omega)⟩
    · have h16' : ¬ (i : Int) < 16 := by omega
      have w15 : IntKind.i64.wrap ((i : Int) - 15) = ((i - 15 : Nat) : Int) := by rw [IntWalk.i64_in _ (by omega)]; omega
      have w2 : IntKind.i64.wrap ((i : Int) - 2) = ((i - 2 : Nat) : Int) := by rw [IntWalk.i64_in _ (by omega)]; omega
      have w7 : IntKind.i64.wrap ((i : Int) - 7) = ((i - 7 : Nat) : Int) := by rw [IntWalk.i64_in _ (by omega)]; omega
      have w16 : IntKind.i64.wrap ((i : Int) - 16) = ((i - 16 : Nat) : Int) := by rw [IntWalk.i64_in _ (by omega)]; omega
      have a15 : aidx (.int .i64 ((i - 15 : Nat) : Int)) 64 = some (i - 15) := aidx_of (by omega)
      have a2 : aidx (.int .i64 ((i - 2 : Nat) : Int)) 64 = some (i - 2) := aidx_of (by omega)
      have a7 : aidx (.int .i64 ((i - 7 : Nat) : Int)) 64 = some (i - 7) := aidx_of (by omega)
      have a16 : aidx (.int .i64 ((i - 16 : Nat) : Int)) 64 = some (i - 16) := aidx_of (by omega)
      have hnw : nextW bl (spreadL bl i) i = ((sg1 ((spreadL bl i).getD (i - 2) 0) + (spreadL bl i).getD (i - 7) 0) + sg0 ((spreadL bl i).getD (i - 15) 0)) + (spreadL bl i).getD (i - 16) 0 := by unfold nextW; rw [if_neg h16]
      have hnx : spreadL bl (i + 1) = spreadL bl i ++ [nextW bl (spreadL bl i) i] := rfl
      rw [hnw] at hnx
      have hput := fun w => wz6_put (n := 64) (l := spreadL bl i) (by omega) w
      rw [hsl] at hput
      have g15 := wz6_get (n := 64) (l := spreadL bl i) (i := i - 15) (by omega)
      have g2 := wz6_get (n := 64) (l := spreadL bl i) (i := i - 2) (by omega)
      have g7 := wz6_get (n := 64) (l := spreadL bl i) (i := i - 7) (by omega)
      have g16 := wz6_get (n := 64) (l := spreadL bl i) (i := i - 16) (by omega)
      generalize (spreadL bl i).getD (i - 15) 0 = x15 at *
      generalize (spreadL bl i).getD (i - 2) 0 = x2 at *
      generalize (spreadL bl i).getD (i - 7) 0 = x7 at *
      generalize (spreadL bl i).getD (i - 16) 0 = x16 at *
      have hlen : (wz6 (spreadL bl i) 64).length = 64 := wz6_len (by omega)
      have sh3 : (tn x15).fdiv 8 = tn (x15 >>> 3) := t6_shr x15 3 (by omega)
      have sh10 : (tn x2).fdiv 1024 = tn (x2 >>> 10) := t6_shr x2 10 (by omega)
      have b64 : IntKind.i64.bits = 64 := rfl
      simp [c38_6, hi', h16', w15, w2, w7, w16, a15, a2, a7, a16, g15, g2, g7, g16, cW, apart, b64, sh3, sh10]
      have call := fun (x : W32) (n : Nat) (hn : 2 ≤ n ∧ n ≤ 31) => rturn_ok x n hn (H.set X (.cells (wz6 (spreadL bl i) 64) .ex 1))
      refine (call x15 7 (by omega)).mono ?_
      rintro _ _ ⟨rfl, rfl⟩
      simp [g7, g16, cW, apart]
      refine (call x15 18 (by omega)).mono ?_
      rintro _ _ ⟨rfl, rfl⟩
      simp [g7, g16, cW, apart, t6_xor]
      refine (call x2 17 (by omega)).mono ?_
      rintro _ _ ⟨rfl, rfl⟩
      simp [g7, g16, cW, apart, t6_xor]
      refine (call x2 19 (by omega)).mono ?_
      rintro _ _ ⟨rfl, rfl⟩
      have hsum : (IntKind.i64.wrap (IntKind.i64.wrap (IntKind.i64.wrap (tn (sg0 x15) + tn (sg1 x2)) + tn x7) + tn x16)).tmod 4294967296 = tn (((sg1 x2 + x7) + sg0 x15) + x16) := by
        have l1 := (sg0 x15).isLt
        have l2 := (sg1 x2).isLt
        have l3 := x7.isLt
        have l4 := x16.isLt
        generalize sg0 x15 = A at *
        generalize sg1 x2 = C at *
        unfold tn
        rw [IntWalk.i64_in (↑A.toNat + ↑C.toNat) (by omega), IntWalk.i64_in (↑A.toNat + ↑C.toNat + ↑x7.toNat) (by omega), IntWalk.i64_in _ (by omega)]
        rw [show ((A.toNat : Int) + C.toNat + x7.toNat + x16.toNat) = ((A.toNat + C.toNat + x7.toNat + x16.toNat : Nat) : Int) by omega, tn_mod, ofNat_add, ofNat_add, ofNat_add, ofNat_tn, ofNat_tn, ofNat_tn, ofNat_tn]
        unfold tn
        congr 2
        ac_rfl
      simp only [sg0, sg1] at hsum hnx
      have e1 : IntKind.i64.wrap ((i : Int) + 1) = ((i + 1 : Nat) : Int) := by rw [IntWalk.i64_in _ (by omega)]; omega
      simp [g7, g16, cW, apart, t6_xor, aidx_of hi64, mcells, hlen, show i ≤ 63 by omega, hsum, set_set, hput, e1, -Int.natCast_add]
      refine ⟨i + 1, by omega, by omega, ?_, b2, b4, bb, b8, .int, vb_slice hXn, rfl, .int⟩
      rw [← hnx]
      exact ⟨hn, Nat.le_refl _, fun _ _ e => e, clW (i + 1) (by omega)⟩
  · have hie : i = 64 := by omega
    subst hie
    rw [wz6_all hsl]
    simp [c38_6]
    exact hQ _ (by simp) (by simp) (by simp) (by simp) (by simp) (by simp)

theorem wadd (m n : Nat) (h : m + n < 4611686018427387904) : IntKind.i64.wrap ((m : Int) + (n : Int)) = ((m + n : Nat) : Int) := by rw [IntWalk.i64_in _ (by omega)]; omega
theorem sl8 {H : Heap} {v : Value} {s : S8} (q : Sl cw H v s.l) : ∃ b o c cs m e, v = .slice (some ⟨b, o, none⟩) 8 c ∧ H.cellsOf b = some (cs, m, e) ∧ cs[o]? = some (cw s.a) ∧ cs[o + 1]? = some (cw s.b) ∧ cs[o + 2]? = some (cw s.c) ∧ cs[o + 3]? = some (cw s.d) ∧
    cs[o + 4]? = some (cw s.e) ∧ cs[o + 5]? = some (cw s.f) ∧ cs[o + 6]? = some (cw s.g) ∧ cs[o + 7]? = some (cw s.h) := by
  rcases q with ⟨c, _, q⟩ | ⟨b, o, cap, c, m, e, h1, h2, h3, h4, h5⟩
  · cases q
  · exact ⟨b, o, cap, c, m, e, h1, h2, h5 0 (show 0 < 8 by decide), h5 1 (show 1 < 8 by decide), h5 2 (show 2 < 8 by decide), h5 3 (show 3 < 8 by decide), h5 4 (show 4 < 8 by decide), h5 5 (show 5 < 8 by decide), h5 6 (show 6 < 8 by decide), h5 7 (show 7 < 8 by decide)⟩
def Fr8 (H : Heap) (vv : Value) : Prop := ∃ b o c, vv = .slice (some ⟨b, o, none⟩) 8 c ∧ H.n ≤ b
structure RSr where
  i : Nat
  vv : Value
  H : Heap
set_option maxHeartbeats 4000000 in
theorem rounds_ok {n0 : Nat} {Q : AQ} {f : AF} {H : Heap} (hcl : H.Closed) (hn : n0 ≤ H.n) (W : List W32) (hWl : W.length = 64) (S : S8) (X : Nat) (hX : H.cellsOf X = some (wl6 W, .ex, 1)) (Z : Nat) (Hv Kv : Value) (zm : BMode) (ze : Nat) (hZ : H.cellsOf Z = some ([Hv, Kv], zm, ze)) (hK : Sl cw H Kv kK)
    (p4 p5 p8 p9 : Value) (b4 : VBelow H.n p4) (b5 : VBelow H.n p5) (b8 : VBelow H.n p8) (b9 : VBelow H.n p9) (v0 : Value) (hv0 : Sl cw H v0 S.l)
    (f2 : f 2 = .pointer (some ⟨Z, 0, none⟩)) (f4 : f 4 = p4) (f5 : f 5 = p5) (f8 : f 8 = p8) (f9 : f 9 = p9) (f10 : f 10 = .slice (some ⟨X, 0, none⟩) 64 64) (f15 : f 15 = v0) (f16 : f 16 = .int .i64 0)
    (hQ : ∀ g Hr vv, Grr H Hr → Sl cw Hr vv (roundsF kK W S 64).l → Fr8 H vv → g 2 = .pointer (some ⟨Z, 0, none⟩) → g 4 = p4 → g 5 = p5 → g 8 = p8 → g 9 = p9 → g 15 = vv → Q (.exit 10) g Hr) :
    awp Tryz.prog n0 (.loop c38_10) Q f H := by
  have hXn := cellsOf_lt hcl hX
  have hZn := cellsOf_lt hcl hZ
  refine awp_loop_of (α := RSr) (fun z => z.i ≤ 64 ∧ Grr H z.H ∧ Sl cw z.H z.vv (roundsF kK W S z.i).l ∧ (z.i = 0 ∨ Fr8 H z.vv))
    (fun z => [(2, .pointer (some ⟨Z, 0, none⟩)), (4, p4), (5, p5), (8, p8), (9, p9), (10, .slice (some ⟨X, 0, none⟩) 64 64), (15, z.vv), (16, .int .i64 z.i)]) (fun z => z.H) (fun z => 64 - z.i) ⟨0, v0, H⟩
    ⟨Nat.zero_le _, Grr.refl hcl, hv0, .inl rfl⟩ ((Heap.Sub.refl hcl).weak hn) (by simp [f2, f4, f5, f8, f9, f10, f15, f16]; exact ⟨.ptr hZn, b4, b5, b8, b9, vb_slice hXn, Sl.below hv0 hcl, .int⟩) ?_
  rintro ⟨i, vv, Hr⟩ ⟨hi, hg, hv, hfr⟩
  dsimp only at hi hg hv hfr ⊢
  have hin := hg.n
  by_cases hi64 : i < 64
  · have hi' : (i : Int) < 64 := by omega
    have hsucc : roundsF kK W S (i + 1) = round (roundsF kK W S i) (kK.getD i 0) (W.getD i 0) := rfl
    generalize roundsF kK W S i = s at *
    obtain ⟨b, o, c, cs, m, e, rfl, hcb, ga, gb, gc, gd, ge, gf, gg, gh⟩ := sl8 hv
    obtain ⟨bk, ok, ck, csk, mk, ek, rfl, hkb, hkg⟩ : ∃ bk ok ck csk mk ek, Kv = .slice (some ⟨bk, ok, none⟩) 64 ck ∧ H.cellsOf bk = some (csk, mk, ek) ∧ csk[ok + i]? = some (cw (kK.getD i 0)) := by
      have hkl : kK.length = 64 := rfl
      rcases hK with ⟨c, _, q⟩ | ⟨b, o, cap, c, m, e, h1, h2, h3, h4, h5⟩
      · cases q
      · exact ⟨b, o, cap, c, m, e, h1, h2, by rw [h5 i (by omega), List.getD, List.getElem?_eq_getElem (by omega)]; rfl⟩
    have kX := cellsOf_keep hg.m hX
    have kZ := cellsOf_keep hg.m hZ
    have kK' := cellsOf_keep hg.m hkb
    have hwg := wl6_get (l := W) (i := i) (by omega)
    generalize kK.getD i 0 = k at *
    generalize W.getD i 0 = w at *
    obtain ⟨sa, sb, sc, sd, se, sf, sg, sh⟩ := s
    dsimp only at ga gb gc gd ge gf gg gh
    have a8 : ∀ j : Nat, j < 8 → aidx (.int .i64 (j : Int)) 8 = some j := fun j hj => aidx_of hj
    have a80 : aidx (.int .i64 0) 8 = some 0 := a8 0 (by omega)
    have a81 : aidx (.int .i64 1) 8 = some 1 := a8 1 (by omega)
    have a82 : aidx (.int .i64 2) 8 = some 2 := a8 2 (by omega)
    have a83 : aidx (.int .i64 3) 8 = some 3 := a8 3 (by omega)
    have a84 : aidx (.int .i64 4) 8 = some 4 := a8 4 (by omega)
    have a85 : aidx (.int .i64 5) 8 = some 5 := a8 5 (by omega)
    have a86 : aidx (.int .i64 6) 8 = some 6 := a8 6 (by omega)
    have a87 : aidx (.int .i64 7) 8 = some 7 := a8 7 (by omega)
    have hnot : IntKind.i64.wrap (4294967295 - tn se) = tn (~~~se) := by rw [not_sub]; exact wrap64 (~~~se).isLt
    have call := fun (x : W32) (n : Nat) (hn : 2 ≤ n ∧ n ≤ 31) => rturn_ok x n hn Hr
    generalize hA : rot 6 se ^^^ rot 11 se ^^^ rot 25 se = A at *
    generalize hC : (se &&& sf) ^^^ (~~~se &&& sg) = C at *
    generalize hM : (sa &&& sb) ^^^ (sa &&& sc) ^^^ (sb &&& sc) = M at *
    generalize hE : rot 2 sa ^^^ rot 13 sa ^^^ rot 22 sa = E at *
    generalize hR : round ⟨sa, sb, sc, sd, se, sf, sg, sh⟩ k w = R at *
    have lA := A.isLt
    have lC := C.isLt
    have lM := M.isLt
    have lE := E.isLt
    have lk := k.isLt
    have lw := w.isLt
    have lh := sh.isLt
    have ld := sd.isLt
    have q1 : IntKind.i64.wrap (tn sh + tn A) = ((sh.toNat + A.toNat : Nat) : Int) := wadd _ _ (by omega)
    have q2 : IntKind.i64.wrap (((sh.toNat + A.toNat : Nat) : Int) + tn C) = ((sh.toNat + A.toNat + C.toNat : Nat) : Int) := wadd _ _ (by omega)
    have q3 : IntKind.i64.wrap (((sh.toNat + A.toNat + C.toNat : Nat) : Int) + tn k) = ((sh.toNat + A.toNat + C.toNat + k.toNat : Nat) : Int) := wadd _ _ (by omega)
    have q4 : IntKind.i64.wrap (((sh.toNat + A.toNat + C.toNat + k.toNat : Nat) : Int) + tn w) = ((sh.toNat + A.toNat + C.toNat + k.toNat + w.toNat : Nat) : Int) := wadd _ _ (by omega)
    have q5 : IntKind.i64.wrap (tn E + tn M) = ((E.toNat + M.toNat : Nat) : Int) := wadd _ _ (by omega)
    have q6 : IntKind.i64.wrap (((sh.toNat + A.toNat + C.toNat + k.toNat + w.toNat : Nat) : Int) + ((E.toNat + M.toNat : Nat) : Int)) = ((sh.toNat + A.toNat + C.toNat + k.toNat + w.toNat + (E.toNat + M.toNat) : Nat) : Int) := wadd _ _ (by omega)
    have q7 : IntKind.i64.wrap (tn sd + ((sh.toNat + A.toNat + C.toNat + k.toNat + w.toNat : Nat) : Int)) = ((sd.toNat + (sh.toNat + A.toNat + C.toNat + k.toNat + w.toNat) : Nat) : Int) := wadd _ _ (by omega)
    have hR2 : R = ⟨((((sh + A) + C) + k) + w) + (E + M), sa, sb, sc, sd + ((((sh + A) + C) + k) + w), se, sf, sg⟩ := by rw [← hR, ← hA, ← hC, ← hM, ← hE]; rfl
    have q8 : ((sh.toNat + A.toNat + C.toNat + k.toNat + w.toNat + (E.toNat + M.toNat) : Nat) : Int).tmod 4294967296 = tn R.a := by
      rw [tn_mod, hR2]
      simp only [ofNat_add, ofNat_tn]
    have q9 : ((sd.toNat + (sh.toNat + A.toNat + C.toNat + k.toNat + w.toNat) : Nat) : Int).tmod 4294967296 = tn R.e := by
      rw [tn_mod, hR2]
      simp only [ofNat_add, ofNat_tn]
    have hx3 : (rot 6 se ^^^ rot 11 se) ^^^ rot 25 se = A := hA
    have hx4 : (rot 2 sa ^^^ rot 13 sa) ^^^ rot 22 sa = E := hE
    simp [c38_10, hi', a80, a81, a82, a83, a84, a85, a86, a87, hcb, apart, ga, gb, gc, gd, ge, gf, gg, gh, t6_and, t6_or, hnot, ch_or, maj_or, hC, hM, kZ, kK', aidx_of hi64, hkg, kX, hwg]
    refine (call se 6 (by omega)).mono ?_
    rintro _ h9 ⟨rfl, e9⟩
    rw [e9]
    clear e9 h9
    simp [a87, hcb, apart, gh, kZ, kK', aidx_of hi64, hkg, kX, hwg]
    refine (call se 11 (by omega)).mono ?_
    rintro _ h9 ⟨rfl, e9⟩
    rw [e9]
    clear e9 h9
    simp [a87, hcb, apart, gh, kZ, kK', aidx_of hi64, hkg, kX, hwg, t6_xor]
    refine (call se 25 (by omega)).mono ?_
    rintro _ h9 ⟨rfl, e9⟩
    rw [e9]
    clear e9 h9
    simp [a87, hcb, apart, gh, kZ, kK', aidx_of hi64, hkg, kX, hwg, t6_xor, hA, q1, q2, q3, q4, -Int.natCast_add]
    refine (call sa 2 (by omega)).mono ?_
    rintro _ h9 ⟨rfl, e9⟩
    rw [e9]
    clear e9 h9
    simp [-Int.natCast_add]
    refine (call sa 13 (by omega)).mono ?_
    rintro _ h9 ⟨rfl, e9⟩
    rw [e9]
    clear e9 h9
    simp [t6_xor, -Int.natCast_add]
    refine (call sa 22 (by omega)).mono ?_
    rintro _ h9 ⟨rfl, e9⟩
    rw [e9]
    clear e9 h9
    have fil : afill (zl .i64 8) [(0, 1, .int .i64 (tn R.a)), (1, 1, cw sa), (2, 1, cw sb), (3, 1, cw sc), (4, 1, .int .i64 (tn R.e)), (5, 1, cw se), (6, 1, cw sf), (7, 1, cw sg)] = some (wl6 R.l) := by
      have e1 : sa = R.b := by rw [hR2]
      have e2 : sb = R.c := by rw [hR2]
      have e3 : sc = R.d := by rw [hR2]
      have e5 : se = R.f := by rw [hR2]
      have e6 : sf = R.g := by rw [hR2]
      have e7 : sg = R.h := by rw [hR2]
      rw [e1, e2, e3, e5, e6, e7]
      rfl
    have e1 : IntKind.i64.wrap ((i : Int) + 1) = ((i + 1 : Nat) : Int) := by rw [IntWalk.i64_in _ (by omega)]; omega
    simp [t6_xor, hE, q5, q6, q7, q8, q9, -Int.natCast_add, a80, a81, a82, a83, a84, a85, a86, a87, hcb, apart, ga, gb, gc, gd, ge, gf, gg, gh, fil, e1]
    have g2 := hg.push (o := .cells (wl6 R.l) .ex 1) wl6_bel
    refine ⟨⟨i + 1, .slice (some ⟨Hr.n, 0, none⟩) 8 8, Hr.push (.cells (wl6 R.l) .ex 1)⟩, by show 64 - (i + 1) < 64 - i; omega, ⟨by show i + 1 ≤ 64; omega, g2, ?_, .inr ⟨Hr.n, 0, 8, rfl, hin⟩⟩, ⟨by show n0 ≤ Hr.n + 1; omega, Nat.le_refl _, fun _ _ e => e, g2.cl⟩, .ptr (by show Z < Hr.n + 1; omega), b4.mono (by show H.n ≤ Hr.n + 1; omega), b5.mono (by show H.n ≤ Hr.n + 1; omega), b8.mono (by show H.n ≤ Hr.n + 1; omega), b9.mono (by show H.n ≤ Hr.n + 1; omega), vb_slice (by show X < Hr.n + 1; omega), ⟨rfl, vb_slice (Nat.lt_succ_self _)⟩, rfl, .int⟩
    show Sl cw (Hr.push (.cells (wl6 R.l) .ex 1)) _ (roundsF kK W S (i + 1)).l
    rw [hsucc]
    exact .inr ⟨Hr.n, 0, 8, wl6 R.l, .ex, 1, rfl, cellsOf_new _ _ _ _, Nat.le_refl _, fun _ => by rw [wl6_len, Nat.zero_add]; exact Nat.le_refl _, fun j hj => by rw [Nat.zero_add, wl6_get hj, List.getD, List.getElem?_eq_getElem hj]; rfl⟩
  · have hie : i = 64 := by omega
    subst hie
    simp [c38_10]
    exact hQ _ _ _ hg hv (by rcases hfr with q | q; exact absurd q (by decide); exact q) (by simp) (by simp) (by simp) (by simp) (by simp) (by simp)

def prt (s x : S8) (i : Nat) : List W32 := (add8 s x).l.take i ++ s.l.drop i
theorem part6_get (s x : S8) : ∀ i : Nat, i < 8 → (wl6 (prt s x i))[i]? = some (.int .i64 (tn (s.l.getD i 0)))
  | 0, _ => rfl
  | 1, _ => rfl
  | 2, _ => rfl
  | 3, _ => rfl
  | 4, _ => rfl
  | 5, _ => rfl
  | 6, _ => rfl
  | 7, _ => rfl
  | i + 8, h => absurd h (by omega)
theorem part6_put (s x : S8) : ∀ i : Nat, i < 8 → aput (wl6 (prt s x i)) i [.int .i64 (tn (s.l.getD i 0 + x.l.getD i 0))] = wl6 (prt s x (i + 1))
  | 0, _ => rfl
  | 1, _ => rfl
  | 2, _ => rfl
  | 3, _ => rfl
  | 4, _ => rfl
  | 5, _ => rfl
  | 6, _ => rfl
  | 7, _ => rfl
  | i + 8, h => absurd h (by omega)
theorem part6_len (s x : S8) : ∀ i : Nat, i ≤ 8 → (wl6 (prt s x i)).length = 8 := fun i hi => by
  rw [wl6_len]
  unfold prt
  rw [List.length_append, List.length_take, List.length_drop]
  show min i 8 + (8 - i) = 8
  omega
theorem hloop_ok {n0 : Nat} {Q : AQ} {f : AF} {H : Heap} (hcl : H.Closed) (hn : n0 ≤ H.n) (S x : S8) (Y : Nat) (md : BMode) (me : Nat) (hro : md ≠ .ro) (hY : H.cellsOf Y = some (wl6 S.l, md, me))
    (p2 p4 p5 p9 : Value) (b2 : VBelow H.n p2) (b4 : VBelow H.n p4) (b5 : VBelow H.n p5) (b9 : VBelow H.n p9) (vv : Value) (hv : Sl cw H vv x.l) (hfr : ∀ b o l c, vv = .slice (some ⟨b, o, none⟩) l c → b ≠ Y)
    (f2 : f 2 = p2) (f4 : f 4 = p4) (f5 : f 5 = p5) (f8 : f 8 = .slice (some ⟨Y, 0, none⟩) 8 8) (f9 : f 9 = p9) (f15 : f 15 = vv) (f23 : f 23 = .int .i64 0)
    (hQ : ∀ g, g 2 = p2 → g 4 = p4 → g 5 = p5 → g 8 = .slice (some ⟨Y, 0, none⟩) 8 8 → g 9 = p9 → Q (.exit 12) g (H.set Y (.cells (wl6 (add8 S x).l) md me))) :
    awp Tryz.prog n0 (.loop c38_12) Q f H := by
  have hYn := cellsOf_lt hcl hY
  have hclY : ∀ i, (H.set Y (.cells (wl6 (prt S x i)) md me)).Closed := fun i => closed_set hcl hYn wl6_bel
  have bv := Sl.below hv hcl
  refine awp_loop_of (α := Nat) (fun i => i ≤ 8)
    (fun i => [(2, p2), (4, p4), (5, p5), (8, .slice (some ⟨Y, 0, none⟩) 8 8), (9, p9), (15, vv), (23, .int .i64 i)]) (fun i => H.set Y (.cells (wl6 (prt S x i)) md me)) (fun i => 8 - i) 0
    (Nat.zero_le _) (by
      have : H.set Y (.cells (wl6 (prt S x 0)) md me) = H := set_same (m_of_cells hY)
      rw [this]; exact (Heap.Sub.refl hcl).weak hn) (by simp [f2, f4, f5, f8, f9, f15, f23]; exact ⟨b2, b4, b5, vb_slice hYn, b9, bv, .int⟩) ?_
  intro i hi
  by_cases hi8 : i < 8
  · have hi' : (i : Int) < 8 := by omega
    have g1 := part6_get S x i hi8
    have g2 := part6_put S x i hi8
    have g3 := part6_len S x i hi
    obtain ⟨b, o, c, cs, m, e, rfl, hcb, hg⟩ : ∃ b o c cs m e, vv = .slice (some ⟨b, o, none⟩) 8 c ∧ H.cellsOf b = some (cs, m, e) ∧ cs[o + i]? = some (.int .i64 (tn (x.l.getD i 0))) := by
      have hkl : x.l.length = 8 := rfl
      rcases hv with ⟨c, _, q⟩ | ⟨b, o, cap, c, m, e, h1, h2, h3, h4, h5⟩
      · cases q
      · exact ⟨b, o, cap, c, m, e, h1, h2, by rw [h5 i (by omega), List.getD, List.getElem?_eq_getElem (by omega)]; rfl⟩
    have hbY := hfr b o 8 c rfl
    have cY : ∀ cc, (H.set Y (.cells cc md me)).cellsOf Y = some (cc, md, me) := fun cc => cellsOf_set _ _ _ _ _
    have cB : ∀ cc, (H.set Y (.cells cc md me)).cellsOf b = some (cs, m, e) := fun cc => by rw [cellsOf_set_ne hbY]; exact hcb
    generalize S.l.getD i 0 = u at *
    generalize x.l.getD i 0 = w at *
    have lu := u.isLt
    have lw := w.isLt
    have q1 : IntKind.i64.wrap (tn u + tn w) = ((u.toNat + w.toNat : Nat) : Int) := wadd _ _ (by omega)
    have q2 : ((u.toNat + w.toNat : Nat) : Int).tmod 4294967296 = tn (u + w) := by rw [tn_mod, of_add]
    have e1 : IntKind.i64.wrap ((i : Int) + 1) = ((i + 1 : Nat) : Int) := by rw [IntWalk.i64_in _ (by omega)]; omega
    simp [c38_12, hi', aidx_of hi8, cY, cB, apart, g1, hg, q1, q2, mcells, hro, g3, show i ≤ 7 by omega, set_set, g2, e1, -Int.natCast_add]
    exact ⟨i + 1, by omega, by omega, ⟨hn, Nat.le_refl _, fun _ _ e => e, hclY _⟩, b2, b4, b5, vb_slice hYn, b9, bv, rfl, .int⟩
  · have hie : i = 8 := by omega
    subst hie
    have : prt S x 8 = (add8 S x).l := rfl
    rw [this]
    simp [c38_12]
    exact hQ _ (by simp) (by simp) (by simp) (by simp) (by simp)
theorem be_get : ∀ (l : List W32) (j r : Nat), r < 4 → j < l.length → (l.flatMap be).getD (4 * j + r) 0 = byt (l.getD j 0 >>> (24 - 8 * r))
  | [], _, _, _, h => by simp at h
  | w :: l, 0, r, hr, _ => by
    match r, hr with
    | 0, _ => rfl
    | 1, _ => rfl
    | 2, _ => rfl
    | 3, _ => simp [be, List.getD]
  | w :: l, j + 1, r, hr, h => by
    have ih := be_get l j r hr (by simpa using h)
    have e1 : (w :: l).flatMap be = be w ++ l.flatMap be := rfl
    have e2 : (w :: l).getD (j + 1) 0 = l.getD j 0 := rfl
    rw [e1, e2, ← ih, List.getD, List.getD, List.getElem?_append_right (by show 4 ≤ _; omega)]
    congr 2
    show 4 * (j + 1) + r - 4 = 4 * j + r
    omega
theorem hashB_get (S : S8) (i : Nat) (h : i < 32) : (hashB S).getD i 0 = byt (S.l.getD (i / 4) 0 >>> (24 - 8 * (i % 4))) := by
  have := be_get S.l (i / 4) (i % 4) (by omega) (by show i / 4 < 8; omega)
  rwa [show 4 * (i / 4) + i % 4 = i by omega] at this
theorem oloop_ok {n0 : Nat} {Q : AQ} {f : AF} {H : Heap} (hcl : H.Closed) (hn : n0 ≤ H.n) (S : S8) (Y : Nat) (md : BMode) (me : Nat) (hY : H.cellsOf Y = some (wl6 S.l, md, me)) (O : Nat) (hO : H.cellsOf O = some (bz [] 32, .ex, 1))
    (p4 : Value) (b4 : VBelow H.n p4) (f4 : f 4 = p4) (f8 : f 8 = .slice (some ⟨Y, 0, none⟩) 8 8) (f24 : f 24 = .pointer (some ⟨O, 0, none⟩)) (f25 : f 25 = .int .i64 0)
    (hQ : ∀ g, g 4 = p4 → g 24 = .pointer (some ⟨O, 0, none⟩) → Q (.exit 14) g (H.set O (.cells (ubs (hashB S)) .ex 1))) :
    awp Tryz.prog n0 (.loop c38_14) Q f H := by
  have hYn := cellsOf_lt hcl hY
  have hOn := cellsOf_lt hcl hO
  have hl32 := hashB_len S
  have hYO : ¬ Y = O := by
    rintro rfl
    rw [hY] at hO
    simp only [Option.some.injEq, Prod.mk.injEq] at hO
    have := congrArg List.length hO.1
    rw [wl6_len, bz_len (by simp)] at this
    cases this
  have bzb : ∀ i n, ∀ x ∈ bz ((hashB S).take i) 32, VBelow n x := fun i n x hx => by
    rcases List.mem_append.1 hx with hx | hx
    · exact ubs_bel x hx
    · rw [List.eq_of_mem_replicate hx]; exact .int
  have hclO : ∀ i, (H.set O (.cells (bz ((hashB S).take i) 32) .ex 1)).Closed := fun i => closed_set hcl hOn (bzb i _)
  refine awp_loop_of (α := Nat) (fun i => i ≤ 32)
    (fun i => [(4, p4), (8, .slice (some ⟨Y, 0, none⟩) 8 8), (24, .pointer (some ⟨O, 0, none⟩)), (25, .int .i64 i)]) (fun i => H.set O (.cells (bz ((hashB S).take i) 32) .ex 1)) (fun i => 32 - i) 0
    (Nat.zero_le _) (by
      have : H.set O (.cells (bz ((hashB S).take 0) 32) .ex 1) = H := set_same (m_of_cells hO)
      rw [this]; exact (Heap.Sub.refl hcl).weak hn) (by simp [f4, f8, f24, f25]; exact ⟨b4, vb_slice hYn, .ptr hOn, .int⟩) ?_
  intro i hi
  by_cases hi32 : i < 32
  · have hi' : (i : Int) < 32 := by omega
    have hg := hashB_get S i hi32
    have htk : (hashB S).take (i + 1) = (hashB S).take i ++ [byt (S.l.getD (i / 4) 0 >>> (24 - 8 * (i % 4)))] := by
      rw [List.take_succ_eq_append_getElem (by omega), ← hg, List.getD, List.getElem?_eq_getElem (by omega)]; rfl
    have hlt : ((hashB S).take i).length = i := by rw [List.length_take]; omega
    have hput := bz_put (n := 32) (l := (hashB S).take i) (by omega) (byt (S.l.getD (i / 4) 0 >>> (24 - 8 * (i % 4))))
    rw [hlt, ← htk] at hput
    have hbl : (bz ((hashB S).take i) 32).length = 32 := bz_len (by omega)
    have hwg := wl6_get (l := S.l) (i := i / 4) (by show i / 4 < 8; omega)
    generalize S.l.getD (i / 4) 0 = w at *
    have cO : ∀ cc, (H.set O (.cells cc .ex 1)).cellsOf O = some (cc, .ex, 1) := fun cc => cellsOf_set _ _ _ _ _
    have cY : ∀ cc, (H.set O (.cells cc .ex 1)).cellsOf Y = some (wl6 S.l, md, me) := fun cc => by rw [cellsOf_set_ne hYO]; exact hY
    have d1 : ((i : Nat) : Int).tdiv 4 = ((i / 4 : Nat) : Int) := tdivN i 4
    have d2 : ((i : Nat) : Int).tmod 4 = ((i % 4 : Nat) : Int) := tmodN i 4
    have w1 : IntKind.i64.wrap ((i / 4 : Nat) : Int) = ((i / 4 : Nat) : Int) := IntWalk.i64_in _ (by omega)
    have w2 : IntKind.i64.wrap (8 * ((i % 4 : Nat) : Int)) = 8 * ((i % 4 : Nat) : Int) := IntWalk.i64_in _ (by omega)
    have w3 : IntKind.i64.wrap (24 - 8 * ((i % 4 : Nat) : Int)) = ((24 - 8 * (i % 4) : Nat) : Int) := by rw [IntWalk.i64_in _ (by omega)]; omega
    generalize hk : 24 - 8 * (i % 4) = k at *
    have w4 : IntKind.u64.wrap (k : Int) = (k : Int) := by unfold IntKind.wrap; simp [IntKind.bits, IntKind.signed]; omega
    have m1 : min k 64 = k := by omega
    have s1 := t6_shr w k (by omega)
    have b64 : IntKind.i64.bits = 64 := rfl
    have w5 : IntKind.u8.wrap ((tn (w >>> k)).tmod 256) = ((byt (w >>> k)).toNat : Int) := by
      have : (tn (w >>> k)).tmod 256 = (((w >>> k).toNat % 256 : Nat) : Int) := tmodN _ 256
      rw [this]
      unfold byt
      have h2 : (UInt8.ofNat (w >>> k).toNat).toNat = (w >>> k).toNat % 256 := by simp
      rw [h2]
      unfold IntKind.wrap; simp [IntKind.bits, IntKind.signed]
    have a1 : aidx (.int .i64 ((i / 4 : Nat) : Int)) 8 = some (i / 4) := aidx_of (by omega)
    have e1 : IntKind.i64.wrap ((i : Int) + 1) = ((i + 1 : Nat) : Int) := by rw [IntWalk.i64_in _ (by omega)]; omega
    simp [c38_14, hi', d1, d2, w1, w2, w3, w4, m1, b64, s1, w5, a1, aidx_of hi32, cO, cY, apart, hwg, mcells, hbl, show i ≤ 31 by omega, set_set, e1, -Int.natCast_add, -Int.natCast_ediv, -Int.natCast_emod]
    refine ⟨i + 1, by omega, by omega, ?_, b4, vb_slice hYn, .ptr hOn, rfl, .int⟩
    have hput' : aput (bz ((hashB S).take i) 32) i [.int .u8 ((byt (w >>> k)).toNat : Int)] = bz ((hashB S).take (i + 1)) 32 := hput
    rw [hput']
    exact ⟨hn, Nat.le_refl _, fun _ _ e => e, hclO _⟩
  · have hie : i = 32 := by omega
    subst hie
    have : bz ((hashB S).take 32) 32 = ubs (hashB S) := by rw [List.take_of_length_le (by omega)]; simp [bz, hl32, zl]
    rw [this]
    simp [c38_14]
    exact hQ _ (by simp) (by simp)

theorem lat_byte {H : Heap} {nm : Option Nat} {v : Value} {l : List UInt8} (hc : H.Closed) (q : LAt H 1 nm v l.length (ubs l)) (x : UInt8) (hl : l.length ≤ 100000000) :
    ∃ a, v = .slice a l.length l.length ∧ ∃ a2 H2, aapp (H.push (.cells [eb x] .ex 1)) 5 1 1 a l.length l.length [eb x] 1 = some (.slice a2 (l.length + 1) (l.length + 1), H2) ∧ LAt H2 1 (some (H.n + 1)) (.slice a2 (l.length + 1) (l.length + 1)) (l.length + 1) (ubs (l ++ [x])) ∧
      (∀ y ob, H.m y = some ob → nm ≠ some y → H2.m y = some ob) ∧ H2.n = H.n + 2 ∧ H2.Closed := by
  have l1 : LAt (H.push (.cells [eb x] .ex 1)) 1 nm v l.length (ubs l) := q.keep fun y e => by
    subst e
    rw [push_m, if_neg (by have := q.lt hc; omega)]
  have hcp : (H.push (.cells [eb x] .ex 1)).Closed := closed_push hc (o := .cells [eb x] .ex 1) (fun y hy => by simp at hy; rw [hy]; exact .int)
  obtain ⟨a, q, v2, H2, happ, l2, keep2, n2, c2⟩ := lat_app (t := 5) (bytes := 1) (k := 1) (new := [eb x]) hcp l1 Nat.one_pos rfl (fun y hy => by simp at hy; rw [hy]; exact .int) (by omega)
  obtain ⟨a2, rfl⟩ := l2.form
  refine ⟨a, q, a2, H2, happ, ?_, fun y ob e hne => keep2 y ob (by rw [push_m, if_neg (by have := (hc y ob e).1; omega)]; exact e) hne, n2, c2⟩
  rw [ubs_app]; exact l2
theorem zc_iff (n k : Nat) (hk : k ≤ zc n) : (n + 1 + k) % 64 = 56 ↔ k = zc n := by
  unfold zc at *
  omega
theorem rep_succ (k : Nat) : List.replicate (k + 1) (0 : UInt8) = List.replicate k 0 ++ [0] := List.replicate_succ' ..
theorem pad0_ok {n0 : Nat} {Q : AQ} {f : AF} {H : Heap} (hcl : H.Closed) (hn : n0 ≤ H.n) (T : List UInt8) (hT : T.length ≤ 10000000) (p1 p2 p4 : Value) (b1 : VBelow H.n p1) (b2 : VBelow H.n p2) (b4 : VBelow H.n p4)
    (nm : Option Nat) (v : Value) (hl : LAt H 1 nm v (T.length + 1) (ubs (T ++ [128]))) (B0 : Heap) (hcB0 : B0.Closed) (hB0 : Grr B0 H) (hnm : ∀ x, nm = some x → B0.n ≤ x)
    (f1 : f 1 = p1) (f2 : f 2 = p2) (f4 : f 4 = p4) (f5 : f 5 = v)
    (hQ : ∀ g Hr nr vr, Grr B0 Hr → H.n ≤ Hr.n → LAt Hr 1 nr vr (T.length + 1 + zc T.length) (ubs (T ++ ([128] ++ List.replicate (zc T.length) 0))) → (∀ x, nr = some x → B0.n ≤ x) → g 1 = p1 → g 2 = p2 → g 4 = p4 → g 5 = vr → Q (.exit 0) g Hr) :
    awp Tryz.prog n0 (.loop c38_0) Q f H := by
  have hz : zc T.length < 64 := by unfold zc; omega
  refine awp_loop_of (α := PSr) (fun z => z.k ≤ zc T.length ∧ LAt z.H 1 z.nm z.v (T.length + 1 + z.k) (ubs (T ++ ([128] ++ List.replicate z.k 0))) ∧ Grr B0 z.H ∧ H.n ≤ z.H.n ∧ ∀ x, z.nm = some x → B0.n ≤ x)
    (fun z => [(1, p1), (2, p2), (4, p4), (5, z.v)]) (fun z => z.H) (fun z => zc T.length - z.k) ⟨0, nm, v, H⟩
    ⟨Nat.zero_le _, by simpa using hl, hB0, Nat.le_refl _, hnm⟩ ((Heap.Sub.refl hcl).weak hn) (by simp [f1, f2, f4, f5]; exact ⟨b1, b2, b4, hl.below hcl⟩) ?_
  rintro ⟨k, nk, vk, Hk⟩ ⟨hk, hlk, hg, hHn, hnk⟩
  dsimp only at hk hlk hg hHn hnk ⊢
  have hif := zc_iff T.length k hk
  have hm : (((T.length + 1 + k : Nat) : Int)).tmod 64 = (((T.length + 1 + k) % 64 : Nat) : Int) := tmodN _ 64
  have hbk := hlk.below hg.cl
  have hll : (T ++ ([128] ++ List.replicate k 0)).length = T.length + 1 + k := by simp; omega
  by_cases hlt : k < zc T.length
  · have hne : ¬ (T.length + 1 + k) % 64 = 56 := fun q => by have := hif.1 q; omega
    rw [← hll] at hlk
    obtain ⟨a, rfl, a2, H2, happ, l2, keep2, n2, c2⟩ := lat_byte hg.cl hlk 0 (by omega)
    rw [hll] at happ l2
    generalize hr : (T.length + 1 + k) % 64 = r at *
    have fil : afill [.int .u8 0] [(0, 1, .int .u8 0)] = some [eb 0] := rfl
    have hfst : afirst (Hk.push (.cells [eb 0] .ex 1)) 1 1 (.slice (some ⟨Hk.n, 0, none⟩) 1 1) = some [eb 0] := by simp [afirst, cellsOf_new, acut]
    have hne' : ¬ (r : Int) = 56 := by omega
    simp only [hll]
    simp [c38_0, hm, hne, hne', fil, alen, hfst, happ, -Int.natCast_add]
    have g2 : Grr B0 H2 := ⟨by have := hg.n; omega, c2, fun y ob e => keep2 y ob (hg.m y ob e) (fun q => by
      have := hnk y q
      have hcB : B0.Closed := hcB0
      have := (hcB y ob e).1
      omega)⟩
    refine ⟨⟨k + 1, some (Hk.n + 1), .slice a2 (T.length + 1 + k + 1) (T.length + 1 + k + 1), H2⟩, by show zc T.length - (k + 1) < _; omega, ⟨by show k + 1 ≤ _; omega, ?_, g2, by show H.n ≤ H2.n; omega, fun x e => by cases e; have := hg.n; omega⟩, ⟨by show n0 ≤ H2.n; omega, Nat.le_refl _, fun _ _ e => e, c2⟩, b1.mono (by show H.n ≤ H2.n; omega), b2.mono (by show H.n ≤ H2.n; omega), b4.mono (by show H.n ≤ H2.n; omega), rfl, l2.below c2⟩
    show LAt H2 1 (some (Hk.n + 1)) _ (T.length + 1 + (k + 1)) (ubs (T ++ 128 :: List.replicate (k + 1) 0))
    have : T ++ 128 :: List.replicate (k + 1) (0 : UInt8) = T ++ ([128] ++ List.replicate k 0) ++ [0] := by rw [rep_succ]; simp
    rw [this]; exact l2
  · have hke : k = zc T.length := by omega
    subst hke
    have he : (T.length + 1 + zc T.length) % 64 = 56 := hif.2 rfl
    obtain ⟨a, rfl⟩ := hlk.form
    rw [he] at hm
    simp [c38_0, hm, -Int.natCast_add]
    exact hQ _ _ _ _ hg hHn hlk hnk (by simp) (by simp) (by simp) (by simp)
theorem lenB_get (n j : Nat) (h : j < 8) : (lenB n).getD j 0 = UInt8.ofNat (8 * n / 2 ^ (8 * (7 - j))) := by
  unfold lenB
  simp [List.getD, h]
theorem pad2_ok {n0 : Nat} {Q : AQ} {f : AF} {H : Heap} (hcl : H.Closed) (hn : n0 ≤ H.n) (n : Nat) (hnn : n ≤ 10000000) (L : List UInt8) (hL : L.length ≤ 10000100) (p2 p4 : Value) (b2 : VBelow H.n p2) (b4 : VBelow H.n p4)
    (nm : Option Nat) (v : Value) (hl : LAt H 1 nm v L.length (ubs L)) (B0 : Heap) (hcB0 : B0.Closed) (hB0 : Grr B0 H) (hnm : ∀ x, nm = some x → B0.n ≤ x)
    (f2 : f 2 = p2) (f4 : f 4 = p4) (f5 : f 5 = v) (f6 : f 6 = .int .i64 ((8 * n : Nat) : Int)) (f7 : f 7 = .int .i64 7)
    (hQ : ∀ g Hr nr vr, Grr B0 Hr → H.n ≤ Hr.n → LAt Hr 1 nr vr (L.length + 8) (ubs (L ++ lenB n)) → (∀ x, nr = some x → B0.n ≤ x) → g 2 = p2 → g 4 = p4 → g 5 = vr → Q (.exit 2) g Hr) :
    awp Tryz.prog n0 (.loop c38_2) Q f H := by
  have h8 : (lenB n).length = 8 := by simp [lenB]
  refine awp_loop_of (α := PSr) (fun z => z.k ≤ 8 ∧ LAt z.H 1 z.nm z.v (L.length + z.k) (ubs (L ++ (lenB n).take z.k)) ∧ Grr B0 z.H ∧ H.n ≤ z.H.n ∧ ∀ x, z.nm = some x → B0.n ≤ x)
    (fun z => [(2, p2), (4, p4), (5, z.v), (6, .int .i64 ((8 * n : Nat) : Int)), (7, .int .i64 (7 - (z.k : Int)))]) (fun z => z.H) (fun z => 8 - z.k) ⟨0, nm, v, H⟩
    ⟨Nat.zero_le _, by simpa using hl, hB0, Nat.le_refl _, hnm⟩ ((Heap.Sub.refl hcl).weak hn) (by simp [f2, f4, f5, f6, f7]; exact ⟨b2, b4, hl.below hcl, .int, .int⟩) ?_
  rintro ⟨k, nk, vk, Hk⟩ ⟨hk, hlk, hg, hHn, hnk⟩
  dsimp only at hk hlk hg hHn hnk ⊢
  have hll : (L ++ (lenB n).take k).length = L.length + k := by rw [List.length_append, List.length_take]; omega
  by_cases hlt : k < 8
  · have hk7 : k ≤ 7 := by omega
    have hk7' : (k : Int) ≤ 7 := by omega
    have hlt' : (0 : Int) ≤ 7 - (k : Int) := by omega
    have hgk := lenB_get n k hlt
    have htk : (lenB n).take (k + 1) = (lenB n).take k ++ [UInt8.ofNat (8 * n / 2 ^ (8 * (7 - k)))] := by
      rw [List.take_succ_eq_append_getElem (by omega), ← hgk, List.getD, List.getElem?_eq_getElem (by omega)]; rfl
    rw [← hll] at hlk
    obtain ⟨a, rfl, a2, H2, happ, l2, keep2, n2, c2⟩ := lat_byte hg.cl hlk (UInt8.ofNat (8 * n / 2 ^ (8 * (7 - k)))) (by omega)
    rw [hll] at happ l2
    have w1 : IntKind.i64.wrap (8 * (7 - (k : Int))) = ((8 * (7 - k) : Nat) : Int) := by rw [IntWalk.i64_in _ (by omega)]; omega
    have w2 : IntKind.u64.wrap ((8 * (7 - k) : Nat) : Int) = ((8 * (7 - k) : Nat) : Int) := by unfold IntKind.wrap; simp [IntKind.bits, IntKind.signed]; omega
    have m1 : min (8 * (7 - k)) 64 = 8 * (7 - k) := by omega
    have hdiv : (((8 * n : Nat) : Int)).fdiv (2 ^ (8 * (7 - k))) = ((8 * n / 2 ^ (8 * (7 - k)) : Nat) : Int) := by
      rw [Int.fdiv_eq_ediv_of_nonneg _ (by exact_mod_cast Nat.zero_le (2 ^ (8 * (7 - k))))]
      norm_cast
    have w3 : ∀ q : Nat, IntKind.u8.wrap (((q : Nat) : Int).tmod 256) = ((UInt8.ofNat q).toNat : Int) := fun q => by
      have : ((q : Nat) : Int).tmod 256 = ((q % 256 : Nat) : Int) := tmodN _ 256
      rw [this]
      have h2 : (UInt8.ofNat q).toNat = q % 256 := by simp
      rw [h2]
      unfold IntKind.wrap; simp [IntKind.bits, IntKind.signed]
    generalize 8 * n / 2 ^ (8 * (7 - k)) = q at *
    have w3q := w3 q
    have fil : afill [.int .u8 0] [(0, 1, .int .u8 ((UInt8.ofNat q).toNat : Int))] = some [eb (UInt8.ofNat q)] := rfl
    generalize UInt8.ofNat q = byte at *
    have hfst : afirst (Hk.push (.cells [eb byte] .ex 1)) 1 1 (.slice (some ⟨Hk.n, 0, none⟩) 1 1) = some [eb byte] := by simp [afirst, cellsOf_new, acut]
    have e1 : IntKind.i64.wrap (7 - (k : Int) - 1) = 7 - ((k + 1 : Nat) : Int) := by rw [IntWalk.i64_in _ (by omega)]; omega
    generalize hsh : 8 * (7 - k) = sh at *
    have b64 : IntKind.i64.bits = 64 := rfl
    have sh0 : (0 : Int) ≤ (sh : Int) := by omega
    simp only [hll]
    simp [c38_2, hlt', hk7, hk7', w1, w2, m1, b64, hdiv, w3q, fil, alen, hfst, happ, e1, -Int.natCast_add, -Int.natCast_mul]
    have g2 : Grr B0 H2 := ⟨by have := hg.n; omega, c2, fun y ob e => keep2 y ob (hg.m y ob e) (fun q => by
      have := hnk y q
      have := (hcB0 y ob e).1
      omega)⟩
    refine ⟨⟨k + 1, some (Hk.n + 1), .slice a2 (L.length + k + 1) (L.length + k + 1), H2⟩, by show 8 - (k + 1) < _; omega, ⟨by show k + 1 ≤ _; omega, ?_, g2, by show H.n ≤ H2.n; omega, fun x e => by cases e; have := hg.n; omega⟩, ⟨by show n0 ≤ H2.n; omega, Nat.le_refl _, fun _ _ e => e, c2⟩, b2.mono (by show H.n ≤ H2.n; omega), b4.mono (by show H.n ≤ H2.n; omega), ⟨rfl, l2.below c2⟩, .int, rfl, .int⟩
    show LAt H2 1 (some (Hk.n + 1)) _ (L.length + (k + 1)) (ubs (L ++ (lenB n).take (k + 1)))
    rw [htk, ← List.append_assoc]; exact l2
  · have hke : k = 8 := by omega
    subst hke
    obtain ⟨a, rfl⟩ := hlk.form
    rw [List.take_of_length_le (by omega)] at hlk
    simp [c38_2]
    exact hQ _ _ _ _ hg hHn hlk hnk (by simp) (by simp) (by simp)

structure BS where
  j : Nat
  H : Heap
set_option maxHeartbeats 1000000 in
theorem blocks_ok {n0 : Nat} {Q : AQ} {f : AF} {H : Heap} (hcl : H.Closed) (hn : n0 ≤ H.n) (B : List UInt8) (hB : B.length ≤ 10000000) (nb : Nat) (hnb : B.length = 64 * nb) (bv : Value) (hb : SlB H bv B) (Z : Nat) (Hv Kv : Value) (zm : BMode) (ze : Nat) (hZ : H.cellsOf Z = some ([Hv, Kv], zm, ze)) (hK : Sl cw H Kv kK)
    (Y : Nat) (md : BMode) (me : Nat) (hro : md ≠ .ro) (hY : H.cellsOf Y = some (wl6 s0.l, md, me)) (hYb : ∀ b o l c, bv = .slice (some ⟨b, o, none⟩) l c → b ≠ Y) (hYK : ∀ b o l c, Kv = .slice (some ⟨b, o, none⟩) l c → b ≠ Y) (hYZ : Z ≠ Y)
    (p4 : Value) (b4 : VBelow H.n p4)
    (f2 : f 2 = .pointer (some ⟨Z, 0, none⟩)) (f4 : f 4 = p4) (f5 : f 5 = bv) (f8 : f 8 = .slice (some ⟨Y, 0, none⟩) 8 8) (f9 : f 9 = .int .i64 0)
    (hQ : ∀ g Hr, Hr.Closed → H.n ≤ Hr.n → (∀ y ob, H.m y = some ob → y ≠ Y → Hr.m y = some ob) → Hr.cellsOf Y = some (wl6 (absK B nb).l, md, me) → g 4 = p4 → g 8 = .slice (some ⟨Y, 0, none⟩) 8 8 → Q (.exit 4) g Hr) :
    awp Tryz.prog n0 (.loop c38_4) Q f H := by
  have hYn := cellsOf_lt hcl hY
  have hZn := cellsOf_lt hcl hZ
  have bb := Sl.below hb hcl
  have bK := Sl.below hK hcl
  obtain ⟨bo, bc, rfl⟩ := Sl.form hb
  refine awp_loop_of (α := BS) (fun z => z.j ≤ nb ∧ z.H.Closed ∧ H.n ≤ z.H.n ∧ (∀ y ob, H.m y = some ob → y ≠ Y → z.H.m y = some ob) ∧ z.H.cellsOf Y = some (wl6 (absK B z.j).l, md, me))
    (fun z => [(2, .pointer (some ⟨Z, 0, none⟩)), (4, p4), (5, .slice bo B.length bc), (8, .slice (some ⟨Y, 0, none⟩) 8 8), (9, .int .i64 ((64 * z.j : Nat) : Int))]) (fun z => z.H) (fun z => nb - z.j) ⟨0, H⟩
    ⟨Nat.zero_le _, hcl, Nat.le_refl _, fun _ _ e _ => e, hY⟩ ((Heap.Sub.refl hcl).weak hn) (by simp [f2, f4, f5, f8, f9]; exact ⟨.ptr hZn, b4, bb, vb_slice hYn, .int⟩) ?_
  rintro ⟨j, Hj⟩ ⟨hj, hcj, hnj, hkj, hYj⟩
  dsimp only at hj hcj hnj hkj hYj ⊢
  have keepSl : ∀ {α : Type} {enc : α → Value} {v : Value} {l : List α}, Sl enc H v l → (∀ b o l c, v = .slice (some ⟨b, o, none⟩) l c → b ≠ Y) → Sl enc Hj v l := fun {α enc v l} q hne => by
    rcases q with ⟨c, h1, h2⟩ | ⟨b, o, cap, c, m, e, h1, h2, h3⟩
    · exact .inl ⟨c, h1, h2⟩
    · refine .inr ⟨b, o, cap, c, m, e, h1, ?_, h3⟩
      have := hkj b _ (m_of_cells h2) (hne _ _ _ _ h1)
      unfold Heap.cellsOf
      rw [this]
  by_cases hjn : j < nb
  · have hlt : ((64 * j : Nat) : Int) < ((B.length : Nat) : Int) := by omega
    have hb' := keepSl hb hYb
    have hK' := keepSl hK hYK
    have hZ' : Hj.cellsOf Z = some ([Hv, Kv], zm, ze) := by
      have := hkj Z _ (m_of_cells hZ) hYZ
      unfold Heap.cellsOf
      rw [this]
    have hrep : (List.replicate 64 [Value.int .i64 0]).flatten = wz6 [] 64 := by rw [nl_rep, ← wz6_nil]; simp [nl]
    have hX1 := cellsOf_new Hj (wz6 [] 64) .ex 1
    have g1 : Grr Hj (Hj.push (.cells (wz6 [] 64) .ex 1)) := (Grr.refl hcj).push wz6_bel
    have hsucc : absK B (j + 1) = takeF (absK B j) ((B.drop (64 * j)).take 64) := rfl
    generalize absK B j = S at *
    simp [c38_4, hlt, hrep, -Int.natCast_mul, -List.reduceReplicate]
    generalize hH1 : Hj.push (.cells (wz6 [] 64) .ex 1) = H1 at *
    have hn1 : H1.n = Hj.n + 1 := by rw [← hH1]; rfl
    refine wloop_ok g1.cl (by omega) B hB (64 * j) (by omega) _ (hb'.keep g1.m) Hj.n hX1 (.pointer (some ⟨Z, 0, none⟩)) p4 (.slice (some ⟨Y, 0, none⟩) 8 8) (.ptr (by show Z < H1.n; omega)) (b4.mono (by omega)) (vb_slice (by omega)) (by simp) (by simp) (by simp) (by simp) (by simp) (by simp) (by simp) ?_
    intro g2 e2 e4 e5 e8 e9 e10
    have hspl := spreadL_len ((B.drop (64 * j)).take 64) 64
    generalize hW : spreadL ((B.drop (64 * j)).take 64) 64 = W at *
    have hc2 : (H1.set Hj.n (.cells (wl6 W) .ex 1)).Closed := closed_set g1.cl (by omega) wl6_bel
    have gr2 : Grr Hj (H1.set Hj.n (.cells (wl6 W) .ex 1)) := ⟨g1.n, hc2, fun y ob e => by
      have := (hcj y ob e).1
      rw [set_m, if_neg (by omega)]; exact g1.m y ob e⟩
    have hX2 : (H1.set Hj.n (.cells (wl6 W) .ex 1)).cellsOf Hj.n = some (wl6 W, .ex, 1) := cellsOf_set _ _ _ _ _
    have hn2 : (H1.set Hj.n (.cells (wl6 W) .ex 1)).n = Hj.n + 1 := hn1
    generalize H1.set Hj.n (.cells (wl6 W) .ex 1) = H2 at *
    have m3 := LAt.made H2 1
    have hc3 : (H2.push (.cells [] .ex 1)).Closed := closed_push hc2 (o := .cells [] .ex 1) (fun x hx => by cases hx)
    have gr3 : Grr H2 (H2.push (.cells [] .ex 1)) := (Grr.refl hc2).push (fun x hx => by cases hx)
    have hY2 := cellsOf_keep gr2.m hYj
    have hY3 := cellsOf_keep gr3.m hY2
    obtain ⟨a, q, v4, H4, happ, l4, keep4, n4, c4⟩ := lat_app (t := 3) (bytes := 8) (k := 8) (new := wl6 S.l) hc3 m3 (by omega) (by rw [wl6_len]; rfl) wl6_bel (by omega)
    simp only [Value.slice.injEq, and_true] at q
    subst q
    obtain ⟨a4, rfl⟩ := l4.form
    have gr4 : Grr H2 H4 := ⟨by rw [n4]; show H2.n ≤ H2.n + 1 + 1; omega, c4, fun y ob e => keep4 y ob (gr3.m y ob e) (fun q => by cases q; have := (hc2 _ ob e).1; omega)⟩
    have hfst : afirst (H2.push (.cells [] .ex 1)) 1 8 (.slice (some ⟨Y, 0, none⟩) 8 8) = some (wl6 S.l) := by
      have : acut (wl6 S.l) 0 (8 * 1) = some (wl6 S.l) := acut_full (by rw [wl6_len]; rfl)
      simp [afirst, hY3, this]
    have fil0 : afill [] [] = some ([] : List Value) := rfl
    simp [e2, e4, e5, e8, e9, e10, fil0, alen, hfst, happ]
    have slv : Sl cw H4 (.slice a4 8 8) S.l := LAt.sl (n := 8) (by simpa [wl6] using l4)
    have kk2 : ∀ {α : Type} {enc : α → Value} {v : Value} {l : List α}, Sl enc Hj v l → Sl enc H4 v l := fun q => (q.keep gr2.m).keep gr4.m
    have hX4 := cellsOf_keep gr4.m hX2
    have hZ4 := cellsOf_keep gr4.m (cellsOf_keep gr2.m hZ')
    have hY4 := cellsOf_keep gr4.m hY2
    have hn4 : H4.n = Hj.n + 3 := by rw [n4]; show H2.n + 1 + 1 = _; omega
    refine rounds_ok c4 (by omega) W hspl S Hj.n hX4 Z Hv Kv zm ze hZ4 (kk2 hK') p4 (.slice bo B.length bc) (.slice (some ⟨Y, 0, none⟩) 8 8) (.int .i64 ((64 * j : Nat) : Int)) (b4.mono (by omega)) (bb.mono (by omega)) (vb_slice (by omega)) .int _ slv (by simp [e2]) (by simp [e4]) (by simp [e5]) (by simp [e8]) (by simp [e9]) (by simp [e10]) (by simp) (by simp) ?_
    intro g5 H5 vv gr5 hvv hfr d2 d4 d5 d8 d9 d15
    have hY5 := cellsOf_keep gr5.m hY4
    have hn5 := gr5.n
    simp
    obtain ⟨bf, of, cf, hvf, hbf⟩ := hfr
    refine hloop_ok gr5.cl (by omega) S (roundsF kK W S 64) Y md me hro hY5 (.pointer (some ⟨Z, 0, none⟩)) p4 (.slice bo B.length bc) (.int .i64 ((64 * j : Nat) : Int)) (.ptr (by show Z < H5.n; omega)) (b4.mono (by omega)) (bb.mono (by omega)) .int vv hvv (fun b o l c q => by rw [hvf] at q; cases q; omega) (by simp [d2]) (by simp [d4]) (by simp [d5]) (by simp [d8]) (by simp [d9]) (by simp [d15]) (by simp) ?_
    intro g6 c2 c4' c5 c8 c9
    have hadd : absK B (j + 1) = add8 S (roundsF kK W S 64) := by rw [hsucc]; unfold takeF; rw [hW]
    have e1 : IntKind.i64.wrap (((64 * j : Nat) : Int) + 64) = ((64 * (j + 1) : Nat) : Int) := by rw [IntWalk.i64_in _ (by omega)]; omega
    simp [c2, c4', c5, c8, c9, e1, -Int.natCast_mul, -Int.natCast_add]
    have hcl6 : (H5.set Y (.cells (wl6 (add8 S (roundsF kK W S 64)).l) md me)).Closed := closed_set gr5.cl (by omega) wl6_bel
    refine ⟨⟨j + 1, H5.set Y (.cells (wl6 (add8 S (roundsF kK W S 64)).l) md me)⟩, by show nb - (j + 1) < nb - j; omega, ⟨by show j + 1 ≤ nb; omega, hcl6, by show H.n ≤ H5.n; omega, fun y ob e hne => ?_, ?_⟩, ⟨by show n0 ≤ H5.n; omega, Nat.le_refl _, fun _ _ e => e, hcl6⟩, .ptr (by show Z < H5.n; omega), b4.mono (by show H.n ≤ H5.n; omega), bb.mono (by show H.n ≤ H5.n; omega), vb_slice (by show Y < H5.n; omega), rfl, .int⟩
    · rw [set_m, if_neg hne]
      exact gr5.m y ob (gr4.m y ob (gr2.m y ob (hkj y ob e hne)))
    · show (H5.set Y _).cellsOf Y = some (wl6 (absK B (j + 1)).l, md, me)
      rw [hadd]; exact cellsOf_set _ _ _ _ _
  · have hje : j = nb := by omega
    subst hje
    have hlt : ¬ ((64 * j : Nat) : Int) < ((B.length : Nat) : Int) := by omega
    simp [c38_4, hlt, -Int.natCast_mul]
    exact hQ _ _ hcj hnj hkj hYj (by simp) (by simp)

theorem slN_cw {h : Heap} {v : Value} {l : List W32} (s : SlN h v (l.map (·.toNat))) : Sl cw h v l := by
  rcases s with ⟨c, h1, h2⟩ | ⟨b, o, cap, c, m, e, h1, h2, h3, h4, h5⟩
  · exact .inl ⟨c, h1, by simpa using h2⟩
  · rw [List.length_map] at h1 h3 h4
    exact .inr ⟨b, o, cap, c, m, e, h1, h2, h3, h4, fun i hi => by rw [h5 i (by simpa using hi)]; simp [cw, cN, tn]⟩
theorem sl_first {α : Type} {enc : α → Value} {h : Heap} {v : Value} {l : List α} (s : Sl enc h v l) (hl : 0 < l.length) : afirst h 1 l.length v = some (l.map enc) := by
  rcases s with ⟨c, rfl, rfl⟩ | ⟨b, o, cap, c, m, e, rfl, h2, h3, h4, h5⟩
  · rfl
  · simp only [afirst, h2, if_true, Nat.mul_one]
    unfold acut
    rw [if_pos (h4 hl)]
    congr 1
    refine List.ext_getElem? fun i => ?_
    by_cases hi : i < l.length
    · rw [List.getElem?_take, if_pos hi, List.getElem?_drop, h5 i hi]
      simp [hi]
    · rw [List.getElem?_eq_none (by rw [List.length_take]; omega), List.getElem?_eq_none (by simp; omega)]
theorem refSum_ok (T : List UInt8) (hT : T.length ≤ 1000000) (Hv Kv : Value) (h : Heap) (hH : SlN h Hv hW) (hK : SlN h Kv kW) :
    ACalls Tryz.prog 38 [.agg #[Hv, Kv], .string (bs T)] h fun v h' => v = .agg (ubs (shaB T)).toArray ∧ h' = h := by
  refine ACalls.same ubs_below (acalls_ofR mix Tryz.func38 k38 n38 (by simp) fun hcl hb => ?_)
  rw [hW_eq] at hH
  rw [kW_eq] at hK
  have sH := slN_cw hH
  have sK := slN_cw hK
  have bH := Sl.below sH hcl
  have bK := Sl.below sK hcl
  have hbz : ∀ x ∈ ([Hv, Kv] : List Value), VBelow (h.n + 1) x := fun x hx => by
    simp at hx
    rcases hx with rfl | rfl
    · exact bH.mono (Nat.le_succ _)
    · exact bK.mono (Nat.le_succ _)
  have c1 : (h.push (.cells [Hv, Kv] .ex 1)).Closed := closed_push hcl hbz
  have c2 : ((h.push (.cells [Hv, Kv] .ex 1)).push (.cells (zl .u8 32) .ex 1)).Closed := closed_push c1 (fun x hx => by rw [List.eq_of_mem_replicate hx]; exact .int)
  have hm2 : mcells (.agg #[Hv, Kv]) = some [Hv, Kv] := rfl
  have hdat : (bs T).data.toList.map (fun b => Value.int .u8 (b.toNat : Int)) = ubs T := rfl
  have hsz : (bs T).size = T.length := bs_size T
  have hle : T.length ≤ 1099511627776 := by omega
  have fil : afill [.int .u8 0] [(0, 1, .int .u8 128)] = some [eb 128] := rfl
  have gz1 : h.Ext ((h.push (.cells [Hv, Kv] .ex 1)).push (.cells (zl .u8 32) .ex 1)) := ((Heap.Ext.refl h).push hcl _).push hcl _
  have fZ : ((h.push (.cells [Hv, Kv] .ex 1)).push (.cells (zl .u8 32) .ex 1)).cellsOf h.n = some ([Hv, Kv], .ex, 1) := by rw [cellsOf_ne (by show ¬ h.n = h.n + 1; omega)]; exact cellsOf_new _ _ _ _
  have f4' : ((h.push (.cells [Hv, Kv] .ex 1)).push (.cells (zl .u8 32) .ex 1)).cellsOf (h.n + 1) = some (zl .u8 32, .ex, 1) := cellsOf_new _ _ _ _
  have hnb : ((h.push (.cells [Hv, Kv] .ex 1)).push (.cells (zl .u8 32) .ex 1)).n = h.n + 2 := rfl
  simp only [c38, s_seq, s_ops]
  simp [hm2, hdat, hsz, hle, fil]
  generalize hHb : (h.push (.cells [Hv, Kv] .ex 1)).push (.cells (zl .u8 32) .ex 1) = Hb at *
  have c3 : (Hb.push (.cells (ubs T) (.loose 5) 1)).Closed := closed_push c2 ubs_bel
  have g3 : Grr Hb (Hb.push (.cells (ubs T) (.loose 5) 1)) := (Grr.refl c2).push ubs_bel
  have l3 : LAt (Hb.push (.cells (ubs T) (.loose 5) 1)) 1 (some Hb.n) (.slice (some ⟨Hb.n, 0, none⟩) T.length T.length) T.length (ubs T) :=
    .inr ⟨Hb.n, .loose 5, 1, rfl, rfl, cellsOf_new _ _ _ _, by rw [ubs_len]; omega, by simp, fun _ => rfl⟩
  obtain ⟨a, q, a4, H4, happ, l4, keep4, n4, c4⟩ := lat_byte c3 l3 128 (by omega)
  simp only [Value.slice.injEq, and_true] at q
  subst q
  have hn3 : (Hb.push (.cells (ubs T) (.loose 5) 1)).n = Hb.n + 1 := rfl
  have hfst : afirst ((Hb.push (.cells (ubs T) (.loose 5) 1)).push (.cells [eb 128] .ex 1)) 1 1 (.slice (some ⟨Hb.n + 1, 0, none⟩) 1 1) = some [eb 128] := by
    have : ((Hb.push (.cells (ubs T) (.loose 5) 1)).push (.cells [eb 128] .ex 1)).cellsOf (Hb.n + 1) = some ([eb 128], .ex, 1) := cellsOf_new (Hb.push (.cells (ubs T) (.loose 5) 1)) _ _ _
    simp [afirst, this, acut]
  rw [hnb] at hfst happ
  have g4 : Grr Hb H4 := ⟨by omega, c4, fun y ob e => keep4 y ob (g3.m y ob e) (fun q => by cases q; have := (c2 _ ob e).1; omega)⟩
  simp [alen, hfst, happ]
  refine pad0_ok c4 (by omega) T (by omega) (.string (bs T)) (.pointer (some ⟨h.n, 0, none⟩)) (.pointer (some ⟨h.n + 1, 0, none⟩)) .string (.ptr (by show h.n < H4.n; omega)) (.ptr (by show h.n + 1 < H4.n; omega)) _ _ l4 Hb c2 g4 (fun x e => by cases e; omega) (by simp) (by simp) (by simp) (by simp) ?_
  intro g5 H5 n5 v5 gr5 hn5 l5 hnm5 d1 d2 d4 d5
  have w8 : IntKind.i64.wrap (8 * (T.length : Int)) = ((8 * T.length : Nat) : Int) := by rw [IntWalk.i64_in _ (by omega)]; omega
  have hL5 : (T ++ ([128] ++ List.replicate (zc T.length) 0)).length = T.length + 1 + zc T.length := by simp; omega
  have hz64 : zc T.length < 64 := by unfold zc; omega
  simp [d1, d2, d4, d5, hsz, w8, -Int.natCast_mul]
  rw [← hL5] at l5
  refine pad2_ok gr5.cl (by have := gr5.n; omega) T.length (by omega) (T ++ ([128] ++ List.replicate (zc T.length) 0)) (by omega) (.pointer (some ⟨h.n, 0, none⟩)) (.pointer (some ⟨h.n + 1, 0, none⟩)) (.ptr (by have := gr5.n; show h.n < H5.n; omega)) (.ptr (by have := gr5.n; show h.n + 1 < H5.n; omega)) n5 v5 l5 Hb c2 gr5 hnm5 (by simp [d2]) (by simp [d4]) (by simp [d5]) (by simp) (by simp) ?_
  intro g6 H6 n6 v6 gr6 hn6 l6 hnm6 e2 e4 e5
  have hB : T ++ ([128] ++ List.replicate (zc T.length) 0) ++ lenB T.length = T ++ padB T.length := by unfold padB; simp
  rw [hB] at l6
  have hl6 : T.length + 1 + zc T.length + 8 = (T ++ padB T.length).length := by rw [List.length_append, pad_len]; omega
  rw [hL5, hl6] at l6
  have hB10 : (T ++ padB T.length).length ≤ 10000000 := by rw [← hl6]; omega
  have hmod := pad_mod T.length
  rw [← List.length_append] at hmod
  have sB : SlB H6 v6 (T ++ padB T.length) := l6.sl
  have fZ6 := cellsOf_keep gr6.m fZ
  have f46 := cellsOf_keep gr6.m f4'
  have gh6 : h.Ext H6 := gz1.trans gr6.ext
  have sH6 := sH.keep gh6.m
  have sK6 := sK.keep gh6.m
  have hn6' := gr6.n
  have c7 : (H6.push (.cells [] .ex 1)).Closed := closed_push gr6.cl (o := .cells [] .ex 1) (fun x hx => by cases hx)
  have m7 := LAt.made H6 1
  obtain ⟨a8, q8, v8, H8, happ8, l8, keep8, n8, c8⟩ := lat_app (t := 3) (bytes := 8) (k := 8) (new := wl6 s0.l) c7 m7 (by omega) (by rw [wl6_len]; rfl) wl6_bel (by omega)
  simp only [Value.slice.injEq, and_true] at q8
  subst q8
  have gr8 : Grr H6 H8 := ⟨by rw [n8]; show H6.n ≤ H6.n + 1 + 1; omega, c8, fun y ob e => keep8 y ob (by rw [push_m, if_neg (by have := (gr6.cl y ob e).1; omega)]; exact e) (fun q => by cases q; have := (gr6.cl _ ob e).1; omega)⟩
  have hn8 : H8.n = H6.n + 2 := n8
  have fZ7 : (H6.push (.cells [] .ex 1)).cellsOf h.n = some ([Hv, Kv], .ex, 1) := cellsOf_push gr6.cl fZ6
  have hfs7 : alen Hv = some 8 ∧ afirst (H6.push (.cells [] .ex 1)) 1 8 Hv = some (wl6 s0.l) := by
    have q := sl_first (sH6.keep (h' := H6.push (.cells [] .ex 1)) (fun y ob e => by rw [push_m, if_neg (by have := (gr6.cl y ob e).1; omega)]; exact e)) (by decide)
    obtain ⟨a, c, e⟩ := Sl.form sH6
    rw [e] at q ⊢
    exact ⟨rfl, q⟩
  obtain ⟨x8, md8, me8, hx8, rfl, hY8, _, hro8, _⟩ : ∃ x md e, some (H6.push (AObj.cells [] BMode.ex 1)).n = some x ∧ v8 = .slice (some ⟨x, 0, none⟩) 8 8 ∧ H8.cellsOf x = some (wl6 s0.l, md, e) ∧ True ∧ md ≠ .ro ∧ True := by
    rcases l8 with ⟨q, _⟩ | ⟨x, md, e, h1, h2, h3, h4, h5, h6⟩
    · cases q
    · exact ⟨x, md, e, h1, h2, by simpa using h3, trivial, h5, trivial⟩
  have hxx : x8 = H6.n + 1 := by cases hx8; rfl
  simp [e2, e4, e5, afill, fZ7, apart, hfs7.1, hfs7.2, happ8]
  have hvb : ∀ b o l c, v6 = .slice (some ⟨b, o, none⟩) l c → b ≠ x8 := fun b o l c q => by
    have := l6.below gr6.cl
    rw [q] at this
    cases this with
    | slice hlt => dsimp only at hlt; omega
  have hkb : ∀ b o l c, Kv = .slice (some ⟨b, o, none⟩) l c → b ≠ x8 := fun b o l c q => by
    have := bK
    rw [q] at this
    cases this with
    | slice hlt => dsimp only at hlt; omega
  refine blocks_ok c8 (by omega) (T ++ padB T.length) hB10 ((T ++ padB T.length).length / 64) (by omega) v6 (sB.keep gr8.m) h.n Hv Kv .ex 1 (cellsOf_keep gr8.m fZ6) (sK6.keep gr8.m) x8 md8 me8 hro8 hY8 hvb hkb (by omega) (.pointer (some ⟨h.n + 1, 0, none⟩)) (.ptr (by show h.n + 1 < H8.n; omega)) (by simp [e2]) (by simp [e4]) (by simp [e5]) (by simp) (by simp) ?_
  intro g9 H9 c9 hn9 keep9 hY9 d4' d8'
  have f49 : H9.cellsOf (h.n + 1) = some (zl .u8 32, .ex, 1) := by
    have := keep9 (h.n + 1) _ (m_of_cells (cellsOf_keep gr8.m f46)) (by omega)
    unfold Heap.cellsOf
    rw [this]
  have hz32 := zl_len .u8 32
  have hbz0 : zl .u8 32 = bz [] 32 := by simp [bz, ubs]
  have fb : afill (zl .u8 32) [] = some (zl .u8 32) := rfl
  have hput0 : aput (zl .u8 32) 0 (zl .u8 32) = zl .u8 32 := aput_all _ _ rfl
  have hmz : mcells (.agg (zl .u8 32).toArray) = some (zl .u8 32) := by simp [mcells]
  simp [d4', d8', fb, hmz, hz32, hput0, cellsOf_at, set_at]
  have hY10 := cellsOf_push (o := .cells (zl .u8 32) .ex 1) c9 hY9
  have hO10 : (H9.push (.cells (zl .u8 32) .ex 1)).cellsOf H9.n = some (bz [] 32, .ex, 1) := by rw [← hbz0]; exact cellsOf_new _ _ _ _
  have f410 := cellsOf_push (o := .cells (zl .u8 32) .ex 1) c9 f49
  have c10 : (H9.push (.cells (zl .u8 32) .ex 1)).Closed := closed_push c9 (fun x hx => by rw [List.eq_of_mem_replicate hx]; exact .int)
  have hn10 : (H9.push (.cells (zl .u8 32) .ex 1)).n = H9.n + 1 := rfl
  have g10 : ∀ y ob, h.m y = some ob → (H9.push (.cells (zl .u8 32) .ex 1)).m y = some ob := fun y ob e => by
    have hy := (hcl y ob e).1
    have := keep9 y ob (gr8.m y ob (gh6.m y ob e)) (by omega)
    rw [push_m, if_neg (by omega)]; exact this
  generalize H9.push (.cells (zl .u8 32) .ex 1) = H10 at *
  refine oloop_ok c10 (by omega) (absK (T ++ padB T.length) ((T ++ padB T.length).length / 64)) x8 md8 me8 hY10 H9.n hO10 (.pointer (some ⟨h.n + 1, 0, none⟩)) (.ptr (by show h.n + 1 < H10.n; omega)) (by simp [d4']) (by simp [d8']) (by simp) (by simp) ?_
  intro g11 k4 k24
  have hsha : hashB (absK (T ++ padB T.length) ((T ++ padB T.length).length / 64)) = shaB T := rfl
  rw [hsha]
  have hl32 := shaB_len T
  generalize shaB T = D at *
  have hul : (ubs D).length = 32 := by rw [ubs_len, hl32]
  have hcut := acut_full hul
  have hputD : aput (zl .u8 32) 0 (ubs D) = ubs D := aput_all _ _ (by rw [hul, hz32])
  have f411 : (H10.set H9.n (.cells (ubs D) .ex 1)).cellsOf (h.n + 1) = some (zl .u8 32, .ex, 1) := by rw [cellsOf_set_ne (by omega)]; exact f410
  simp [k4, k24, cellsOf_set, apart, hcut, m_ubs, hul, f411, hz32, hputD]
  exact ⟨by show h.n ≤ H10.n; omega, fun y ob e => by
    have hy := (hcl y ob e).1
    rw [set_m, if_neg (by omega), set_m, if_neg (by omega)]; exact g10 y ob e⟩

end Go.Proofs.YtofoihlcjmghfaaGreatDoor.rsha

