/-
  Contracts.
-/
import Derived.Test.YtofoihlcjmghfaaGreatDoorFlds
import Derived.Test.YtofoihlcjmghfaaGreatDoorLin1
import Derived.Test.YtofoihlcjmghfaaGreatDoorVers
import Derived.Test.YtofoihlcjmghfaaGreatDoorStr
import Derived.Test.YtofoihlcjmghfaaGreatDoorAbEnter
import Derived.Test.YtofoihlcjmghfaaGreatDoorAbStep
import Derived.Test.YtofoihlcjmghfaaGreatDoorProg
import Derived.IntWalk
import Derived.KernelRfl
set_option linter.unusedSimpArgs false
set_option linter.unusedVariables false
set_option linter.unusedSectionVars false
namespace Go.Proofs.YtofoihlcjmghfaaGreatDoor.mets
open Go Go.Ab Go.Proofs Go.RowKit Go.Proofs.YtofoihlcjmghfaaGreatDoor.str Go.Proofs.YtofoihlcjmghfaaGreatDoor.vers Go.Proofs.YtofoihlcjmghfaaGreatDoor.lin1 Go.Proofs.YtofoihlcjmghfaaGreatDoor.flds
variable [Inhabited TabBox]
variable [Nonempty GF]
variable [Nonempty GE]
set_option maxRecDepth 100000
attribute [local simp] s_ops s_seq s_cond s_cond_t s_cond_f s_block s_exit s_ret s_skip s_then_n s_then_n' s_then_e s_then_e' s_then_r s_then_r' s_block_n s_block_r s_block_e s_post_r s_post_n s_res0 s_res1 s_res2 s_res3 s_res4 s_nil s_cons s_guard s_guard_tt s_guard_ff s_guard_tf s_guard_ft s_guard_u s_call s_kL s_put s_put0 s_set s_tmp s_const s_func s_glob s_init s_mkF s_mkF0 s_mv s_bin s_pick s_op aop oK_some oK_none bK_some bK_none b_add b_sub b_mul b_quo b_rem b_and b_or b_xor b_andNot b_shl b_shr b_eql b_neq b_lss b_leq b_gtr b_geq b_sadd b_seql b_sneq b_slss b_sleq b_sgtr b_sgeq s_draw s_drawT s_tK s_tT s_tF s_tB s_tR s_stage s_stage0 s_kW s_kR s_rc0 s_rc s_rcg rK_some rK_none rG_b rG_u s_callv s_callv_f s_nextM s_postR_r s_postR_n s_resA0 s_resAt s_resAc s_resC s_tup0 s_tup1 s_tup2 s_tup3
def c77 : AC := .seq (.ops [⟨some 0,none,.alloc [.int .i64 0,.int .i64 0,.int .i64 0,.int .i64 0,.int .i64 0,.int .i64 0,.int .i64 0,.int .i64 0,.int .i64 0,.int .i64 0,.int .i64 0,.int .i64 0,.int .i64 0]⟩]) (.seq (.ops [⟨some 1,none,.alloc [.int .i64 0,.int .i64 0,.int .i64 0,.int .i64 0,.int .i64 0,.int .i64 0,.int .i64 0,.int .i64 0,.int .i64 0,.int .i64 0,.int .i64 0,.int .i64 0,.int .i64 0]⟩]) (.seq (.ops [⟨some 2,none,.fAddr 0 (.tmp 1)⟩,⟨some 3,none,.iAddrA 3 3 (.tmp 2) (.const (.int .i64 0))⟩,⟨some 4,none,.fAddr 0 (.tmp 3)⟩,⟨none,none,.store 1 (.tmp 4) (.const (.int .i64 4))⟩]) (.seq (.ops [⟨some 5,none,.load (some 13) (.tmp 1)⟩,⟨none,none,.store 13 (.tmp 0) (.tmp 5)⟩]) .ret)))
theorem k77 : compR Tryz.prog Tryz.f77 = some (c77, [.c 0 (some 13)]) := by kernel_rfl
theorem n77 : Tryz.f77.ntmps = 6 := by kernel_rfl
def c78 : AC := .seq (.ops [⟨some 2,none,.box (.tmp 0)⟩,⟨some 3,none,.box (.tmp 1)⟩,⟨some 4,none,.alloc [.int .i64 0,.int .i64 0,.int .i64 0,.int .i64 0,.int .i64 0,.int .i64 0,.int .i64 0,.int .i64 0,.int .i64 0,.int .i64 0,.int .i64 0,.int .i64 0,.int .i64 0]⟩,⟨some 5,none,.mv (.const (.int .i64 0))⟩]) (.seq (.ops [⟨some 9,none,.load (some 13) (.tmp 2)⟩,⟨some 10,none,.load (some 4) (.tmp 3)⟩,⟨some 11,none,.build [.int .i64 0,.int .i64 0,.int .i64 0,.int .i64 0,.int .i64 0,.int .i64 0,.int .i64 0,.int .i64 0,.int .i64 0,.int .i64 0,.int .i64 0,.int .i64 0,.int .i64 0,.int .i64 0,.int .i64 0,.int .i64 0,.int .i64 0] [(0,13,.tmp 9),(13,4,.tmp 10)]⟩,⟨some 12,none,.box (.tmp 11)⟩,⟨some 6,none,.mv (.tmp 12)⟩]) (.seq (.ops [⟨some 13,none,.buildS 4 [.int .i64 0,.int .i64 0,.int .i64 0,.int .i64 0] [(0,1,.const (.int .i64 8)),(1,1,.const (.int .i64 9)),(2,1,.const (.int .i64 10)),(3,1,.const (.int .i64 11))]⟩,⟨some 14,none,.fAddr 0 (.tmp 3)⟩,⟨some 15,none,.load none (.tmp 14)⟩,⟨some 16,none,.call 107 [.tmp 13,.tmp 15]⟩,⟨some 7,none,.mv (.tmp 16)⟩]) (.seq (.ops [⟨some 8,none,.mv (.const (.bool false))⟩]) (.seq (.block 0 (.seq (.ops [⟨some 20,none,.load (some 4) (.tmp 3)⟩,⟨some 21,none,.call 108 [.tmp 20]⟩,⟨some 22,none,.un .not (.tmp 21)⟩,⟨some 23,none,.mv (.tmp 22)⟩,⟨some 24,some (23,false),.fAddr 0 (.tmp 3)⟩,⟨some 25,some (23,false),.load none (.tmp 24)⟩,⟨some 26,some (23,false),.call 109 [.tmp 25]⟩,⟨some 27,some (23,false),.un .not (.tmp 26)⟩,⟨some 28,some (23,false),.mv (.tmp 27)⟩,⟨some 29,some (28,true),.mv (.tmp 7)⟩,⟨some 30,some (28,true),.un .not (.tmp 29)⟩,⟨some 31,some (23,false),.pick (.tmp 28) (.tmp 30) (.const (.bool false))⟩,⟨some 32,none,.pick (.tmp 23) (.const (.bool true)) (.tmp 31)⟩,⟨some 33,none,.mv (.tmp 32)⟩,⟨some 34,some (33,false),.fAddr 0 (.tmp 3)⟩,⟨some 35,some (33,false),.load none (.tmp 34)⟩,⟨some 36,some (33,false),.call 109 [.tmp 35]⟩,⟨some 37,some (33,false),.mv (.tmp 36)⟩,⟨some 38,some (37,true),.fAddr 1 (.tmp 3)⟩,⟨some 39,some (37,true),.load none (.tmp 38)⟩,⟨some 40,some (37,true),.bin .geq (.tmp 39) (.const (.int .i64 3))⟩,⟨some 41,some (33,false),.pick (.tmp 37) (.tmp 40) (.const (.bool false))⟩,⟨some 42,none,.pick (.tmp 33) (.const (.bool true)) (.tmp 41)⟩,⟨some 19,none,.mv (.tmp 42)⟩]) (.cond (.tmp 19) (.seq (.ops [⟨some 43,none,.load (some 13) (.tmp 2)⟩,⟨none,none,.store 13 (.tmp 4) (.tmp 43)⟩,⟨some 5,none,.mv (.const (.int .i64 1))⟩]) .ret) (.seq (.ops [⟨some 45,none,.mv (.tmp 7)⟩,⟨some 44,none,.mv (.tmp 45)⟩]) (.cond (.tmp 44) (.ops [⟨some 46,none,.mv (.tmp 6)⟩,⟨some 47,none,.call 110 [.tmp 46]⟩,⟨some 8,none,.mv (.tmp 47)⟩]) (.ops [⟨some 17,none,.mv (.tmp 6)⟩,⟨some 18,none,.call 111 [.tmp 17]⟩,⟨some 8,none,.mv (.tmp 18)⟩])))))) (.seq (.seq (.ops [⟨some 48,none,.mv (.tmp 8)⟩,⟨some 49,none,.un .not (.tmp 48)⟩]) (.cond (.tmp 49) (.seq (.ops [⟨some 50,none,.load (some 13) (.tmp 2)⟩,⟨none,none,.store 13 (.tmp 4) (.tmp 50)⟩,⟨some 5,none,.mv (.const (.int .i64 10))⟩]) .ret) .skip)) (.seq (.ops [⟨some 51,none,.mv (.tmp 6)⟩,⟨some 52,none,.nilck (.tmp 51)⟩,⟨some 53,none,.fAddr 0 (.tmp 52)⟩,⟨some 54,none,.load (some 13) (.tmp 53)⟩,⟨none,none,.store 13 (.tmp 4) (.tmp 54)⟩,⟨some 5,none,.mv (.const (.int .i64 0))⟩]) .ret))))))
theorem k78 : compR Tryz.prog Tryz.f78 = some (c78, [.c 4 (some 13), .t 5]) := by kernel_rfl
theorem n78 : Tryz.f78.ntmps = 55 := by kernel_rfl
def c41 : AC := .seq (.ops [⟨some 1,none,.box (.tmp 0)⟩,⟨some 2,none,.mv (.const (.bool false))⟩]) (.seq (.seq (.ops [⟨some 7,none,.fAddr 9 (.tmp 1)⟩,⟨some 8,none,.load none (.tmp 7)⟩,⟨some 9,none,.bin .lss (.tmp 8) (.const (.int .i64 0))⟩,⟨some 10,none,.mv (.tmp 9)⟩,⟨some 11,some (10,false),.fAddr 9 (.tmp 1)⟩,⟨some 12,some (10,false),.load none (.tmp 11)⟩,⟨some 13,some (10,false),.bin .geq (.tmp 12) (.const (.int .i64 3))⟩,⟨some 14,none,.pick (.tmp 10) (.const (.bool true)) (.tmp 13)⟩,⟨some 15,none,.mv (.tmp 14)⟩,⟨some 16,some (15,false),.fAddr 10 (.tmp 1)⟩,⟨some 17,some (15,false),.load none (.tmp 16)⟩,⟨some 18,some (15,false),.fAddr 11 (.tmp 1)⟩,⟨some 19,some (15,false),.load none (.tmp 18)⟩,⟨some 20,some (15,false),.fAddr 12 (.tmp 1)⟩,⟨some 21,some (15,false),.load none (.tmp 20)⟩,⟨some 22,some (15,false),.buildS 3 [.int .i64 0,.int .i64 0,.int .i64 0] [(0,1,.tmp 17),(1,1,.tmp 19),(2,1,.tmp 21)]⟩,⟨some 23,some (15,false),.call 81 [.tmp 22]⟩,⟨some 24,some (15,false),.un .not (.tmp 23)⟩,⟨some 25,none,.pick (.tmp 15) (.const (.bool true)) (.tmp 24)⟩,⟨some 26,none,.mv (.tmp 25)⟩,⟨some 27,some (26,false),.fAddr 0 (.tmp 1)⟩,⟨some 28,some (26,false),.iAddrA 3 3 (.tmp 27) (.const (.int .i64 0))⟩,⟨some 29,some (26,false),.fAddr 0 (.tmp 28)⟩,⟨some 30,some (26,false),.load none (.tmp 29)⟩,⟨some 31,some (26,false),.bin .neq (.tmp 30) (.const (.int .i64 4))⟩,⟨some 32,none,.pick (.tmp 26) (.const (.bool true)) (.tmp 31)⟩]) (.cond (.tmp 32) (.seq (.ops [⟨some 2,none,.mv (.const (.bool false))⟩]) .ret) .skip)) (.seq (.ops [⟨some 3,none,.mv (.const (.int .i64 0))⟩]) (.seq (.seq (.ops [⟨some 33,none,.fAddr 0 (.tmp 1)⟩,⟨some 34,none,.load (some 9) (.tmp 33)⟩,⟨some 35,none,.mv (.const (.int .i64 0))⟩]) (.block 0 (.loop (.seq (.ops [⟨some 36,none,.bin .lss (.tmp 35) (.const (.int .i64 3))⟩]) (.seq (.cond (.tmp 36) .skip (.exit 0)) (.seq (.block 1 (.seq (.ops [⟨some 37,none,.mv (.tmp 35)⟩,⟨some 38,none,.iValA 3 3 (some 3) (.tmp 34) (.tmp 35)⟩,⟨some 5,none,.alloc [.int .i64 0,.int .i64 0,.int .i64 0]⟩,⟨some 4,none,.mv (.tmp 37)⟩,⟨none,none,.store 3 (.tmp 5) (.tmp 38)⟩]) (.seq (.seq (.ops [⟨some 39,none,.load (some 3) (.tmp 5)⟩,⟨some 40,none,.call 82 [.tmp 39]⟩,⟨some 41,none,.un .not (.tmp 40)⟩,⟨some 42,none,.mv (.tmp 41)⟩,⟨some 43,some (42,false),.fAddr 0 (.tmp 5)⟩,⟨some 44,some (42,false),.load none (.tmp 43)⟩,⟨some 45,some (42,false),.bin .eql (.tmp 44) (.const (.int .i64 3))⟩,⟨some 46,some (42,false),.mv (.tmp 45)⟩,⟨some 47,some (46,true),.mv (.tmp 4)⟩,⟨some 48,some (46,true),.fAddr 9 (.tmp 1)⟩,⟨some 49,some (46,true),.load none (.tmp 48)⟩,⟨some 50,some (46,true),.bin .neq (.tmp 47) (.tmp 49)⟩,⟨some 51,some (42,false),.pick (.tmp 46) (.tmp 50) (.const (.bool false))⟩,⟨some 52,none,.pick (.tmp 42) (.const (.bool true)) (.tmp 51)⟩]) (.cond (.tmp 52) (.seq (.ops [⟨some 2,none,.mv (.const (.bool false))⟩]) .ret) .skip)) (.seq (.ops [⟨some 53,none,.fAddr 0 (.tmp 5)⟩,⟨some 54,none,.load none (.tmp 53)⟩,⟨some 55,none,.bin .eql (.tmp 54) (.const (.int .i64 3))⟩]) (.cond (.tmp 55) (.ops [⟨some 56,none,.mv (.tmp 3)⟩,⟨some 57,none,.bin .add (.tmp 56) (.const (.int .i64 1))⟩,⟨some 3,none,.mv (.tmp 57)⟩]) .skip))))) (.ops [⟨some 58,none,.bin .add (.tmp 35) (.const (.int .i64 1))⟩,⟨some 35,none,.mv (.tmp 58)⟩]))))))) (.seq (.ops [⟨some 59,none,.fAddr 9 (.tmp 1)⟩,⟨some 60,none,.load none (.tmp 59)⟩,⟨some 61,none,.fAddr 0 (.tmp 1)⟩,⟨some 62,none,.iAddrA 3 3 (.tmp 61) (.tmp 60)⟩,⟨some 63,none,.fAddr 0 (.tmp 62)⟩,⟨some 64,none,.load none (.tmp 63)⟩,⟨some 6,none,.mv (.tmp 64)⟩]) (.seq (.ops [⟨some 65,none,.mv (.tmp 3)⟩,⟨some 66,none,.bin .leq (.tmp 65) (.const (.int .i64 1))⟩,⟨some 67,none,.mv (.tmp 66)⟩,⟨some 68,some (67,true),.mv (.tmp 6)⟩,⟨some 69,some (67,true),.bin .eql (.tmp 68) (.const (.int .i64 4))⟩,⟨some 70,some (67,true),.mv (.tmp 69)⟩,⟨some 71,some (70,false),.mv (.tmp 6)⟩,⟨some 72,some (70,false),.bin .eql (.tmp 71) (.const (.int .i64 3))⟩,⟨some 73,some (67,true),.pick (.tmp 70) (.const (.bool true)) (.tmp 72)⟩,⟨some 74,none,.pick (.tmp 67) (.tmp 73) (.const (.bool false))⟩,⟨some 2,none,.mv (.tmp 74)⟩]) .ret)))))
theorem k41 : compF Tryz.prog Tryz.f41 = some (c41, [2]) := by kernel_rfl
theorem n41 : Tryz.f41.ntmps = 75 := by kernel_rfl
def c40 : AC := .seq (.ops [⟨some 1,none,.box (.tmp 0)⟩,⟨some 2,none,.mv (.const (.int .i64 0))⟩,⟨some 3,none,.mv (.const (.bool false))⟩]) (.seq (.ops [⟨some 5,none,.fAddr 0 (.tmp 1)⟩,⟨some 6,none,.slA 3 3 (.tmp 5) none none none⟩,⟨some 7,none,.call 79 [.tmp 6,.func 80]⟩,⟨some 4,none,.mv (.tmp 7)⟩]) (.seq (.ops [⟨some 8,none,.mv (.tmp 4)⟩,⟨some 9,none,.mx [.tmp 8,.const (.int .i64 0)]⟩,⟨some 10,none,.mv (.tmp 4)⟩,⟨some 11,none,.bin .geq (.tmp 10) (.const (.int .i64 0))⟩,⟨some 2,none,.mv (.tmp 9)⟩,⟨some 3,none,.mv (.tmp 11)⟩]) .ret))
theorem k40 : compF Tryz.prog Tryz.f40 = some (c40, [2, 3]) := by kernel_rfl
theorem n40 : Tryz.f40.ntmps = 12 := by kernel_rfl
def c19 : AC := .seq (.ops [⟨some 1,none,.box (.tmp 0)⟩,⟨some 2,none,.mv (.const (.bool false))⟩]) (.seq (.seq (.ops [⟨some 6,none,.fAddr 9 (.tmp 1)⟩,⟨some 7,none,.load none (.tmp 6)⟩,⟨some 8,none,.bin .lss (.tmp 7) (.const (.int .i64 0))⟩,⟨some 9,none,.mv (.tmp 8)⟩,⟨some 10,some (9,false),.fAddr 9 (.tmp 1)⟩,⟨some 11,some (9,false),.load none (.tmp 10)⟩,⟨some 12,some (9,false),.bin .gtr (.tmp 11) (.const (.int .i64 2))⟩,⟨some 13,none,.pick (.tmp 9) (.const (.bool true)) (.tmp 12)⟩,⟨some 14,none,.mv (.tmp 13)⟩,⟨some 15,some (14,false),.fAddr 10 (.tmp 1)⟩,⟨some 16,some (14,false),.load none (.tmp 15)⟩,⟨some 17,some (14,false),.call 47 [.tmp 16]⟩,⟨some 18,some (14,false),.un .not (.tmp 17)⟩,⟨some 19,none,.pick (.tmp 14) (.const (.bool true)) (.tmp 18)⟩,⟨some 20,none,.mv (.tmp 19)⟩,⟨some 21,some (20,false),.fAddr 11 (.tmp 1)⟩,⟨some 22,some (20,false),.load none (.tmp 21)⟩,⟨some 23,some (20,false),.call 47 [.tmp 22]⟩,⟨some 24,some (20,false),.un .not (.tmp 23)⟩,⟨some 25,none,.pick (.tmp 20) (.const (.bool true)) (.tmp 24)⟩,⟨some 26,none,.mv (.tmp 25)⟩,⟨some 27,some (26,false),.fAddr 12 (.tmp 1)⟩,⟨some 28,some (26,false),.load none (.tmp 27)⟩,⟨some 29,some (26,false),.call 47 [.tmp 28]⟩,⟨some 30,some (26,false),.un .not (.tmp 29)⟩,⟨some 31,none,.pick (.tmp 26) (.const (.bool true)) (.tmp 30)⟩,⟨some 32,none,.mv (.tmp 31)⟩,⟨some 33,some (32,false),.fAddr 0 (.tmp 1)⟩,⟨some 34,some (32,false),.iAddrA 3 3 (.tmp 33) (.const (.int .i64 0))⟩,⟨some 35,some (32,false),.fAddr 0 (.tmp 34)⟩,⟨some 36,some (32,false),.load none (.tmp 35)⟩,⟨some 37,some (32,false),.bin .neq (.tmp 36) (.const (.int .i64 4))⟩,⟨some 38,none,.pick (.tmp 32) (.const (.bool true)) (.tmp 37)⟩]) (.cond (.tmp 38) (.seq (.ops [⟨some 2,none,.mv (.const (.bool false))⟩]) .ret) .skip)) (.seq (.seq (.ops [⟨some 3,none,.mv (.const (.int .i64 0))⟩]) (.block 0 (.loop (.seq (.seq (.ops [⟨some 39,none,.mv (.tmp 3)⟩,⟨some 40,none,.bin .lss (.tmp 39) (.const (.int .i64 3))⟩]) (.cond (.tmp 40) .skip (.exit 0))) (.seq (.block 1 (.seq (.ops [⟨some 43,none,.mv (.tmp 3)⟩,⟨some 44,none,.fAddr 0 (.tmp 1)⟩,⟨some 45,none,.iAddrA 3 3 (.tmp 44) (.tmp 43)⟩,⟨some 46,none,.load (some 3) (.tmp 45)⟩,⟨some 4,none,.alloc [.int .i64 0,.int .i64 0,.int .i64 0]⟩,⟨none,none,.store 3 (.tmp 4) (.tmp 46)⟩]) (.seq (.seq (.ops [⟨some 47,none,.fAddr 0 (.tmp 4)⟩,⟨some 48,none,.load none (.tmp 47)⟩,⟨some 49,none,.bin .lss (.tmp 48) (.const (.int .i64 0))⟩,⟨some 50,none,.mv (.tmp 49)⟩,⟨some 51,some (50,false),.fAddr 0 (.tmp 4)⟩,⟨some 52,some (50,false),.load none (.tmp 51)⟩,⟨some 53,some (50,false),.bin .gtr (.tmp 52) (.const (.int .i64 5))⟩,⟨some 54,none,.pick (.tmp 50) (.const (.bool true)) (.tmp 53)⟩,⟨some 55,none,.mv (.tmp 54)⟩,⟨some 56,some (55,false),.fAddr 1 (.tmp 4)⟩,⟨some 57,some (55,false),.load none (.tmp 56)⟩,⟨some 58,some (55,false),.call 47 [.tmp 57]⟩,⟨some 59,some (55,false),.un .not (.tmp 58)⟩,⟨some 60,none,.pick (.tmp 55) (.const (.bool true)) (.tmp 59)⟩,⟨some 61,none,.mv (.tmp 60)⟩,⟨some 62,some (61,false),.fAddr 2 (.tmp 4)⟩,⟨some 63,some (61,false),.load none (.tmp 62)⟩,⟨some 64,some (61,false),.bin .lss (.tmp 63) (.const (.int .i64 0))⟩,⟨some 65,none,.pick (.tmp 61) (.const (.bool true)) (.tmp 64)⟩,⟨some 66,none,.mv (.tmp 65)⟩,⟨some 67,some (66,false),.fAddr 2 (.tmp 4)⟩,⟨some 68,some (66,false),.load none (.tmp 67)⟩,⟨some 69,some (66,false),.bin .gtr (.tmp 68) (.const (.int .i64 512))⟩,⟨some 70,none,.pick (.tmp 66) (.const (.bool true)) (.tmp 69)⟩]) (.cond (.tmp 70) (.seq (.ops [⟨some 2,none,.mv (.const (.bool false))⟩]) .ret) .skip)) (.seq (.ops [⟨some 71,none,.fAddr 0 (.tmp 4)⟩,⟨some 72,none,.load none (.tmp 71)⟩,⟨some 73,none,.bin .eql (.tmp 72) (.const (.int .i64 0))⟩,⟨some 74,none,.mv (.tmp 73)⟩,⟨some 75,some (74,false),.fAddr 0 (.tmp 4)⟩,⟨some 76,some (74,false),.load none (.tmp 75)⟩,⟨some 77,some (74,false),.bin .eql (.tmp 76) (.const (.int .i64 1))⟩,⟨some 78,none,.pick (.tmp 74) (.const (.bool true)) (.tmp 77)⟩,⟨some 79,none,.mv (.tmp 78)⟩,⟨some 80,some (79,false),.fAddr 0 (.tmp 4)⟩,⟨some 81,some (79,false),.load none (.tmp 80)⟩,⟨some 82,some (79,false),.bin .eql (.tmp 81) (.const (.int .i64 5))⟩,⟨some 83,none,.pick (.tmp 79) (.const (.bool true)) (.tmp 82)⟩,⟨some 84,none,.mv (.tmp 83)⟩,⟨some 85,some (84,true),.fAddr 1 (.tmp 4)⟩,⟨some 86,some (84,true),.load none (.tmp 85)⟩,⟨some 87,some (84,true),.bin .neq (.tmp 86) (.const (.int .i64 0))⟩,⟨some 88,none,.pick (.tmp 84) (.tmp 87) (.const (.bool false))⟩,⟨some 89,none,.mv (.tmp 88)⟩,⟨some 90,some (89,false),.fAddr 0 (.tmp 4)⟩,⟨some 91,some (89,false),.load none (.tmp 90)⟩,⟨some 92,some (89,false),.bin .neq (.tmp 91) (.const (.int .i64 3))⟩,⟨some 93,some (89,false),.mv (.tmp 92)⟩,⟨some 94,some (93,true),.fAddr 2 (.tmp 4)⟩,⟨some 95,some (93,true),.load none (.tmp 94)⟩,⟨some 96,some (93,true),.bin .neq (.tmp 95) (.const (.int .i64 0))⟩,⟨some 97,some (89,false),.pick (.tmp 93) (.tmp 96) (.const (.bool false))⟩,⟨some 98,none,.pick (.tmp 89) (.const (.bool true)) (.tmp 97)⟩,⟨some 99,none,.mv (.tmp 98)⟩,⟨some 100,some (99,false),.fAddr 0 (.tmp 4)⟩,⟨some 101,some (99,false),.load none (.tmp 100)⟩,⟨some 102,some (99,false),.bin .eql (.tmp 101) (.const (.int .i64 3))⟩,⟨some 103,some (99,false),.mv (.tmp 102)⟩,⟨some 104,some (103,true),.mv (.tmp 3)⟩,⟨some 105,some (103,true),.fAddr 9 (.tmp 1)⟩,⟨some 106,some (103,true),.load none (.tmp 105)⟩,⟨some 107,some (103,true),.bin .neq (.tmp 104) (.tmp 106)⟩,⟨some 108,some (99,false),.pick (.tmp 103) (.tmp 107) (.const (.bool false))⟩,⟨some 109,none,.pick (.tmp 99) (.const (.bool true)) (.tmp 108)⟩]) (.cond (.tmp 109) (.seq (.ops [⟨some 2,none,.mv (.const (.bool false))⟩]) .ret) .skip))))) (.ops [⟨some 41,none,.mv (.tmp 3)⟩,⟨some 42,none,.bin .add (.tmp 41) (.const (.int .i64 1))⟩,⟨some 3,none,.mv (.tmp 42)⟩])))))) (.seq (.ops [⟨some 110,none,.fAddr 9 (.tmp 1)⟩,⟨some 111,none,.load none (.tmp 110)⟩,⟨some 112,none,.fAddr 0 (.tmp 1)⟩,⟨some 113,none,.iAddrA 3 3 (.tmp 112) (.tmp 111)⟩,⟨some 114,none,.fAddr 0 (.tmp 113)⟩,⟨some 115,none,.load none (.tmp 114)⟩,⟨some 5,none,.mv (.tmp 115)⟩]) (.seq (.ops [⟨some 116,none,.mv (.tmp 5)⟩,⟨some 117,none,.bin .eql (.tmp 116) (.const (.int .i64 3))⟩,⟨some 118,none,.mv (.tmp 117)⟩,⟨some 119,some (118,false),.mv (.tmp 5)⟩,⟨some 120,some (118,false),.bin .eql (.tmp 119) (.const (.int .i64 4))⟩,⟨some 121,none,.pick (.tmp 118) (.const (.bool true)) (.tmp 120)⟩,⟨some 2,none,.mv (.tmp 121)⟩]) .ret))))
theorem k19 : compF Tryz.prog Tryz.f19 = some (c19, [2]) := by kernel_rfl
theorem n19 : Tryz.f19.ntmps = 122 := by kernel_rfl
def c20 : AC := .seq (.ops [⟨some 1,none,.box (.tmp 0)⟩,⟨some 2,none,.alloc [.int .i64 0,.int .i64 0,.int .i64 0,.int .i64 0,.int .i64 0,.int .i64 0,.int .i64 0,.int .i64 0,.int .i64 0,.int .i64 0,.int .i64 0,.int .i64 0,.int .i64 0]⟩]) (.seq (.ops [⟨some 6,none,.fAddr 9 (.tmp 1)⟩,⟨some 7,none,.load none (.tmp 6)⟩,⟨some 8,none,.fAddr 10 (.tmp 1)⟩,⟨some 9,none,.load none (.tmp 8)⟩,⟨some 10,none,.fAddr 11 (.tmp 1)⟩,⟨some 11,none,.load none (.tmp 10)⟩,⟨some 12,none,.fAddr 12 (.tmp 1)⟩,⟨some 13,none,.load none (.tmp 12)⟩,⟨some 14,none,.build [.int .i64 0,.int .i64 0,.int .i64 0,.int .i64 0,.int .i64 0,.int .i64 0,.int .i64 0,.int .i64 0,.int .i64 0,.int .i64 0,.int .i64 0,.int .i64 0,.int .i64 0] [(9,1,.tmp 7),(10,1,.tmp 9),(11,1,.tmp 11),(12,1,.tmp 13)]⟩,⟨some 3,none,.alloc [.int .i64 0,.int .i64 0,.int .i64 0,.int .i64 0,.int .i64 0,.int .i64 0,.int .i64 0,.int .i64 0,.int .i64 0,.int .i64 0,.int .i64 0,.int .i64 0,.int .i64 0]⟩,⟨none,none,.store 13 (.tmp 3) (.tmp 14)⟩]) (.seq (.seq (.ops [⟨some 15,none,.fAddr 0 (.tmp 1)⟩,⟨some 16,none,.load (some 9) (.tmp 15)⟩,⟨some 17,none,.mv (.const (.int .i64 0))⟩]) (.block 0 (.loop (.seq (.ops [⟨some 18,none,.bin .lss (.tmp 17) (.const (.int .i64 3))⟩]) (.seq (.cond (.tmp 18) .skip (.exit 0)) (.seq (.block 1 (.seq (.ops [⟨some 19,none,.mv (.tmp 17)⟩,⟨some 20,none,.iValA 3 3 (some 3) (.tmp 16) (.tmp 17)⟩,⟨some 5,none,.alloc [.int .i64 0,.int .i64 0,.int .i64 0]⟩,⟨some 4,none,.mv (.tmp 19)⟩,⟨none,none,.store 3 (.tmp 5) (.tmp 20)⟩]) (.ops [⟨some 21,none,.mv (.tmp 4)⟩,⟨some 22,none,.load (some 3) (.tmp 5)⟩,⟨some 23,none,.fAddr 0 (.tmp 3)⟩,⟨some 24,none,.iAddrA 3 3 (.tmp 23) (.tmp 21)⟩,⟨none,none,.store 3 (.tmp 24) (.tmp 22)⟩]))) (.ops [⟨some 25,none,.bin .add (.tmp 17) (.const (.int .i64 1))⟩,⟨some 17,none,.mv (.tmp 25)⟩]))))))) (.seq (.ops [⟨some 26,none,.load (some 13) (.tmp 3)⟩,⟨none,none,.store 13 (.tmp 2) (.tmp 26)⟩]) .ret)))
theorem k20 : compR Tryz.prog Tryz.f20 = some (c20, [.c 2 (some 13)]) := by kernel_rfl
theorem n20 : Tryz.f20.ntmps = 27 := by kernel_rfl
def c39 : AC := .seq (.ops [⟨some 2,none,.alloc [.int .i64 0,.int .i64 0,.int .i64 0,.int .i64 0,.int .i64 0,.int .i64 0,.int .i64 0,.int .i64 0,.int .i64 0,.int .i64 0,.int .i64 0,.int .i64 0,.int .i64 0]⟩,⟨some 3,none,.mv (.const (.int .i64 0))⟩]) (.seq (.ops [⟨some 9,none,.call 77 []⟩,⟨some 4,none,.alloc [.int .i64 0,.int .i64 0,.int .i64 0,.int .i64 0,.int .i64 0,.int .i64 0,.int .i64 0,.int .i64 0,.int .i64 0,.int .i64 0,.int .i64 0,.int .i64 0,.int .i64 0]⟩,⟨none,none,.store 13 (.tmp 4) (.tmp 9)⟩]) (.seq (.seq (.ops [⟨some 10,none,.mv (.tmp 0)⟩,⟨some 11,none,.lenS false (.tmp 10)⟩,⟨some 12,none,.mv (.const (.int .i64 0))⟩]) (.block 0 (.loop (.seq (.ops [⟨some 13,none,.bin .lss (.tmp 12) (.tmp 11)⟩]) (.seq (.cond (.tmp 13) .skip (.exit 0)) (.seq (.block 1 (.seq (.ops [⟨some 14,none,.iAddrS 4 (.tmp 10) (.tmp 12)⟩,⟨some 15,none,.load (some 4) (.tmp 14)⟩,⟨some 6,none,.alloc [.int .i64 0,.int .i64 0,.int .i64 0,.int .i64 0]⟩,⟨none,none,.store 4 (.tmp 6) (.tmp 15)⟩]) (.seq (.ops [⟨some 17,none,.load (some 13) (.tmp 4)⟩,⟨some 18,none,.load (some 4) (.tmp 6)⟩,⟨some 19,none,.call 78 [.tmp 17,.tmp 18]⟩,⟨some 16,none,.mv (.tmp 19)⟩,⟨some 20,none,.extr (.tmp 16) 0⟩,⟨some 21,none,.extr (.tmp 16) 1⟩,⟨some 7,none,.alloc [.int .i64 0,.int .i64 0,.int .i64 0,.int .i64 0,.int .i64 0,.int .i64 0,.int .i64 0,.int .i64 0,.int .i64 0,.int .i64 0,.int .i64 0,.int .i64 0,.int .i64 0]⟩,⟨none,none,.store 13 (.tmp 7) (.tmp 20)⟩,⟨some 8,none,.mv (.tmp 21)⟩]) (.seq (.seq (.ops [⟨some 22,none,.mv (.tmp 8)⟩,⟨some 23,none,.bin .neq (.tmp 22) (.const (.int .i64 0))⟩]) (.cond (.tmp 23) (.seq (.ops [⟨some 24,none,.build [.int .i64 0,.int .i64 0,.int .i64 0,.int .i64 0,.int .i64 0,.int .i64 0,.int .i64 0,.int .i64 0,.int .i64 0,.int .i64 0,.int .i64 0,.int .i64 0,.int .i64 0] []⟩,⟨some 25,none,.mv (.tmp 8)⟩,⟨none,none,.store 13 (.tmp 2) (.tmp 24)⟩,⟨some 3,none,.mv (.tmp 25)⟩]) .ret) .skip)) (.ops [⟨some 26,none,.load (some 13) (.tmp 7)⟩,⟨none,none,.store 13 (.tmp 4) (.tmp 26)⟩]))))) (.ops [⟨some 27,none,.bin .add (.tmp 12) (.const (.int .i64 1))⟩,⟨some 12,none,.mv (.tmp 27)⟩]))))))) (.seq (.ops [⟨some 28,none,.load (some 13) (.tmp 4)⟩,⟨none,none,.store 13 (.tmp 2) (.tmp 28)⟩,⟨some 3,none,.mv (.const (.int .i64 0))⟩]) .ret)))
theorem k39 : compR Tryz.prog Tryz.f39 = some (c39, [.c 2 (some 13), .t 3]) := by kernel_rfl
theorem n39 : Tryz.f39.ntmps = 29 := by kernel_rfl
def c107 : AC := .seq (.ops [⟨some 4,none,.mv (.const (.bool false))⟩]) (.seq (.ops [⟨some 5,none,.mv (.tmp 0)⟩,⟨some 6,none,.mv (.tmp 1)⟩,⟨some 7,none,.call 134 [.tmp 5,.tmp 6]⟩,⟨some 8,none,.bin .geq (.tmp 7) (.const (.int .i64 0))⟩,⟨some 4,none,.mv (.tmp 8)⟩]) .ret)
theorem k107 : compF Tryz.prog Tryz.f107 = some (c107, [4]) := by kernel_rfl
theorem n107 : Tryz.f107.ntmps = 9 := by kernel_rfl
def c108 : AC := .seq (.ops [⟨some 1,none,.box (.tmp 0)⟩,⟨some 2,none,.mv (.const (.bool false))⟩]) (.seq (.ops [⟨some 3,none,.fAddr 0 (.tmp 1)⟩,⟨some 4,none,.load none (.tmp 3)⟩,⟨some 5,none,.call 135 [.tmp 4,.const (.int .i64 127)]⟩,⟨some 6,none,.mv (.tmp 5)⟩,⟨some 7,some (6,true),.fAddr 1 (.tmp 1)⟩,⟨some 8,some (6,true),.load none (.tmp 7)⟩,⟨some 9,some (6,true),.call 135 [.tmp 8,.const (.int .i64 3)]⟩,⟨some 10,none,.pick (.tmp 6) (.tmp 9) (.const (.bool false))⟩,⟨some 11,none,.mv (.tmp 10)⟩,⟨some 12,some (11,true),.fAddr 2 (.tmp 1)⟩,⟨some 13,some (11,true),.load none (.tmp 12)⟩,⟨some 14,some (11,true),.call 135 [.tmp 13,.const (.int .i64 65535)]⟩,⟨some 15,none,.pick (.tmp 11) (.tmp 14) (.const (.bool false))⟩,⟨some 16,none,.mv (.tmp 15)⟩,⟨some 17,some (16,true),.fAddr 3 (.tmp 1)⟩,⟨some 18,some (16,true),.load none (.tmp 17)⟩,⟨some 19,some (16,true),.call 135 [.tmp 18,.const (.int .i64 281474976710655)]⟩,⟨some 20,none,.pick (.tmp 16) (.tmp 19) (.const (.bool false))⟩,⟨some 2,none,.mv (.tmp 20)⟩]) .ret)
theorem k108 : compF Tryz.prog Tryz.f108 = some (c108, [2]) := by kernel_rfl
theorem n108 : Tryz.f108.ntmps = 21 := by kernel_rfl
def c109 : AC := .seq (.ops [⟨some 2,none,.mv (.const (.bool false))⟩]) (.seq (.ops [⟨some 3,none,.mv (.tmp 0)⟩,⟨some 4,none,.bin .geq (.tmp 3) (.const (.int .i64 1))⟩,⟨some 5,none,.mv (.tmp 4)⟩,⟨some 6,some (5,true),.mv (.tmp 0)⟩,⟨some 7,some (5,true),.bin .leq (.tmp 6) (.const (.int .i64 7))⟩,⟨some 8,none,.pick (.tmp 5) (.tmp 7) (.const (.bool false))⟩,⟨some 9,none,.mv (.tmp 8)⟩,⟨some 10,some (9,false),.mv (.tmp 0)⟩,⟨some 11,some (9,false),.bin .geq (.tmp 10) (.const (.int .i64 100))⟩,⟨some 12,some (9,false),.mv (.tmp 11)⟩,⟨some 13,some (12,true),.mv (.tmp 0)⟩,⟨some 14,some (12,true),.bin .leq (.tmp 13) (.const (.int .i64 105))⟩,⟨some 15,some (9,false),.pick (.tmp 12) (.tmp 14) (.const (.bool false))⟩,⟨some 16,none,.pick (.tmp 9) (.const (.bool true)) (.tmp 15)⟩,⟨some 17,none,.mv (.tmp 16)⟩,⟨some 18,some (17,false),.buildS 4 [.int .i64 0,.int .i64 0,.int .i64 0,.int .i64 0] [(0,1,.const (.int .i64 12)),(1,1,.const (.int .i64 13)),(2,1,.const (.int .i64 110)),(3,1,.const (.int .i64 111))]⟩,⟨some 19,some (17,false),.mv (.tmp 0)⟩,⟨some 20,some (17,false),.call 107 [.tmp 18,.tmp 19]⟩,⟨some 21,none,.pick (.tmp 17) (.const (.bool true)) (.tmp 20)⟩,⟨some 2,none,.mv (.tmp 21)⟩]) .ret)
theorem k109 : compF Tryz.prog Tryz.f109 = some (c109, [2]) := by kernel_rfl
theorem n109 : Tryz.f109.ntmps = 22 := by kernel_rfl
def c110 : AC := .seq (.ops [⟨some 2,none,.mv (.const (.bool false))⟩]) (.seq (.seq (.ops [⟨some 3,none,.mv (.tmp 0)⟩,⟨some 4,none,.nilck (.tmp 3)⟩,⟨some 5,none,.fAddr 13 (.tmp 4)⟩,⟨some 6,none,.fAddr 0 (.tmp 5)⟩,⟨some 7,none,.load none (.tmp 6)⟩]) (.block 0 (.seq (.ops [⟨some 19,none,.bin .eql (.tmp 7) (.const (.int .i64 8))⟩,⟨some 18,none,.mv (.tmp 19)⟩]) (.cond (.tmp 18) (.seq (.seq (.draw [([⟨some 20,none,.mv (.tmp 0)⟩,⟨some 21,none,.nilck (.tmp 20)⟩,⟨some 22,none,.fAddr 13 (.tmp 21)⟩,⟨some 23,none,.fAddr 3 (.tmp 22)⟩,⟨some 24,none,.load none (.tmp 23)⟩,⟨some 25,none,.mv (.tmp 0)⟩,⟨some 26,none,.nilck (.tmp 25)⟩,⟨some 27,none,.fAddr 0 (.tmp 26)⟩,⟨some 28,none,.fAddr 10 (.tmp 27)⟩,⟨some 29,none,.load none (.tmp 28)⟩,⟨some 30,none,.bin .leq (.tmp 24) (.tmp 29)⟩],[],[])]) (.cond (.tmp 30) (.seq (.ops [⟨some 2,none,.mv (.const (.bool false))⟩]) .ret) .skip)) (.ops [⟨some 31,none,.mv (.tmp 0)⟩,⟨some 32,none,.mv (.tmp 0)⟩,⟨some 33,none,.nilck (.tmp 32)⟩,⟨some 34,none,.fAddr 13 (.tmp 33)⟩,⟨some 35,none,.fAddr 3 (.tmp 34)⟩,⟨some 36,none,.load none (.tmp 35)⟩,⟨some 37,none,.nilck (.tmp 31)⟩,⟨some 38,none,.fAddr 0 (.tmp 37)⟩,⟨some 39,none,.fAddr 10 (.tmp 38)⟩,⟨none,none,.store 1 (.tmp 39) (.tmp 36)⟩])) (.seq (.ops [⟨some 41,none,.bin .eql (.tmp 7) (.const (.int .i64 9))⟩,⟨some 40,none,.mv (.tmp 41)⟩]) (.cond (.tmp 40) (.ops [⟨some 42,none,.mv (.tmp 0)⟩,⟨some 43,none,.mv (.tmp 0)⟩,⟨some 44,none,.nilck (.tmp 43)⟩,⟨some 45,none,.fAddr 13 (.tmp 44)⟩,⟨some 46,none,.fAddr 3 (.tmp 45)⟩,⟨some 47,none,.load none (.tmp 46)⟩,⟨some 48,none,.nilck (.tmp 42)⟩,⟨some 49,none,.fAddr 0 (.tmp 48)⟩,⟨some 50,none,.fAddr 11 (.tmp 49)⟩,⟨none,none,.store 1 (.tmp 50) (.tmp 47)⟩]) (.seq (.ops [⟨some 52,none,.bin .eql (.tmp 7) (.const (.int .i64 10))⟩,⟨some 51,none,.mv (.tmp 52)⟩]) (.cond (.tmp 51) (.seq (.seq (.ops [⟨some 53,none,.mv (.tmp 0)⟩,⟨some 54,none,.nilck (.tmp 53)⟩,⟨some 55,none,.fAddr 13 (.tmp 54)⟩,⟨some 56,none,.fAddr 3 (.tmp 55)⟩,⟨some 57,none,.load none (.tmp 56)⟩,⟨some 58,none,.bin .eql (.tmp 57) (.const (.int .i64 0))⟩,⟨some 59,none,.mv (.tmp 58)⟩,⟨some 60,some (59,false),.mv (.tmp 0)⟩,⟨some 61,some (59,false),.nilck (.tmp 60)⟩,⟨some 62,some (59,false),.fAddr 0 (.tmp 61)⟩,⟨some 63,some (59,false),.fAddr 12 (.tmp 62)⟩,⟨some 64,some (59,false),.load none (.tmp 63)⟩,⟨some 65,some (59,false),.bin .neq (.tmp 64) (.const (.int .i64 0))⟩,⟨some 66,none,.pick (.tmp 59) (.const (.bool true)) (.tmp 65)⟩]) (.cond (.tmp 66) (.seq (.ops [⟨some 2,none,.mv (.const (.bool false))⟩]) .ret) .skip)) (.ops [⟨some 67,none,.mv (.tmp 0)⟩,⟨some 68,none,.mv (.tmp 0)⟩,⟨some 69,none,.nilck (.tmp 68)⟩,⟨some 70,none,.fAddr 13 (.tmp 69)⟩,⟨some 71,none,.fAddr 3 (.tmp 70)⟩,⟨some 72,none,.load none (.tmp 71)⟩,⟨some 73,none,.nilck (.tmp 67)⟩,⟨some 74,none,.fAddr 0 (.tmp 73)⟩,⟨some 75,none,.fAddr 12 (.tmp 74)⟩,⟨none,none,.store 1 (.tmp 75) (.tmp 72)⟩])) (.seq (.seq (.ops [⟨some 8,none,.mv (.tmp 0)⟩,⟨some 9,none,.nilck (.tmp 8)⟩,⟨some 10,none,.fAddr 0 (.tmp 9)⟩,⟨some 11,none,.fAddr 12 (.tmp 10)⟩,⟨some 12,none,.load none (.tmp 11)⟩,⟨some 13,none,.bin .eql (.tmp 12) (.const (.int .i64 0))⟩]) (.cond (.tmp 13) (.seq (.ops [⟨some 2,none,.mv (.const (.bool false))⟩]) .ret) .skip)) (.ops [⟨some 14,none,.mv (.tmp 0)⟩,⟨some 15,none,.nilck (.tmp 14)⟩,⟨some 16,none,.fAddr 0 (.tmp 15)⟩,⟨some 17,none,.fAddr 12 (.tmp 16)⟩,⟨none,none,.store 1 (.tmp 17) (.const (.int .i64 0))⟩])))))))))) (.seq (.ops [⟨some 2,none,.mv (.const (.bool true))⟩]) .ret))
theorem k110 : compF Tryz.prog Tryz.f110 = some (c110, [2]) := by kernel_rfl
theorem n110 : Tryz.f110.ntmps = 76 := by kernel_rfl
def c111 : AC := .seq (.ops [⟨some 2,none,.mv (.const (.bool false))⟩]) (.seq (.seq (.ops [⟨some 3,none,.mv (.tmp 0)⟩,⟨some 4,none,.nilck (.tmp 3)⟩,⟨some 5,none,.fAddr 13 (.tmp 4)⟩,⟨some 6,none,.fAddr 0 (.tmp 5)⟩,⟨some 7,none,.load none (.tmp 6)⟩]) (.block 0 (.seq (.ops [⟨some 11,none,.bin .eql (.tmp 7) (.const (.int .i64 1))⟩,⟨some 10,none,.mv (.tmp 11)⟩]) (.cond (.tmp 10) (.seq (.seq (.ops [⟨some 12,none,.mv (.tmp 0)⟩,⟨some 13,none,.call 136 [.tmp 12]⟩,⟨some 14,none,.un .not (.tmp 13)⟩]) (.cond (.tmp 14) (.seq (.ops [⟨some 2,none,.mv (.const (.bool false))⟩]) .ret) .skip)) (.ops [⟨some 15,none,.mv (.tmp 0)⟩,⟨some 16,none,.call 137 [.tmp 15,.const (.int .i64 1),.const (.int .i64 0),.const (.int .i64 0)]⟩])) (.seq (.ops [⟨some 18,none,.bin .eql (.tmp 7) (.const (.int .i64 2))⟩,⟨some 17,none,.mv (.tmp 18)⟩]) (.cond (.tmp 17) (.seq (.seq (.ops [⟨some 19,none,.mv (.tmp 0)⟩,⟨some 20,none,.buildS 1 [.int .i64 0] [(0,1,.const (.int .i64 1))]⟩,⟨some 21,none,.call 138 [.tmp 19,.tmp 20]⟩,⟨some 22,none,.un .not (.tmp 21)⟩]) (.cond (.tmp 22) (.seq (.ops [⟨some 2,none,.mv (.const (.bool false))⟩]) .ret) .skip)) (.ops [⟨some 23,none,.mv (.tmp 0)⟩,⟨some 24,none,.mv (.tmp 0)⟩,⟨some 25,none,.nilck (.tmp 24)⟩,⟨some 26,none,.fAddr 13 (.tmp 25)⟩,⟨some 27,none,.fAddr 3 (.tmp 26)⟩,⟨some 28,none,.load none (.tmp 27)⟩,⟨some 29,none,.call 137 [.tmp 23,.const (.int .i64 2),.tmp 28,.const (.int .i64 0)]⟩])) (.seq (.ops [⟨some 31,none,.bin .eql (.tmp 7) (.const (.int .i64 3))⟩,⟨some 30,none,.mv (.tmp 31)⟩]) (.cond (.tmp 30) (.seq (.ops [⟨some 32,none,.mv (.tmp 0)⟩,⟨some 33,none,.call 139 [.tmp 32]⟩,⟨some 2,none,.mv (.tmp 33)⟩]) .ret) (.seq (.ops [⟨some 35,none,.bin .eql (.tmp 7) (.const (.int .i64 4))⟩,⟨some 34,none,.mv (.tmp 35)⟩]) (.cond (.tmp 34) (.seq (.ops [⟨some 36,none,.mv (.tmp 0)⟩,⟨some 37,none,.call 140 [.tmp 36]⟩,⟨some 2,none,.mv (.tmp 37)⟩]) .ret) (.seq (.ops [⟨some 39,none,.bin .eql (.tmp 7) (.const (.int .i64 5))⟩,⟨some 38,none,.mv (.tmp 39)⟩]) (.cond (.tmp 38) (.seq (.seq (.ops [⟨some 40,none,.mv (.tmp 0)⟩,⟨some 41,none,.nilck (.tmp 40)⟩,⟨some 42,none,.fAddr 13 (.tmp 41)⟩,⟨some 43,none,.fAddr 1 (.tmp 42)⟩,⟨some 44,none,.load none (.tmp 43)⟩,⟨some 45,none,.bin .eql (.tmp 44) (.const (.int .i64 0))⟩,⟨some 46,none,.mv (.tmp 45)⟩,⟨some 47,some (46,false),.mv (.tmp 0)⟩,⟨some 48,some (46,false),.buildS 1 [.int .i64 0] [(0,1,.const (.int .i64 0))]⟩,⟨some 49,some (46,false),.call 138 [.tmp 47,.tmp 48]⟩,⟨some 50,none,.pick (.tmp 46) (.const (.bool true)) (.tmp 49)⟩]) (.cond (.tmp 50) (.seq (.ops [⟨some 2,none,.mv (.const (.bool false))⟩]) .ret) .skip)) (.ops [⟨some 51,none,.mv (.tmp 0)⟩,⟨some 52,none,.mv (.tmp 0)⟩,⟨some 53,none,.nilck (.tmp 52)⟩,⟨some 54,none,.fAddr 13 (.tmp 53)⟩,⟨some 55,none,.fAddr 1 (.tmp 54)⟩,⟨some 56,none,.load none (.tmp 55)⟩,⟨some 57,none,.call 141 [.tmp 51,.tmp 56]⟩])) (.seq (.ops [⟨some 59,none,.bin .eql (.tmp 7) (.const (.int .i64 6))⟩,⟨some 58,none,.mv (.tmp 59)⟩]) (.cond (.tmp 58) (.seq (.seq (.ops [⟨some 60,none,.mv (.tmp 0)⟩,⟨some 61,none,.call 136 [.tmp 60]⟩,⟨some 62,none,.un .not (.tmp 61)⟩]) (.cond (.tmp 62) (.seq (.ops [⟨some 2,none,.mv (.const (.bool false))⟩]) .ret) .skip)) (.ops [⟨some 63,none,.mv (.tmp 0)⟩,⟨some 64,none,.call 137 [.tmp 63,.const (.int .i64 0),.const (.int .i64 0),.const (.int .i64 0)]⟩])) (.seq (.ops [⟨some 66,none,.bin .eql (.tmp 7) (.const (.int .i64 7))⟩,⟨some 65,none,.mv (.tmp 66)⟩]) (.cond (.tmp 65) (.seq (.ops [⟨some 67,none,.mv (.tmp 0)⟩,⟨some 68,none,.call 142 [.tmp 67]⟩,⟨some 2,none,.mv (.tmp 68)⟩]) .ret) (.seq (.ops [⟨some 70,none,.bin .eql (.tmp 7) (.const (.int .i64 13))⟩,⟨some 69,none,.mv (.tmp 70)⟩]) (.cond (.tmp 69) (.seq (.ops [⟨some 71,none,.mv (.tmp 0)⟩,⟨some 72,none,.call 143 [.tmp 71]⟩,⟨some 2,none,.mv (.tmp 72)⟩]) .ret) (.seq (.ops [⟨some 74,none,.bin .eql (.tmp 7) (.const (.int .i64 12))⟩,⟨some 73,none,.mv (.tmp 74)⟩]) (.cond (.tmp 73) (.seq (.seq (.ops [⟨some 75,none,.mv (.tmp 0)⟩,⟨some 76,none,.nilck (.tmp 75)⟩,⟨some 77,none,.fAddr 13 (.tmp 76)⟩,⟨some 78,none,.fAddr 1 (.tmp 77)⟩,⟨some 79,none,.load none (.tmp 78)⟩,⟨some 80,none,.bin .eql (.tmp 79) (.const (.int .i64 0))⟩,⟨some 81,none,.mv (.tmp 80)⟩,⟨some 82,some (81,false),.mv (.tmp 0)⟩,⟨some 83,some (81,false),.buildS 2 [.int .i64 0,.int .i64 0] [(0,1,.const (.int .i64 5)),(1,1,.const (.int .i64 1))]⟩,⟨some 84,some (81,false),.call 138 [.tmp 82,.tmp 83]⟩,⟨some 85,some (81,false),.un .not (.tmp 84)⟩,⟨some 86,none,.pick (.tmp 81) (.const (.bool true)) (.tmp 85)⟩]) (.cond (.tmp 86) (.seq (.ops [⟨some 2,none,.mv (.const (.bool false))⟩]) .ret) .skip)) (.ops [⟨some 87,none,.mv (.tmp 0)⟩,⟨some 88,none,.mv (.tmp 0)⟩,⟨some 89,none,.nilck (.tmp 88)⟩,⟨some 90,none,.fAddr 13 (.tmp 89)⟩,⟨some 91,none,.fAddr 3 (.tmp 90)⟩,⟨some 92,none,.load none (.tmp 91)⟩,⟨some 93,none,.call 137 [.tmp 87,.const (.int .i64 4),.tmp 92,.const (.int .i64 0)]⟩])) (.seq (.ops [⟨some 8,none,.mv (.tmp 0)⟩,⟨some 9,none,.call 144 [.tmp 8]⟩,⟨some 2,none,.mv (.tmp 9)⟩]) .ret))))))))))))))))))))) (.seq (.ops [⟨some 2,none,.mv (.const (.bool true))⟩]) .ret))
theorem k111 : compF Tryz.prog Tryz.f111 = some (c111, [2]) := by kernel_rfl
theorem n111 : Tryz.f111.ntmps = 94 := by kernel_rfl
def c81 : AC := .seq (.ops [⟨some 2,none,.mv (.const (.bool false))⟩]) (.seq (.ops [⟨some 3,none,.mv (.tmp 0)⟩,⟨some 4,none,.call 112 [.tmp 3,.func 113]⟩,⟨some 5,none,.un .not (.tmp 4)⟩,⟨some 2,none,.mv (.tmp 5)⟩]) .ret)
theorem k81 : compF Tryz.prog Tryz.f81 = some (c81, [2]) := by kernel_rfl
theorem n81 : Tryz.f81.ntmps = 6 := by kernel_rfl
def c82 : AC := .seq (.ops [⟨some 1,none,.box (.tmp 0)⟩,⟨some 2,none,.mv (.const (.bool false))⟩]) (.seq (.ops [⟨some 4,none,.buildS 3 [.int .i64 0,.int .i64 0,.int .i64 0] [(0,1,.const (.int .i64 0)),(1,1,.const (.int .i64 1)),(2,1,.const (.int .i64 5))]⟩,⟨some 5,none,.fAddr 0 (.tmp 1)⟩,⟨some 6,none,.load none (.tmp 5)⟩,⟨some 7,none,.call 107 [.tmp 4,.tmp 6]⟩,⟨some 3,none,.mv (.tmp 7)⟩]) (.seq (.block 0 (.seq (.ops [⟨some 9,none,.fAddr 0 (.tmp 1)⟩,⟨some 10,none,.load none (.tmp 9)⟩,⟨some 11,none,.bin .lss (.tmp 10) (.const (.int .i64 0))⟩,⟨some 12,none,.mv (.tmp 11)⟩,⟨some 13,some (12,false),.fAddr 0 (.tmp 1)⟩,⟨some 14,some (12,false),.load none (.tmp 13)⟩,⟨some 15,some (12,false),.bin .gtr (.tmp 14) (.const (.int .i64 5))⟩,⟨some 16,none,.pick (.tmp 12) (.const (.bool true)) (.tmp 15)⟩,⟨some 17,none,.mv (.tmp 16)⟩,⟨some 18,some (17,false),.fAddr 1 (.tmp 1)⟩,⟨some 19,some (17,false),.load none (.tmp 18)⟩,⟨some 20,some (17,false),.bin .lss (.tmp 19) (.const (.int .i64 0))⟩,⟨some 21,none,.pick (.tmp 17) (.const (.bool true)) (.tmp 20)⟩,⟨some 22,none,.mv (.tmp 21)⟩,⟨some 23,some (22,false),.fAddr 1 (.tmp 1)⟩,⟨some 24,some (22,false),.load none (.tmp 23)⟩,⟨some 25,some (22,false),.bin .gtr (.tmp 24) (.const (.int .i64 281474976710655))⟩,⟨some 26,none,.pick (.tmp 22) (.const (.bool true)) (.tmp 25)⟩,⟨some 8,none,.mv (.tmp 26)⟩]) (.cond (.tmp 8) (.seq (.ops [⟨some 2,none,.mv (.const (.bool false))⟩]) .ret) (.seq (.ops [⟨some 28,none,.fAddr 2 (.tmp 1)⟩,⟨some 29,none,.load none (.tmp 28)⟩,⟨some 30,none,.bin .lss (.tmp 29) (.const (.int .i64 0))⟩,⟨some 31,none,.mv (.tmp 30)⟩,⟨some 32,some (31,false),.fAddr 2 (.tmp 1)⟩,⟨some 33,some (31,false),.load none (.tmp 32)⟩,⟨some 34,some (31,false),.bin .gtr (.tmp 33) (.const (.int .i64 512))⟩,⟨some 35,none,.pick (.tmp 31) (.const (.bool true)) (.tmp 34)⟩,⟨some 36,none,.mv (.tmp 35)⟩,⟨some 37,some (36,false),.fAddr 2 (.tmp 1)⟩,⟨some 38,some (36,false),.load none (.tmp 37)⟩,⟨some 39,some (36,false),.bin .neq (.tmp 38) (.const (.int .i64 0))⟩,⟨some 40,some (36,false),.mv (.tmp 39)⟩,⟨some 41,some (40,true),.fAddr 0 (.tmp 1)⟩,⟨some 42,some (40,true),.load none (.tmp 41)⟩,⟨some 43,some (40,true),.bin .neq (.tmp 42) (.const (.int .i64 3))⟩,⟨some 44,some (36,false),.pick (.tmp 40) (.tmp 43) (.const (.bool false))⟩,⟨some 45,none,.pick (.tmp 36) (.const (.bool true)) (.tmp 44)⟩,⟨some 27,none,.mv (.tmp 45)⟩]) (.cond (.tmp 27) (.seq (.ops [⟨some 2,none,.mv (.const (.bool false))⟩]) .ret) .skip))))) (.seq (.ops [⟨some 46,none,.mv (.tmp 3)⟩,⟨some 47,none,.un .not (.tmp 46)⟩,⟨some 48,none,.mv (.tmp 47)⟩,⟨some 49,some (48,false),.fAddr 1 (.tmp 1)⟩,⟨some 50,some (48,false),.load none (.tmp 49)⟩,⟨some 51,some (48,false),.bin .eql (.tmp 50) (.const (.int .i64 0))⟩,⟨some 52,none,.pick (.tmp 48) (.const (.bool true)) (.tmp 51)⟩,⟨some 2,none,.mv (.tmp 52)⟩]) .ret)))
theorem k82 : compF Tryz.prog Tryz.f82 = some (c82, [2]) := by kernel_rfl
theorem n82 : Tryz.f82.ntmps = 53 := by kernel_rfl
def c79 : AC := .seq (.ops [⟨some 4,none,.mv (.const (.int .i64 0))⟩]) (.seq (.seq (.ops [⟨some 6,none,.mv (.tmp 0)⟩,⟨some 7,none,.lenS false (.tmp 6)⟩,⟨some 8,none,.mv (.const (.int .i64 0))⟩]) (.block 0 (.loop (.seq (.ops [⟨some 9,none,.bin .lss (.tmp 8) (.tmp 7)⟩]) (.seq (.cond (.tmp 9) .skip (.exit 0)) (.seq (.block 1 (.seq (.ops [⟨some 10,none,.mv (.tmp 8)⟩,⟨some 5,none,.mv (.tmp 10)⟩]) (.seq (.ops [⟨some 11,none,.mv (.tmp 1)⟩,⟨some 12,none,.mv (.tmp 0)⟩,⟨some 13,none,.mv (.tmp 5)⟩,⟨some 14,none,.iAddrS 3 (.tmp 12) (.tmp 13)⟩,⟨some 15,none,.load (some 3) (.tmp 14)⟩,⟨some 16,none,.callv (.tmp 11) [.tmp 15]⟩]) (.cond (.tmp 16) (.seq (.ops [⟨some 17,none,.mv (.tmp 5)⟩,⟨some 4,none,.mv (.tmp 17)⟩]) .ret) .skip)))) (.ops [⟨some 18,none,.bin .add (.tmp 8) (.const (.int .i64 1))⟩,⟨some 8,none,.mv (.tmp 18)⟩]))))))) (.seq (.ops [⟨some 4,none,.mv (.const (.int .i64 (-1)))⟩]) .ret))
theorem k79 : compF Tryz.prog Tryz.f79 = some (c79, [4]) := by kernel_rfl
theorem n79 : Tryz.f79.ntmps = 19 := by kernel_rfl
def c80 : AC := .seq (.ops [⟨some 1,none,.box (.tmp 0)⟩,⟨some 2,none,.mv (.const (.bool false))⟩]) (.seq (.ops [⟨some 3,none,.fAddr 0 (.tmp 1)⟩,⟨some 4,none,.load none (.tmp 3)⟩,⟨some 5,none,.bin .eql (.tmp 4) (.const (.int .i64 3))⟩,⟨some 2,none,.mv (.tmp 5)⟩]) .ret)
theorem k80 : compF Tryz.prog Tryz.f80 = some (c80, [2]) := by kernel_rfl
theorem n80 : Tryz.f80.ntmps = 6 := by kernel_rfl
def c47 : AC := .seq (.ops [⟨some 2,none,.mv (.const (.bool false))⟩]) (.seq (.ops [⟨some 3,none,.mv (.tmp 0)⟩,⟨some 4,none,.bin .geq (.tmp 3) (.const (.int .i64 0))⟩,⟨some 5,none,.mv (.tmp 4)⟩,⟨some 6,some (5,true),.mv (.tmp 0)⟩,⟨some 7,some (5,true),.bin .lss (.tmp 6) (.const (.int .i64 281474976710656))⟩,⟨some 8,none,.pick (.tmp 5) (.tmp 7) (.const (.bool false))⟩,⟨some 2,none,.mv (.tmp 8)⟩]) .ret)
theorem k47 : compF Tryz.prog Tryz.f47 = some (c47, [2]) := by kernel_rfl
theorem n47 : Tryz.f47.ntmps = 9 := by kernel_rfl
def c134 : AC := .seq (.ops [⟨some 4,none,.mv (.const (.int .i64 0))⟩]) (.seq (.seq (.ops [⟨some 6,none,.mv (.tmp 0)⟩,⟨some 7,none,.lenS false (.tmp 6)⟩,⟨some 8,none,.mv (.const (.int .i64 0))⟩]) (.block 0 (.loop (.seq (.ops [⟨some 9,none,.bin .lss (.tmp 8) (.tmp 7)⟩]) (.seq (.cond (.tmp 9) .skip (.exit 0)) (.seq (.block 1 (.seq (.ops [⟨some 10,none,.mv (.tmp 8)⟩,⟨some 5,none,.mv (.tmp 10)⟩]) (.seq (.ops [⟨some 11,none,.mv (.tmp 1)⟩,⟨some 12,none,.mv (.tmp 0)⟩,⟨some 13,none,.mv (.tmp 5)⟩,⟨some 14,none,.iAddrS 1 (.tmp 12) (.tmp 13)⟩,⟨some 15,none,.load none (.tmp 14)⟩,⟨some 16,none,.bin .eql (.tmp 11) (.tmp 15)⟩]) (.cond (.tmp 16) (.seq (.ops [⟨some 17,none,.mv (.tmp 5)⟩,⟨some 4,none,.mv (.tmp 17)⟩]) .ret) .skip)))) (.ops [⟨some 18,none,.bin .add (.tmp 8) (.const (.int .i64 1))⟩,⟨some 8,none,.mv (.tmp 18)⟩]))))))) (.seq (.ops [⟨some 4,none,.mv (.const (.int .i64 (-1)))⟩]) .ret))
theorem k134 : compF Tryz.prog Tryz.f134 = some (c134, [4]) := by kernel_rfl
theorem n134 : Tryz.f134.ntmps = 19 := by kernel_rfl
def c135 : AC := .seq (.ops [⟨some 4,none,.mv (.const (.bool false))⟩]) (.seq (.ops [⟨some 5,none,.mv (.tmp 0)⟩,⟨some 6,none,.bin .geq (.tmp 5) (.const (.int .i64 0))⟩,⟨some 7,none,.mv (.tmp 6)⟩,⟨some 8,some (7,true),.mv (.tmp 0)⟩,⟨some 9,some (7,true),.mv (.tmp 1)⟩,⟨some 10,some (7,true),.bin .leq (.tmp 8) (.tmp 9)⟩,⟨some 11,none,.pick (.tmp 7) (.tmp 10) (.const (.bool false))⟩,⟨some 4,none,.mv (.tmp 11)⟩]) .ret)
theorem k135 : compF Tryz.prog Tryz.f135 = some (c135, [4]) := by kernel_rfl
theorem n135 : Tryz.f135.ntmps = 12 := by kernel_rfl
def c136 : AC := .seq (.ops [⟨some 2,none,.mv (.const (.bool false))⟩]) (.seq (.draw [([⟨some 3,none,.mv (.tmp 0)⟩,⟨some 4,none,.nilck (.tmp 3)⟩,⟨some 5,none,.fAddr 13 (.tmp 4)⟩,⟨some 6,none,.fAddr 1 (.tmp 5)⟩,⟨some 7,none,.load none (.tmp 6)⟩,⟨some 8,none,.bin .neq (.tmp 7) (.const (.int .i64 0))⟩,⟨some 9,none,.mv (.tmp 8)⟩,⟨some 10,some (9,true),.mv (.tmp 0)⟩,⟨some 11,some (9,true),.nilck (.tmp 10)⟩,⟨some 12,some (9,true),.fAddr 13 (.tmp 11)⟩,⟨some 13,some (9,true),.fAddr 1 (.tmp 12)⟩,⟨some 14,some (9,true),.load none (.tmp 13)⟩,⟨some 15,some (9,true),.mv (.tmp 0)⟩,⟨some 16,some (9,true),.nilck (.tmp 15)⟩,⟨some 17,some (9,true),.fAddr 0 (.tmp 16)⟩,⟨some 18,some (9,true),.fAddr 9 (.tmp 17)⟩,⟨some 19,some (9,true),.load none (.tmp 18)⟩,⟨some 20,some (9,true),.bin .neq (.tmp 14) (.tmp 19)⟩,⟨some 21,none,.pick (.tmp 9) (.tmp 20) (.const (.bool false))⟩,⟨some 22,none,.mv (.tmp 21)⟩,⟨some 23,some (22,true),.mv (.tmp 0)⟩],[⟨some 24,some (22,true),.buildS 1 [.int .i64 0] [(0,1,.const (.int .i64 3))]⟩],[]),([],[⟨some 25,some (22,true),.call 138 [.tmp 23,.tmp 24]⟩],[]),([⟨some 26,some (22,true),.un .not (.tmp 25)⟩,⟨some 27,none,.pick (.tmp 22) (.tmp 26) (.const (.bool false))⟩,⟨some 2,none,.mv (.tmp 27)⟩],[],[])]) .ret)
theorem k136 : compF Tryz.prog Tryz.f136 = some (c136, [2]) := by kernel_rfl
theorem n136 : Tryz.f136.ntmps = 28 := by kernel_rfl
def c137 : AC := .draw [([⟨some 8,none,.mv (.tmp 0)⟩,⟨some 9,none,.mv (.tmp 0)⟩,⟨some 10,none,.nilck (.tmp 9)⟩,⟨some 11,none,.fAddr 13 (.tmp 10)⟩,⟨some 12,none,.fAddr 1 (.tmp 11)⟩,⟨some 13,none,.load none (.tmp 12)⟩,⟨some 14,none,.mv (.tmp 1)⟩,⟨some 15,none,.mv (.tmp 2)⟩,⟨some 16,none,.mv (.tmp 3)⟩,⟨some 17,none,.build [.int .i64 0,.int .i64 0,.int .i64 0] [(0,1,.tmp 14),(1,1,.tmp 15),(2,1,.tmp 16)]⟩,⟨some 18,none,.nilck (.tmp 8)⟩,⟨some 19,none,.fAddr 0 (.tmp 18)⟩,⟨some 20,none,.fAddr 0 (.tmp 19)⟩,⟨some 21,none,.iAddrA 3 3 (.tmp 20) (.tmp 13)⟩],[⟨none,none,.store 3 (.tmp 21) (.tmp 17)⟩],[]),([],[],[])]
theorem k137 : compF Tryz.prog Tryz.f137 = some (c137, []) := by kernel_rfl
theorem n137 : Tryz.f137.ntmps = 22 := by kernel_rfl
def c138 : AC := .seq (.ops [⟨some 4,none,.mv (.const (.bool false))⟩]) (.seq (.draw [([⟨some 5,none,.mv (.tmp 1)⟩,⟨some 6,none,.mv (.tmp 0)⟩,⟨some 7,none,.mv (.tmp 0)⟩,⟨some 8,none,.nilck (.tmp 7)⟩,⟨some 9,none,.fAddr 13 (.tmp 8)⟩,⟨some 10,none,.fAddr 1 (.tmp 9)⟩,⟨some 11,none,.load none (.tmp 10)⟩,⟨some 12,none,.nilck (.tmp 6)⟩,⟨some 13,none,.fAddr 0 (.tmp 12)⟩,⟨some 14,none,.fAddr 0 (.tmp 13)⟩,⟨some 15,none,.iAddrA 3 3 (.tmp 14) (.tmp 11)⟩,⟨some 16,none,.fAddr 0 (.tmp 15)⟩,⟨some 17,none,.load none (.tmp 16)⟩],[⟨some 18,none,.call 107 [.tmp 5,.tmp 17]⟩],[]),([⟨some 4,none,.mv (.tmp 18)⟩],[],[])]) .ret)
theorem k138 : compF Tryz.prog Tryz.f138 = some (c138, [4]) := by kernel_rfl
theorem n138 : Tryz.f138.ntmps = 19 := by kernel_rfl
def c139 : AC := .seq (.ops [⟨some 2,none,.mv (.const (.bool false))⟩]) (.seq (.ops [⟨some 6,none,.mv (.tmp 0)⟩,⟨some 7,none,.nilck (.tmp 6)⟩,⟨some 8,none,.fAddr 0 (.tmp 7)⟩,⟨some 9,none,.load (some 13) (.tmp 8)⟩,⟨some 10,none,.call 40 [.tmp 9]⟩,⟨some 5,none,.mv (.tmp 10)⟩,⟨some 11,none,.extr (.tmp 5) 0⟩,⟨some 12,none,.extr (.tmp 5) 1⟩,⟨some 3,none,.mv (.tmp 11)⟩,⟨some 4,none,.mv (.tmp 12)⟩]) (.seq (.seq (.ops [⟨some 13,none,.mv (.tmp 4)⟩,⟨some 14,none,.mv (.tmp 13)⟩,⟨some 15,some (14,false),.mv (.tmp 0)⟩,⟨some 16,some (14,false),.buildS 1 [.int .i64 0] [(0,1,.const (.int .i64 2))]⟩,⟨some 17,some (14,false),.call 138 [.tmp 15,.tmp 16]⟩,⟨some 18,some (14,false),.un .not (.tmp 17)⟩,⟨some 19,none,.pick (.tmp 14) (.const (.bool true)) (.tmp 18)⟩,⟨some 20,none,.mv (.tmp 19)⟩,⟨some 21,some (20,false),.mv (.tmp 0)⟩,⟨some 22,some (20,false),.nilck (.tmp 21)⟩,⟨some 23,some (20,false),.fAddr 13 (.tmp 22)⟩,⟨some 24,some (20,false),.fAddr 3 (.tmp 23)⟩,⟨some 25,some (20,false),.load none (.tmp 24)⟩,⟨some 26,some (20,false),.bin .gtr (.tmp 25) (.const (.int .i64 512))⟩,⟨some 27,none,.pick (.tmp 20) (.const (.bool true)) (.tmp 26)⟩]) (.cond (.tmp 27) (.seq (.ops [⟨some 2,none,.mv (.const (.bool false))⟩]) .ret) .skip)) (.seq (.draw [([⟨some 28,none,.mv (.tmp 0)⟩,⟨some 29,none,.mv (.tmp 0)⟩,⟨some 30,none,.mv (.tmp 0)⟩,⟨some 31,none,.nilck (.tmp 30)⟩,⟨some 32,none,.fAddr 13 (.tmp 31)⟩,⟨some 33,none,.fAddr 1 (.tmp 32)⟩,⟨some 34,none,.load none (.tmp 33)⟩,⟨some 35,none,.nilck (.tmp 29)⟩,⟨some 36,none,.fAddr 0 (.tmp 35)⟩,⟨some 37,none,.fAddr 0 (.tmp 36)⟩,⟨some 38,none,.iAddrA 3 3 (.tmp 37) (.tmp 34)⟩,⟨some 39,none,.fAddr 1 (.tmp 38)⟩,⟨some 40,none,.load none (.tmp 39)⟩,⟨some 41,none,.mv (.tmp 0)⟩,⟨some 42,none,.nilck (.tmp 41)⟩,⟨some 43,none,.fAddr 13 (.tmp 42)⟩,⟨some 44,none,.fAddr 3 (.tmp 43)⟩,⟨some 45,none,.load none (.tmp 44)⟩],[⟨some 46,none,.call 137 [.tmp 28,.const (.int .i64 3),.tmp 40,.tmp 45]⟩],[]),([],[],[])]) (.seq (.ops [⟨some 47,none,.mv (.tmp 0)⟩,⟨some 48,none,.mv (.tmp 0)⟩,⟨some 49,none,.nilck (.tmp 48)⟩,⟨some 50,none,.fAddr 13 (.tmp 49)⟩,⟨some 51,none,.fAddr 1 (.tmp 50)⟩,⟨some 52,none,.load none (.tmp 51)⟩,⟨some 53,none,.nilck (.tmp 47)⟩,⟨some 54,none,.fAddr 0 (.tmp 53)⟩,⟨some 55,none,.fAddr 9 (.tmp 54)⟩,⟨none,none,.store 1 (.tmp 55) (.tmp 52)⟩]) (.seq (.ops [⟨some 2,none,.mv (.const (.bool true))⟩]) .ret)))))
theorem k139 : compF Tryz.prog Tryz.f139 = some (c139, [2]) := by kernel_rfl
theorem n139 : Tryz.f139.ntmps = 56 := by kernel_rfl
def c140 : AC := .seq (.ops [⟨some 2,none,.mv (.const (.bool false))⟩]) (.seq (.seq (.ops [⟨some 4,none,.mv (.tmp 0)⟩,⟨some 5,none,.buildS 1 [.int .i64 0] [(0,1,.const (.int .i64 3))]⟩,⟨some 6,none,.call 138 [.tmp 4,.tmp 5]⟩,⟨some 7,none,.un .not (.tmp 6)⟩]) (.cond (.tmp 7) (.seq (.ops [⟨some 2,none,.mv (.const (.bool false))⟩]) .ret) .skip)) (.seq (.draw [([⟨some 8,none,.mv (.tmp 0)⟩,⟨some 9,none,.mv (.tmp 0)⟩,⟨some 10,none,.nilck (.tmp 9)⟩,⟨some 11,none,.fAddr 13 (.tmp 10)⟩,⟨some 12,none,.fAddr 1 (.tmp 11)⟩,⟨some 13,none,.load none (.tmp 12)⟩,⟨some 14,none,.nilck (.tmp 8)⟩,⟨some 15,none,.fAddr 0 (.tmp 14)⟩,⟨some 16,none,.fAddr 0 (.tmp 15)⟩,⟨some 17,none,.iAddrA 3 3 (.tmp 16) (.tmp 13)⟩,⟨some 18,none,.fAddr 1 (.tmp 17)⟩,⟨some 19,none,.load none (.tmp 18)⟩,⟨some 3,none,.mv (.tmp 19)⟩],[],[])]) (.seq (.ops [⟨some 20,none,.mv (.tmp 0)⟩,⟨some 21,none,.mv (.tmp 3)⟩,⟨some 22,none,.call 137 [.tmp 20,.const (.int .i64 4),.tmp 21,.const (.int .i64 0)]⟩]) (.seq (.ops [⟨some 23,none,.mv (.tmp 0)⟩,⟨some 24,none,.mv (.tmp 0)⟩,⟨some 25,none,.nilck (.tmp 24)⟩,⟨some 26,none,.fAddr 0 (.tmp 25)⟩,⟨some 27,none,.fAddr 10 (.tmp 26)⟩,⟨some 28,none,.load none (.tmp 27)⟩,⟨some 29,none,.mv (.tmp 3)⟩,⟨some 30,none,.mx [.tmp 28,.tmp 29]⟩,⟨some 31,none,.nilck (.tmp 23)⟩,⟨some 32,none,.fAddr 0 (.tmp 31)⟩,⟨some 33,none,.fAddr 10 (.tmp 32)⟩,⟨none,none,.store 1 (.tmp 33) (.tmp 30)⟩]) (.seq (.ops [⟨some 2,none,.mv (.const (.bool true))⟩]) .ret)))))
theorem k140 : compF Tryz.prog Tryz.f140 = some (c140, [2]) := by kernel_rfl
theorem n140 : Tryz.f140.ntmps = 34 := by kernel_rfl
def c141 : AC := .seq (.ops [⟨some 4,none,.mv (.tmp 0)⟩,⟨some 5,none,.mv (.tmp 1)⟩,⟨some 6,none,.build [.int .i64 0,.int .i64 0,.int .i64 0] [(0,1,.const (.int .i64 5))]⟩,⟨some 7,none,.nilck (.tmp 4)⟩,⟨some 8,none,.fAddr 0 (.tmp 7)⟩,⟨some 9,none,.fAddr 0 (.tmp 8)⟩,⟨some 10,none,.iAddrA 3 3 (.tmp 9) (.tmp 5)⟩,⟨none,none,.store 3 (.tmp 10) (.tmp 6)⟩]) (.seq (.ops [⟨some 11,none,.mv (.tmp 0)⟩,⟨some 12,none,.nilck (.tmp 11)⟩,⟨some 13,none,.fAddr 0 (.tmp 12)⟩,⟨some 14,none,.fAddr 9 (.tmp 13)⟩,⟨some 15,none,.load none (.tmp 14)⟩,⟨some 16,none,.mv (.tmp 1)⟩,⟨some 17,none,.bin .eql (.tmp 15) (.tmp 16)⟩]) (.cond (.tmp 17) (.ops [⟨some 18,none,.mv (.tmp 0)⟩,⟨some 19,none,.nilck (.tmp 18)⟩,⟨some 20,none,.fAddr 0 (.tmp 19)⟩,⟨some 21,none,.fAddr 9 (.tmp 20)⟩,⟨none,none,.store 1 (.tmp 21) (.const (.int .i64 0))⟩]) .skip))
theorem k141 : compF Tryz.prog Tryz.f141 = some (c141, []) := by kernel_rfl
theorem n141 : Tryz.f141.ntmps = 22 := by kernel_rfl
def c142 : AC := .seq (.ops [⟨some 2,none,.mv (.const (.bool false))⟩]) (.seq (.seq (.ops [⟨some 5,none,.mv (.tmp 0)⟩,⟨some 6,none,.nilck (.tmp 5)⟩,⟨some 7,none,.fAddr 13 (.tmp 6)⟩,⟨some 8,none,.fAddr 1 (.tmp 7)⟩,⟨some 9,none,.load none (.tmp 8)⟩,⟨some 10,none,.bin .neq (.tmp 9) (.const (.int .i64 0))⟩,⟨some 11,none,.mv (.tmp 10)⟩,⟨some 12,some (11,true),.mv (.tmp 0)⟩,⟨some 13,some (11,true),.buildS 1 [.int .i64 0] [(0,1,.const (.int .i64 4))]⟩,⟨some 14,some (11,true),.call 138 [.tmp 12,.tmp 13]⟩,⟨some 15,some (11,true),.un .not (.tmp 14)⟩,⟨some 16,none,.pick (.tmp 11) (.tmp 15) (.const (.bool false))⟩]) (.cond (.tmp 16) (.seq (.ops [⟨some 2,none,.mv (.const (.bool false))⟩]) .ret) .skip)) (.seq (.seq (.ops [⟨some 18,none,.mv (.tmp 0)⟩,⟨some 19,none,.nilck (.tmp 18)⟩,⟨some 20,none,.fAddr 0 (.tmp 19)⟩,⟨some 21,none,.load (some 13) (.tmp 20)⟩,⟨some 22,none,.call 40 [.tmp 21]⟩,⟨some 17,none,.mv (.tmp 22)⟩,⟨some 23,none,.extr (.tmp 17) 0⟩,⟨some 24,none,.extr (.tmp 17) 1⟩,⟨some 3,none,.mv (.tmp 23)⟩,⟨some 4,none,.mv (.tmp 24)⟩]) (.seq (.ops [⟨some 25,none,.mv (.tmp 4)⟩]) (.cond (.tmp 25) (.ops [⟨some 26,none,.mv (.tmp 0)⟩,⟨some 27,none,.mv (.tmp 3)⟩,⟨some 28,none,.call 141 [.tmp 26,.tmp 27]⟩]) .skip))) (.seq (.ops [⟨some 29,none,.mv (.tmp 0)⟩,⟨some 30,none,.mv (.tmp 0)⟩,⟨some 31,none,.nilck (.tmp 30)⟩,⟨some 32,none,.fAddr 13 (.tmp 31)⟩,⟨some 33,none,.fAddr 1 (.tmp 32)⟩,⟨some 34,none,.load none (.tmp 33)⟩,⟨some 35,none,.nilck (.tmp 29)⟩,⟨some 36,none,.fAddr 0 (.tmp 35)⟩,⟨some 37,none,.fAddr 9 (.tmp 36)⟩,⟨none,none,.store 1 (.tmp 37) (.tmp 34)⟩]) (.seq (.ops [⟨some 2,none,.mv (.const (.bool true))⟩]) .ret))))
theorem k142 : compF Tryz.prog Tryz.f142 = some (c142, [2]) := by kernel_rfl
theorem n142 : Tryz.f142.ntmps = 38 := by kernel_rfl
def c143 : AC := .seq (.ops [⟨some 2,none,.mv (.const (.bool false))⟩]) (.seq (.seq (.draw [([⟨some 3,none,.mv (.tmp 0)⟩,⟨some 4,none,.nilck (.tmp 3)⟩,⟨some 5,none,.fAddr 0 (.tmp 4)⟩,⟨some 6,none,.fAddr 9 (.tmp 5)⟩,⟨some 7,none,.load none (.tmp 6)⟩,⟨some 8,none,.bin .leq (.tmp 7) (.const (.int .i64 0))⟩,⟨some 9,none,.mv (.tmp 8)⟩,⟨some 10,some (9,false),.mv (.tmp 0)⟩,⟨some 11,some (9,false),.nilck (.tmp 10)⟩,⟨some 12,some (9,false),.fAddr 0 (.tmp 11)⟩,⟨some 13,some (9,false),.fAddr 9 (.tmp 12)⟩,⟨some 14,some (9,false),.load none (.tmp 13)⟩,⟨some 15,some (9,false),.bin .geq (.tmp 14) (.const (.int .i64 3))⟩,⟨some 16,none,.pick (.tmp 9) (.const (.bool true)) (.tmp 15)⟩,⟨some 17,none,.mv (.tmp 16)⟩,⟨some 18,some (17,false),.mv (.tmp 0)⟩,⟨some 19,some (17,false),.nilck (.tmp 18)⟩,⟨some 20,some (17,false),.fAddr 13 (.tmp 19)⟩,⟨some 21,some (17,false),.fAddr 1 (.tmp 20)⟩,⟨some 22,some (17,false),.load none (.tmp 21)⟩,⟨some 23,some (17,false),.mv (.tmp 0)⟩,⟨some 24,some (17,false),.nilck (.tmp 23)⟩,⟨some 25,some (17,false),.fAddr 0 (.tmp 24)⟩,⟨some 26,some (17,false),.fAddr 9 (.tmp 25)⟩,⟨some 27,some (17,false),.load none (.tmp 26)⟩,⟨some 28,some (17,false),.bin .eql (.tmp 22) (.tmp 27)⟩,⟨some 29,none,.pick (.tmp 17) (.const (.bool true)) (.tmp 28)⟩,⟨some 30,none,.mv (.tmp 29)⟩,⟨some 31,some (30,false),.mv (.tmp 0)⟩,⟨some 32,some (30,false),.nilck (.tmp 31)⟩,⟨some 33,some (30,false),.fAddr 13 (.tmp 32)⟩,⟨some 34,some (30,false),.fAddr 1 (.tmp 33)⟩,⟨some 35,some (30,false),.load none (.tmp 34)⟩,⟨some 36,some (30,false),.bin .neq (.tmp 35) (.const (.int .i64 0))⟩,⟨some 37,some (30,false),.mv (.tmp 36)⟩,⟨some 38,some (37,true),.mv (.tmp 0)⟩],[⟨some 39,some (37,true),.buildS 1 [.int .i64 0] [(0,1,.const (.int .i64 4))]⟩],[]),([],[⟨some 40,some (37,true),.call 138 [.tmp 38,.tmp 39]⟩],[]),([⟨some 41,some (37,true),.un .not (.tmp 40)⟩,⟨some 42,some (30,false),.pick (.tmp 37) (.tmp 41) (.const (.bool false))⟩,⟨some 43,none,.pick (.tmp 30) (.const (.bool true)) (.tmp 42)⟩],[],[])]) (.cond (.tmp 43) (.seq (.ops [⟨some 2,none,.mv (.const (.bool false))⟩]) .ret) .skip)) (.seq (.ops [⟨some 44,none,.mv (.tmp 0)⟩,⟨some 45,none,.mv (.tmp 0)⟩,⟨some 46,none,.nilck (.tmp 45)⟩,⟨some 47,none,.fAddr 0 (.tmp 46)⟩,⟨some 48,none,.fAddr 9 (.tmp 47)⟩,⟨some 49,none,.load none (.tmp 48)⟩,⟨some 50,none,.call 141 [.tmp 44,.tmp 49]⟩]) (.seq (.ops [⟨some 51,none,.mv (.tmp 0)⟩,⟨some 52,none,.mv (.tmp 0)⟩,⟨some 53,none,.nilck (.tmp 52)⟩,⟨some 54,none,.fAddr 13 (.tmp 53)⟩,⟨some 55,none,.fAddr 1 (.tmp 54)⟩,⟨some 56,none,.load none (.tmp 55)⟩,⟨some 57,none,.nilck (.tmp 51)⟩,⟨some 58,none,.fAddr 0 (.tmp 57)⟩,⟨some 59,none,.fAddr 9 (.tmp 58)⟩,⟨none,none,.store 1 (.tmp 59) (.tmp 56)⟩]) (.seq (.ops [⟨some 2,none,.mv (.const (.bool true))⟩]) .ret))))
theorem k143 : compF Tryz.prog Tryz.f143 = some (c143, [2]) := by kernel_rfl
theorem n143 : Tryz.f143.ntmps = 60 := by kernel_rfl
def c144 : AC := .seq (.ops [⟨some 2,none,.mv (.const (.bool false))⟩]) (.seq (.seq (.ops [⟨some 3,none,.mv (.tmp 0)⟩,⟨some 4,none,.nilck (.tmp 3)⟩,⟨some 5,none,.fAddr 13 (.tmp 4)⟩,⟨some 6,none,.fAddr 0 (.tmp 5)⟩,⟨some 7,none,.load none (.tmp 6)⟩]) (.block 0 (.seq (.ops [⟨some 43,none,.bin .eql (.tmp 7) (.const (.int .i64 111))⟩,⟨some 42,none,.mv (.tmp 43)⟩]) (.cond (.tmp 42) (.seq (.draw [([⟨some 44,none,.mv (.tmp 0)⟩,⟨some 45,none,.mv (.tmp 0)⟩,⟨some 46,none,.nilck (.tmp 45)⟩,⟨some 47,none,.fAddr 13 (.tmp 46)⟩,⟨some 48,none,.fAddr 1 (.tmp 47)⟩,⟨some 49,none,.load none (.tmp 48)⟩,⟨some 50,none,.mv (.tmp 0)⟩,⟨some 51,none,.nilck (.tmp 50)⟩,⟨some 52,none,.fAddr 13 (.tmp 51)⟩,⟨some 53,none,.fAddr 3 (.tmp 52)⟩,⟨some 54,none,.load none (.tmp 53)⟩,⟨some 55,none,.nilck (.tmp 44)⟩,⟨some 56,none,.fAddr 0 (.tmp 55)⟩,⟨some 57,none,.fAddr 0 (.tmp 56)⟩,⟨some 58,none,.iAddrA 3 3 (.tmp 57) (.tmp 49)⟩,⟨some 59,none,.fAddr 2 (.tmp 58)⟩],[⟨none,none,.store 1 (.tmp 59) (.tmp 54)⟩],[]),([],[],[])]) (.seq (.ops [⟨some 60,none,.mv (.tmp 0)⟩,⟨some 61,none,.nilck (.tmp 60)⟩,⟨some 62,none,.fAddr 13 (.tmp 61)⟩,⟨some 63,none,.fAddr 3 (.tmp 62)⟩,⟨some 64,none,.load none (.tmp 63)⟩,⟨some 65,none,.bin .leq (.tmp 64) (.const (.int .i64 512))⟩,⟨some 2,none,.mv (.tmp 65)⟩]) .ret)) (.seq (.ops [⟨some 67,none,.bin .eql (.tmp 7) (.const (.int .i64 110))⟩,⟨some 66,none,.mv (.tmp 67)⟩]) (.cond (.tmp 66) (.ops [⟨some 68,none,.mv (.tmp 0)⟩,⟨some 69,none,.mv (.tmp 0)⟩,⟨some 70,none,.nilck (.tmp 69)⟩,⟨some 71,none,.fAddr 13 (.tmp 70)⟩,⟨some 72,none,.fAddr 1 (.tmp 71)⟩,⟨some 73,none,.load none (.tmp 72)⟩,⟨some 74,none,.nilck (.tmp 68)⟩,⟨some 75,none,.fAddr 0 (.tmp 74)⟩,⟨some 76,none,.fAddr 9 (.tmp 75)⟩,⟨none,none,.store 1 (.tmp 76) (.tmp 73)⟩]) (.draw [([⟨some 8,none,.mv (.tmp 0)⟩,⟨some 9,none,.mv (.tmp 0)⟩,⟨some 10,none,.nilck (.tmp 9)⟩,⟨some 11,none,.fAddr 13 (.tmp 10)⟩,⟨some 12,none,.fAddr 1 (.tmp 11)⟩,⟨some 13,none,.load none (.tmp 12)⟩,⟨some 14,none,.mv (.tmp 0)⟩,⟨some 15,none,.nilck (.tmp 14)⟩,⟨some 16,none,.fAddr 13 (.tmp 15)⟩,⟨some 17,none,.fAddr 0 (.tmp 16)⟩,⟨some 18,none,.load none (.tmp 17)⟩,⟨some 19,none,.bin .sub (.tmp 18) (.const (.int .i64 100))⟩,⟨some 20,none,.mv (.tmp 0)⟩,⟨some 21,none,.nilck (.tmp 20)⟩,⟨some 22,none,.fAddr 13 (.tmp 21)⟩,⟨some 23,none,.fAddr 3 (.tmp 22)⟩,⟨some 24,none,.load none (.tmp 23)⟩,⟨some 25,none,.mv (.tmp 0)⟩,⟨some 26,none,.mv (.tmp 0)⟩,⟨some 27,none,.nilck (.tmp 26)⟩,⟨some 28,none,.fAddr 13 (.tmp 27)⟩,⟨some 29,none,.fAddr 1 (.tmp 28)⟩,⟨some 30,none,.load none (.tmp 29)⟩,⟨some 31,none,.nilck (.tmp 25)⟩,⟨some 32,none,.fAddr 0 (.tmp 31)⟩,⟨some 33,none,.fAddr 0 (.tmp 32)⟩,⟨some 34,none,.iAddrA 3 3 (.tmp 33) (.tmp 30)⟩,⟨some 35,none,.fAddr 2 (.tmp 34)⟩,⟨some 36,none,.load none (.tmp 35)⟩,⟨some 37,none,.build [.int .i64 0,.int .i64 0,.int .i64 0] [(0,1,.tmp 19),(1,1,.tmp 24),(2,1,.tmp 36)]⟩,⟨some 38,none,.nilck (.tmp 8)⟩,⟨some 39,none,.fAddr 0 (.tmp 38)⟩,⟨some 40,none,.fAddr 0 (.tmp 39)⟩,⟨some 41,none,.iAddrA 3 3 (.tmp 40) (.tmp 13)⟩],[⟨none,none,.store 3 (.tmp 41) (.tmp 37)⟩],[]),([],[],[])]))))))) (.seq (.ops [⟨some 2,none,.mv (.const (.bool true))⟩]) .ret))
theorem k144 : compF Tryz.prog Tryz.f144 = some (c144, [2]) := by kernel_rfl
theorem n144 : Tryz.f144.ntmps = 77 := by kernel_rfl
def c113 : AC := .seq (.ops [⟨some 2,none,.mv (.const (.bool false))⟩]) (.seq (.ops [⟨some 3,none,.mv (.tmp 0)⟩,⟨some 4,none,.bin .lss (.tmp 3) (.const (.int .i64 0))⟩,⟨some 5,none,.mv (.tmp 4)⟩,⟨some 6,some (5,false),.mv (.tmp 0)⟩,⟨some 7,some (5,false),.bin .gtr (.tmp 6) (.const (.int .i64 281474976710655))⟩,⟨some 8,none,.pick (.tmp 5) (.const (.bool true)) (.tmp 7)⟩,⟨some 2,none,.mv (.tmp 8)⟩]) .ret)
theorem k113 : compF Tryz.prog Tryz.f113 = some (c113, [2]) := by kernel_rfl
theorem n113 : Tryz.f113.ntmps = 9 := by kernel_rfl
def c16 : AC := .seq (.ops [⟨some 0,none,.mv (.const (.bool false))⟩]) (.seq (.ops [⟨some 6,none,.build [.int .i64 0,.int .i64 0,.int .i64 0,.int .i64 0] [(0,1,.const (.int .i64 1)),(1,1,.const (.int .i64 1))]⟩,⟨some 7,none,.build [.int .i64 0,.int .i64 0,.int .i64 0,.int .i64 0] [(0,1,.const (.int .i64 2)),(1,1,.const (.int .i64 1)),(3,1,.const (.int .i64 5))]⟩,⟨some 8,none,.build [.int .i64 0,.int .i64 0,.int .i64 0,.int .i64 0] [(0,1,.const (.int .i64 3)),(1,1,.const (.int .i64 1)),(3,1,.const (.int .i64 7))]⟩,⟨some 9,none,.buildS 3 [.int .i64 0,.int .i64 0,.int .i64 0,.int .i64 0,.int .i64 0,.int .i64 0,.int .i64 0,.int .i64 0,.int .i64 0,.int .i64 0,.int .i64 0,.int .i64 0] [(0,4,.tmp 6),(4,4,.tmp 7),(8,4,.tmp 8)]⟩,⟨some 10,none,.call 39 [.tmp 9]⟩,⟨some 5,none,.mv (.tmp 10)⟩,⟨some 11,none,.extr (.tmp 5) 0⟩,⟨some 12,none,.extr (.tmp 5) 1⟩,⟨some 1,none,.alloc [.int .i64 0,.int .i64 0,.int .i64 0,.int .i64 0,.int .i64 0,.int .i64 0,.int .i64 0,.int .i64 0,.int .i64 0,.int .i64 0,.int .i64 0,.int .i64 0,.int .i64 0]⟩,⟨none,none,.store 13 (.tmp 1) (.tmp 11)⟩,⟨some 2,none,.mv (.tmp 12)⟩]) (.seq (.ops [⟨some 14,none,.load (some 13) (.tmp 1)⟩,⟨some 15,none,.call 40 [.tmp 14]⟩,⟨some 13,none,.mv (.tmp 15)⟩,⟨some 16,none,.extr (.tmp 13) 0⟩,⟨some 17,none,.extr (.tmp 13) 1⟩,⟨some 3,none,.mv (.tmp 16)⟩,⟨some 4,none,.mv (.tmp 17)⟩]) (.seq (.ops [⟨some 18,none,.mv (.tmp 2)⟩,⟨some 19,none,.bin .eql (.tmp 18) (.const (.int .i64 0))⟩,⟨some 20,none,.mv (.tmp 19)⟩,⟨some 21,some (20,true),.mv (.tmp 3)⟩,⟨some 22,some (20,true),.bin .eql (.tmp 21) (.const (.int .i64 1))⟩,⟨some 23,none,.pick (.tmp 20) (.tmp 22) (.const (.bool false))⟩,⟨some 24,none,.mv (.tmp 23)⟩,⟨some 25,some (24,true),.mv (.tmp 4)⟩,⟨some 26,none,.pick (.tmp 24) (.tmp 25) (.const (.bool false))⟩,⟨some 27,none,.mv (.tmp 26)⟩,⟨some 28,some (27,true),.fAddr 9 (.tmp 1)⟩,⟨some 29,some (27,true),.load none (.tmp 28)⟩,⟨some 30,some (27,true),.bin .eql (.tmp 29) (.const (.int .i64 1))⟩,⟨some 31,none,.pick (.tmp 27) (.tmp 30) (.const (.bool false))⟩,⟨some 32,none,.mv (.tmp 31)⟩,⟨some 33,some (32,true),.fAddr 0 (.tmp 1)⟩,⟨some 34,some (32,true),.iAddrA 3 3 (.tmp 33) (.const (.int .i64 1))⟩,⟨some 35,some (32,true),.fAddr 1 (.tmp 34)⟩,⟨some 36,some (32,true),.load none (.tmp 35)⟩,⟨some 37,some (32,true),.bin .eql (.tmp 36) (.const (.int .i64 5))⟩,⟨some 38,none,.pick (.tmp 32) (.tmp 37) (.const (.bool false))⟩,⟨some 0,none,.mv (.tmp 38)⟩]) .ret)))
theorem k16 : compF Tryz.prog Tryz.f16 = some (c16, [0]) := by kernel_rfl
theorem n16 : Tryz.f16.ntmps = 39 := by kernel_rfl
def c112 : AC := .seq (.ops [⟨some 4,none,.mv (.const (.bool false))⟩]) (.seq (.ops [⟨some 5,none,.mv (.tmp 0)⟩,⟨some 6,none,.mv (.tmp 1)⟩,⟨some 7,none,.call 145 [.tmp 5,.tmp 6]⟩,⟨some 8,none,.bin .geq (.tmp 7) (.const (.int .i64 0))⟩,⟨some 4,none,.mv (.tmp 8)⟩]) .ret)
theorem k112 : compF Tryz.prog Tryz.f112 = some (c112, [4]) := by kernel_rfl
theorem n112 : Tryz.f112.ntmps = 9 := by kernel_rfl
def c145 : AC := .seq (.ops [⟨some 4,none,.mv (.const (.int .i64 0))⟩]) (.seq (.seq (.ops [⟨some 6,none,.mv (.tmp 0)⟩,⟨some 7,none,.lenS false (.tmp 6)⟩,⟨some 8,none,.mv (.const (.int .i64 0))⟩]) (.block 0 (.loop (.seq (.ops [⟨some 9,none,.bin .lss (.tmp 8) (.tmp 7)⟩]) (.seq (.cond (.tmp 9) .skip (.exit 0)) (.seq (.block 1 (.seq (.ops [⟨some 10,none,.mv (.tmp 8)⟩,⟨some 5,none,.mv (.tmp 10)⟩]) (.seq (.ops [⟨some 11,none,.mv (.tmp 1)⟩,⟨some 12,none,.mv (.tmp 0)⟩,⟨some 13,none,.mv (.tmp 5)⟩,⟨some 14,none,.iAddrS 1 (.tmp 12) (.tmp 13)⟩,⟨some 15,none,.load none (.tmp 14)⟩,⟨some 16,none,.callv (.tmp 11) [.tmp 15]⟩]) (.cond (.tmp 16) (.seq (.ops [⟨some 17,none,.mv (.tmp 5)⟩,⟨some 4,none,.mv (.tmp 17)⟩]) .ret) .skip)))) (.ops [⟨some 18,none,.bin .add (.tmp 8) (.const (.int .i64 1))⟩,⟨some 8,none,.mv (.tmp 18)⟩]))))))) (.seq (.ops [⟨some 4,none,.mv (.const (.int .i64 (-1)))⟩]) .ret))
theorem k145 : compF Tryz.prog Tryz.f145 = some (c145, [4]) := by kernel_rfl
theorem n145 : Tryz.f145.ntmps = 19 := by kernel_rfl

abbrev cI (x : Int) : Value := .int .i64 x
theorem i64_small {n : Int} (h0 : -9223372036854775808 ≤ n) (h1 : n < 9223372036854775808) : IntKind.i64.wrap n = n := IntWalk.i64_in _ (by omega)
theorem cellsOf_push {h : Heap} (hc : h.Closed) {o : AObj} {b : Nat} {x} (e : h.cellsOf b = some x) : (h.push o).cellsOf b = some x :=
  cellsOf_keep (fun b o e => by rw [push_m, if_neg (by have := (hc b o e).1; omega)]; exact e) e
theorem push_set {h : Heap} {b : Nat} (hb : b < h.n) (o o' : AObj) : (h.push o).set b o' = (h.set b o').push o := by
  unfold Heap.set Heap.push
  congr 1
  funext b'
  by_cases h1 : b' = b
  · have : ¬ b = h.n := by omega
    simp [h1, this]
  · simp [h1]
theorem closed_ints {h : Heap} (hc : h.Closed) {b : Nat} (hb : b < h.n) (l : List Int) : (h.set b (.cells (l.map cI) .ex 1)).Closed :=
  closed_set hc hb (fun x hx => by obtain ⟨y, _, rfl⟩ := List.mem_map.1 hx; exact .int)
theorem ACalls.turned {P : Program} {g : FuncId} {args : List Value} {h : Heap} {v0 : Value} {b : Nat} {l : List Int} (hv : VBelow h.n v0) (hb : b < h.n) (hh : ACalls P g args h fun v h' => v = v0 ∧ (h.set b (.cells (l.map cI) .ex 1)).Ext h') :
    ACalls P g args h fun v h' => v = v0 ∧ h' = h.set b (.cells (l.map cI) .ex 1) :=
  ACalls.closed fun hcl => hh.drop fun v h' q => ⟨_, q.2.sub (closed_ints hcl hb l), by rw [q.1]; exact hv, q.1, rfl⟩

theorem index_ok (l : List Int) (x : Int) (v : Value) (h : Heap) (hl : Sl cI h v l) (hn : l.length ≤ 68719476736) :
    ACalls Tryz.prog 134 [v, .int .i64 x] h fun r h' => (∃ k, r = .int .i64 k ∧ (0 ≤ k ↔ x ∈ l)) ∧ h' = h := by
  refine acalls_of mix Tryz.func134 k134 n134 (by simp) fun hcl hb => ?_
  have bl := hl.below hcl
  obtain ⟨a, c, rfl⟩ := hl.form
  simp [c134]
  refine awp_loop_of (α := Nat) (fun i => i ≤ l.length ∧ x ∉ l.take i) (fun i => [(0, .slice a l.length c), (1, .int .i64 x), (7, .int .i64 l.length), (8, .int .i64 i)]) (fun _ => h) (fun i => l.length - i) 0
    ⟨Nat.zero_le _, by simp⟩ (Heap.Sub.refl hcl) (by simp; exact ⟨bl, .int, .int, .int⟩) ?_
  rintro i ⟨hil, hany⟩
  by_cases hlt : i < l.length
  · obtain ⟨b1, o1, cs1, m1, e1, rfl, _, g1, g1'⟩ := hl.at hlt
    simp [hlt, aidx_of hlt, g1, apart, g1']
    by_cases w : x = l[i]
    · simp [w]
    · simp [w]
      refine ⟨i + 1, by omega, ⟨by omega, ?_⟩, Heap.Sub.refl hcl, bl, .int, .int, ?_, .int⟩
      · rw [List.take_succ_eq_append_getElem hlt]
        intro hm
        rcases List.mem_append.1 hm with hm | hm
        · exact hany hm
        · exact w (List.mem_singleton.1 hm)
      · rw [i64_small (by omega) (by omega)]; omega
  · have : i = l.length := by omega
    subst this
    rw [List.take_of_length_le (by omega)] at hany
    simp [hany]
theorem has_ok (l : List Int) (x : Int) (v : Value) (h : Heap) (hl : Sl cI h v l) (hn : l.length ≤ 68719476736) :
    ACalls Tryz.prog 107 [v, .int .i64 x] h fun r h' => r = .bool (decide (x ∈ l)) ∧ h' = h := by
  refine acalls_of mix Tryz.func107 k107 n107 (by simp) fun hcl hb => ?_
  simp [c107]
  refine (index_ok l x v h hl hn).mono ?_
  rintro v1 h1 ⟨⟨k, rfl, hk⟩, e⟩
  subst e
  simp
  exact hk
theorem sl_new (h : Heap) (l : List Int) : Sl cI (h.push (.cells (l.map cI) .ex 1)) (.slice (some ⟨h.n, 0, none⟩) l.length l.length) l :=
  .inr ⟨h.n, 0, _, l.map cI, .ex, 1, rfl, cellsOf_new _ _ _ _, Nat.le_refl _, fun _ => by simp, fun i hi => by simp [hi]⟩

structure S3 where
  st : Int
  ve : Int
  ba : Int
  deriving DecidableEq
structure Mt where
  s0 : S3
  s1 : S3
  s2 : S3
  act : Int
  fl : Int
  cu : Int
  it : Int
  deriving DecidableEq
structure Rc where
  kd : Int
  sl : Int
  no : Int
  va : Int
def S3.l (x : S3) : List Int := [x.st, x.ve, x.ba]
def Mt.l (m : Mt) : List Int := [m.s0.st, m.s0.ve, m.s0.ba, m.s1.st, m.s1.ve, m.s1.ba, m.s2.st, m.s2.ve, m.s2.ba, m.act, m.fl, m.cu, m.it]
def Rc.l (r : Rc) : List Int := [r.kd, r.sl, r.no, r.va]
def mv (m : Mt) : Value := .agg (m.l.map cI).toArray
def rv (r : Rc) : Value := .agg (r.l.map cI).toArray
def Mt.get (m : Mt) (k : Int) : S3 := if k = 0 then m.s0 else if k = 1 then m.s1 else m.s2
def Mt.set (m : Mt) (k : Int) (x : S3) : Mt := if k = 0 then { m with s0 := x } else if k = 1 then { m with s1 := x } else { m with s2 := x }
def cc (m : Mt) (r : Rc) : List Int := m.l ++ r.l
def Lies (h : Heap) (b : Nat) (m : Mt) (r : Rc) : Prop := h.cellsOf b = some ((cc m r).map cI, .ex, 1)
def heapOf (h : Heap) (b : Nat) (m : Mt) (r : Rc) : Heap := h.set b (.cells ((cc m r).map cI) .ex 1)
theorem lies_of (h : Heap) (b : Nat) (m : Mt) (r : Rc) : Lies (heapOf h b m r) b m r := cellsOf_set _ _ _ _ _
theorem heapOf_same {h : Heap} {b : Nat} {m : Mt} {r : Rc} (l : Lies h b m r) : heapOf h b m r = h := set_same (m_of_cells l)
theorem is_ok (m : Mt) (r : Rc) (b : Nat) (l : List Int) (v : Value) (h : Heap) (hm : Lies h b m r) (hs : 0 ≤ r.sl ∧ r.sl ≤ 2) (hl : Sl cI h v l) (hn : l.length ≤ 10) :
    ACalls Tryz.prog 138 [.pointer (some ⟨b, 0, none⟩), v] h fun x h' => x = .bool (decide ((m.get r.sl).st ∈ l)) ∧ h' = h := by
  refine acalls_of mix Tryz.func138 k138 n138 (by simp) fun hcl hb => ?_
  obtain ⟨⟨a0, a1, a2⟩, ⟨b0, b1, b2⟩, ⟨c0, c1, c2⟩, ac, fl, cu, it⟩ := m
  obtain ⟨kd, sl, no, va⟩ := r
  simp only [Lies, cc, Mt.l, Rc.l, List.cons_append, List.nil_append, List.map_cons, List.map_nil] at hm
  dsimp only at hs
  have hcase : sl = 0 ∨ sl = 1 ∨ sl = 2 := by omega
  have i0 : aidx (.int .i64 0) 3 = some 0 := rfl
  have i1 : aidx (.int .i64 1) 3 = some 1 := rfl
  have i2 : aidx (.int .i64 2) 3 = some 2 := rfl
  rcases hcase with rfl | rfl | rfl
  · simp [c138, hm, apart, i0]
    refine (has_ok l a0 v h hl (by omega)).mono ?_
    rintro v1 h1 ⟨rfl, e⟩
    subst e
    simp [Mt.get]
  · simp [c138, hm, apart, i1]
    refine (has_ok l b0 v h hl (by omega)).mono ?_
    rintro v1 h1 ⟨rfl, e⟩
    subst e
    simp [Mt.get]
  · simp [c138, hm, apart, i2]
    refine (has_ok l c0 v h hl (by omega)).mono ?_
    rintro v1 h1 ⟨rfl, e⟩
    subst e
    simp [Mt.get]
def idleB (m : Mt) (r : Rc) : Bool := decide (r.sl ≠ 0) && decide (r.sl ≠ m.act) && !decide ((m.get r.sl).st = 3)
theorem lies_push {h : Heap} (hcl : h.Closed) {b : Nat} {m : Mt} {r : Rc} (l : Lies h b m r) (o : AObj) : Lies (h.push o) b m r := cellsOf_push hcl l
theorem idle_ok (m : Mt) (r : Rc) (b : Nat) (h : Heap) (hm : Lies h b m r) (hs : 0 ≤ r.sl ∧ r.sl ≤ 2) :
    ACalls Tryz.prog 136 [.pointer (some ⟨b, 0, none⟩)] h fun x h' => x = .bool (idleB m r) ∧ h' = h := by
  refine ACalls.same .bool (acalls_of mix Tryz.func136 k136 n136 (by simp) fun hcl hb => ?_)
  have hm0 := hm
  simp only [Lies, cc, Mt.l, Rc.l, List.cons_append, List.nil_append, List.map_cons, List.map_nil] at hm
  by_cases h0 : r.sl = 0
  · simp [c136, hm, apart, h0, idleB]
    exact Heap.Ext.refl h
  by_cases h1 : r.sl = m.act
  · have h0' : ¬ m.act = 0 := by rw [← h1]; exact h0
    simp [c136, hm, apart, h0', h1, idleB]
    exact Heap.Ext.refl h
  simp [c136, hm, apart, h0, h1, idleB, afill, mcells]
  refine (is_ok m r b [3] _ _ (lies_push hcl hm0 _) hs (sl_new h [3]) (by simp)).mono ?_
  rintro v1 h2 ⟨rfl, e⟩
  subst e
  simp [aun]
  exact (Heap.Ext.refl h).push hcl _

theorem set_ok (m : Mt) (r : Rc) (b : Nat) (x : S3) (h : Heap) (hm : Lies h b m r) (hs : 0 ≤ r.sl ∧ r.sl ≤ 2) :
    ACalls Tryz.prog 137 [.pointer (some ⟨b, 0, none⟩), .int .i64 x.st, .int .i64 x.ve, .int .i64 x.ba] h fun v h' => h' = heapOf h b (m.set r.sl x) r := by
  refine acalls_of mix Tryz.func137 k137 n137 (by simp) fun hcl hb => ?_
  obtain ⟨⟨a0, a1, a2⟩, ⟨b0, b1, b2⟩, ⟨c0, c1, c2⟩, ac, fl, cu, it⟩ := m
  obtain ⟨kd, sl, no, va⟩ := r
  simp only [Lies, cc, Mt.l, Rc.l, List.cons_append, List.nil_append, List.map_cons, List.map_nil] at hm
  dsimp only at hs
  have hcase : sl = 0 ∨ sl = 1 ∨ sl = 2 := by omega
  have i0 : aidx (.int .i64 0) 3 = some 0 := rfl
  have i1 : aidx (.int .i64 1) 3 = some 1 := rfl
  have i2 : aidx (.int .i64 2) 3 = some 2 := rfl
  rcases hcase with rfl | rfl | rfl
  · simp [c137, hm, apart, i0, afill, mcells, aput, heapOf, cc, Mt.l, Rc.l, Mt.set]
  · simp [c137, hm, apart, i1, afill, mcells, aput, heapOf, cc, Mt.l, Rc.l, Mt.set]
  · simp [c137, hm, apart, i2, afill, mcells, aput, heapOf, cc, Mt.l, Rc.l, Mt.set]
def badM (m : Mt) (k : Int) : Mt := if m.act = k then { m.set k ⟨5, 0, 0⟩ with act := 0 } else m.set k ⟨5, 0, 0⟩
theorem bad_ok (m : Mt) (r : Rc) (b : Nat) (k : Int) (h : Heap) (hm : Lies h b m r) (hs : 0 ≤ k ∧ k ≤ 2) :
    ACalls Tryz.prog 141 [.pointer (some ⟨b, 0, none⟩), .int .i64 k] h fun v h' => h' = heapOf h b (badM m k) r := by
  refine acalls_of mix Tryz.func141 k141 n141 (by simp) fun hcl hb => ?_
  obtain ⟨⟨a0, a1, a2⟩, ⟨b0, b1, b2⟩, ⟨c0, c1, c2⟩, ac, fl, cu, it⟩ := m
  obtain ⟨kd, sl, no, va⟩ := r
  simp only [Lies, cc, Mt.l, Rc.l, List.cons_append, List.nil_append, List.map_cons, List.map_nil] at hm
  have hcase : k = 0 ∨ k = 1 ∨ k = 2 := by omega
  have i0 : aidx (.int .i64 0) 3 = some 0 := rfl
  have i1 : aidx (.int .i64 1) 3 = some 1 := rfl
  have i2 : aidx (.int .i64 2) 3 = some 2 := rfl
  rcases hcase with rfl | rfl | rfl
  · by_cases ha : ac = 0
    · simp [c141, hm, apart, i0, afill, mcells, aput, heapOf, cc, Mt.l, Rc.l, Mt.set, badM, ha, cellsOf_set, set_set]
    · simp [c141, hm, apart, i0, afill, mcells, aput, heapOf, cc, Mt.l, Rc.l, Mt.set, badM, ha, cellsOf_set, set_set]
  · by_cases ha : ac = 1
    · simp [c141, hm, apart, i1, afill, mcells, aput, heapOf, cc, Mt.l, Rc.l, Mt.set, badM, ha, cellsOf_set, set_set]
    · simp [c141, hm, apart, i1, afill, mcells, aput, heapOf, cc, Mt.l, Rc.l, Mt.set, badM, ha, cellsOf_set, set_set]
  · by_cases ha : ac = 2
    · simp [c141, hm, apart, i2, afill, mcells, aput, heapOf, cc, Mt.l, Rc.l, Mt.set, badM, ha, cellsOf_set, set_set]
    · simp [c141, hm, apart, i2, afill, mcells, aput, heapOf, cc, Mt.l, Rc.l, Mt.set, badM, ha, cellsOf_set, set_set]
theorem is3_ok (x y z : Int) (h : Heap) : ACalls Tryz.prog 80 [.agg #[.int .i64 x, .int .i64 y, .int .i64 z]] h fun v h' => v = .bool (decide (x = 3)) ∧ h' = h := by
  refine ACalls.same .bool (acalls_of mix Tryz.func80 k80 n80 (by simp) fun hcl hb => ?_)
  simp [c80, mcells, cellsOf_new, apart]
  exact (Heap.Ext.refl h).push hcl _
theorem ok124 : callOk Tryz.prog 80 = true := by kernel_rfl
def trialI (m : Mt) : Int := if m.s0.st = 3 then 0 else if m.s1.st = 3 then 1 else if m.s2.st = 3 then 2 else -1
theorem trialF_ok (m : Mt) (b : Nat) (h : Heap) (md : BMode) (e0 : Nat) (hm : h.cellsOf b = some (m.l.map cI, md, e0)) :
    ACalls Tryz.prog 79 [.slice (some ⟨b, 0, none⟩) 3 3, .func (.func 80) #[] #[]] h fun v h' => v = .int .i64 (trialI m) ∧ h' = h := by
  refine acalls_of mix Tryz.func79 k79 n79 (by simp) fun hcl hb => ?_
  have hbn := cellsOf_lt hcl hm
  obtain ⟨⟨a0, a1, a2⟩, ⟨b0, b1, b2⟩, ⟨c0, c1, c2⟩, ac, fl, cu, it⟩ := m
  simp only [Mt.l, List.map_cons, List.map_nil] at hm
  have bs : VBelow h.n (.slice (some ⟨b, 0, none⟩) 3 3) := .slice hbn
  have bf : VBelow h.n (.func (.func 80) #[] #[]) := hb _ (by simp)
  simp [c79]
  refine awp_loop_of (α := Nat) (fun i => i ≤ 3 ∧ (0 < i → a0 ≠ 3) ∧ (1 < i → b0 ≠ 3) ∧ (2 < i → c0 ≠ 3)) (fun i => [(0, .slice (some ⟨b, 0, none⟩) 3 3), (1, .func (.func 80) #[] #[]), (7, .int .i64 3), (8, .int .i64 i)]) (fun _ => h) (fun i => 3 - i) 0
    ⟨by omega, by omega, by omega, by omega⟩ (Heap.Sub.refl hcl) (by simp; exact ⟨bs, bf, .int, .int⟩) ?_
  rintro i ⟨hi, q0, q1, q2⟩
  have hcase : i = 0 ∨ i = 1 ∨ i = 2 ∨ i = 3 := by omega
  have i0 : aidx (.int .i64 0) 3 = some 0 := rfl
  have i1 : aidx (.int .i64 1) 3 = some 1 := rfl
  have i2 : aidx (.int .i64 2) 3 = some 2 := rfl
  have w1 : IntKind.i64.wrap 1 = 1 := rfl
  have w2 : IntKind.i64.wrap (1 + 1) = 2 := rfl
  have w3 : IntKind.i64.wrap (2 + 1) = 3 := rfl
  rcases hcase with rfl | rfl | rfl | rfl
  · simp [i0, hm, apart, acut, ok124]
    refine (is3_ok _ _ _ _).mono ?_
    rintro v1 h2 ⟨rfl, e⟩
    subst e
    by_cases ha : a0 = 3
    · simp [ha, trialI]
    · simp [ha, w1]
      exact ⟨1, by omega, ⟨by omega, by omega, by omega⟩, Heap.Sub.refl hcl, bs, bf, .int, rfl, .int⟩
  · have a3 := q0 (by omega)
    simp [i1, hm, apart, acut, ok124]
    refine (is3_ok _ _ _ _).mono ?_
    rintro v1 h2 ⟨rfl, e⟩
    subst e
    by_cases ha : b0 = 3
    · simp [ha, trialI, a3]
    · simp [ha, w2, a3]
      exact ⟨2, by omega, ⟨by omega, by omega⟩, Heap.Sub.refl hcl, bs, bf, .int, rfl, .int⟩
  · have a3 := q0 (by omega)
    have b3 := q1 (by omega)
    simp [i2, hm, apart, acut, ok124]
    refine (is3_ok _ _ _ _).mono ?_
    rintro v1 h2 ⟨rfl, e⟩
    subst e
    by_cases ha : c0 = 3
    · simp [ha, trialI, a3, b3]
    · simp [ha, w3, a3, b3]
      exact ⟨3, by omega, by omega, Heap.Sub.refl hcl, bs, bf, .int, rfl, .int⟩
  · have a3 := q0 (by omega)
    have b3 := q1 (by omega)
    have c3 := q2 (by omega)
    simp [trialI, a3, b3, c3]
theorem trial_ok (m : Mt) (h : Heap) : ACalls Tryz.prog 40 [mv m] h fun v h' => v = .tuple #[cI (max (trialI m) 0), .bool (decide (0 ≤ trialI m))] ∧ h' = h := by
  refine ACalls.same (vb_tuple2 .int .bool) (acalls_of mix Tryz.func40 k40 n40 (by simp) fun hcl hb => ?_)
  have hab : abounds 3 3 none none none = some (0, 3, 3) := rfl
  simp [c40, mv, mcells, hab]
  refine (trialF_ok m h.n _ .ex 1 (by simpa [Mt.l] using cellsOf_new _ _ _ _)).mono ?_
  rintro v1 h1 ⟨rfl, e⟩
  subst e
  simp [afold, amax2]
  exact (Heap.Ext.refl h).push hcl _

theorem ext_set {a c : Heap} (e : a.Ext c) (b : Nat) (o : AObj) : (a.set b o).Ext (c.set b o) :=
  ⟨e.n, fun x ob q => by
    rw [set_m] at q ⊢
    split
    · rename_i hx; rw [if_pos hx] at q; exact q
    · rename_i hx; rw [if_neg hx] at q; exact e.m x ob q⟩
def tryM (m : Mt) (r : Rc) : Mt × Bool := if 0 ≤ trialI m then (m, false) else if (m.get r.sl).st ≠ 2 then (m, false) else if 512 < r.va then (m, false) else ({ m.set r.sl ⟨3, (m.get r.sl).ve, r.va⟩ with act := r.sl }, true)
theorem try_ok (m : Mt) (r : Rc) (b : Nat) (h : Heap) (hm : Lies h b m r) (hs : 0 ≤ r.sl ∧ r.sl ≤ 2) :
    ACalls Tryz.prog 139 [.pointer (some ⟨b, 0, none⟩)] h fun v h' => v = .bool (tryM m r).2 ∧ h' = heapOf h b (tryM m r).1 r := by
  refine ACalls.closed fun hcl0 => ACalls.turned .bool (cellsOf_lt hcl0 hm) (acalls_of mix Tryz.func139 k139 n139 (by simp) fun hcl hb => ?_)
  have hm0 := hm
  have hbn := cellsOf_lt hcl0 hm
  have hsame : h.set b (.cells ((cc m r).map cI) .ex 1) = h := heapOf_same hm0
  simp only [Lies, cc, Mt.l, Rc.l, List.cons_append, List.nil_append, List.map_cons, List.map_nil] at hm
  simp [c139, hm, apart, acut]
  refine (trial_ok m _).mono ?_
  rintro v1 h ⟨rfl, e⟩
  subst e
  by_cases ht : 0 ≤ trialI m
  · simp [ht, tryM]
    rw [hsame]; exact Heap.Ext.refl _
  simp [ht, afill, mcells]
  refine (is_ok m r b [2] _ _ (lies_push hcl hm0 _) hs (sl_new _ [2]) (by simp)).mono ?_
  rintro v1 h2 ⟨rfl, e⟩
  subst e
  have hmp := lies_push hcl hm0 (.cells [.int .i64 2] .ex 1)
  have hmp0 := hmp
  simp only [Lies, cc, Mt.l, Rc.l, List.cons_append, List.nil_append, List.map_cons, List.map_nil] at hmp
  have hext0 : h.Ext (h.push (.cells [.int .i64 2] .ex 1)) := (Heap.Ext.refl h).push hcl _
  by_cases h2 : (m.get r.sl).st = 2
  case neg =>
    simp [h2, aun, tryM, ht]
    rw [hsame]; exact hext0
  by_cases hv : 512 < r.va
  · simp [h2, hv, aun, tryM, ht, hmp, apart]
    rw [hsame]; exact hext0
  have i0 : aidx (.int .i64 0) 3 = some 0 := rfl
  have i1 : aidx (.int .i64 1) 3 = some 1 := rfl
  have i2 : aidx (.int .i64 2) 3 = some 2 := rfl
  have hidx : aidx (.int .i64 r.sl) 3 = some r.sl.toNat := by unfold aidx; simp only; rw [if_pos ⟨hs.1, by omega⟩]
  have hve : (((cc m r).map cI)[r.sl.toNat * 3 + 1]?) = some (cI (m.get r.sl).ve) := by
    have hcase : r.sl = 0 ∨ r.sl = 1 ∨ r.sl = 2 := by omega
    rcases hcase with q | q | q <;> simp [q, cc, Mt.l, Rc.l, Mt.get]
  simp only [cc, Mt.l, Rc.l, List.cons_append, List.nil_append, List.map_cons, List.map_nil] at hve
  have hres : tryM m r = ({ m.set r.sl ⟨3, (m.get r.sl).ve, r.va⟩ with act := r.sl }, true) := by simp [tryM, ht, h2, hv]
  rw [hres]
  simp [h2, hv, aun, hmp, apart, hidx, hve]
  refine (set_ok m r b ⟨3, (m.get r.sl).ve, r.va⟩ _ hmp0 hs).mono ?_
  rintro v2 h3 e
  subst e
  have hl2 := lies_of (h.push (.cells [.int .i64 2] .ex 1)) b (m.set r.sl ⟨3, (m.get r.sl).ve, r.va⟩) r
  generalize hM : m.set r.sl ⟨3, (m.get r.sl).ve, r.va⟩ = M at *
  simp only [Lies, cc, Mt.l, Rc.l, List.cons_append, List.nil_append, List.map_cons, List.map_nil] at hl2
  simp [hl2, apart, mcells, aput]
  unfold heapOf
  rw [set_set]
  exact ext_set hext0 b _

theorem get_cell {m : Mt} {r : Rc} (hs : 0 ≤ r.sl ∧ r.sl ≤ 2) : aidx (.int .i64 r.sl) 3 = some r.sl.toNat ∧ [cI m.s0.st, cI m.s0.ve, cI m.s0.ba, cI m.s1.st, cI m.s1.ve, cI m.s1.ba, cI m.s2.st, cI m.s2.ve, cI m.s2.ba, cI m.act, cI m.fl, cI m.cu, cI m.it, cI r.kd, cI r.sl, cI r.no, cI r.va][r.sl.toNat * 3 + 1]? = some (cI (m.get r.sl).ve) ∧
    [cI m.s0.st, cI m.s0.ve, cI m.s0.ba, cI m.s1.st, cI m.s1.ve, cI m.s1.ba, cI m.s2.st, cI m.s2.ve, cI m.s2.ba, cI m.act, cI m.fl, cI m.cu, cI m.it, cI r.kd, cI r.sl, cI r.no, cI r.va][r.sl.toNat * 3 + 2]? = some (cI (m.get r.sl).ba) := by
  have hcase : r.sl = 0 ∨ r.sl = 1 ∨ r.sl = 2 := by omega
  refine ⟨by unfold aidx; simp only; rw [if_pos ⟨hs.1, by omega⟩], ?_, ?_⟩
  · rcases hcase with q | q | q <;> simp [q, Mt.get]
  · rcases hcase with q | q | q <;> simp [q, Mt.get]
def confM (m : Mt) (r : Rc) : Mt × Bool := if (m.get r.sl).st ≠ 3 then (m, false) else ({ m.set r.sl ⟨4, (m.get r.sl).ve, 0⟩ with fl := max m.fl (m.get r.sl).ve }, true)
theorem set_fl (m : Mt) (k : Int) (x : S3) : (m.set k x).fl = m.fl ∧ (m.set k x).act = m.act ∧ (m.set k x).cu = m.cu ∧ (m.set k x).it = m.it := by
  unfold Mt.set
  split
  · exact ⟨rfl, rfl, rfl, rfl⟩
  · split <;> exact ⟨rfl, rfl, rfl, rfl⟩
theorem conf_ok (m : Mt) (r : Rc) (b : Nat) (h : Heap) (hm : Lies h b m r) (hs : 0 ≤ r.sl ∧ r.sl ≤ 2) :
    ACalls Tryz.prog 140 [.pointer (some ⟨b, 0, none⟩)] h fun v h' => v = .bool (confM m r).2 ∧ h' = heapOf h b (confM m r).1 r := by
  refine ACalls.closed fun hcl0 => ACalls.turned .bool (cellsOf_lt hcl0 hm) (acalls_of mix Tryz.func140 k140 n140 (by simp) fun hcl hb => ?_)
  have hm0 := hm
  have hsame : h.set b (.cells ((cc m r).map cI) .ex 1) = h := heapOf_same hm0
  simp [c140, afill, mcells]
  refine (is_ok m r b [3] _ _ (lies_push hcl hm0 _) hs (sl_new _ [3]) (by simp)).mono ?_
  rintro v1 h2 ⟨rfl, e⟩
  subst e
  have hmp := lies_push hcl hm0 (.cells [.int .i64 3] .ex 1)
  have hmp0 := hmp
  simp only [Lies, cc, Mt.l, Rc.l, List.cons_append, List.nil_append, List.map_cons, List.map_nil] at hmp
  have hext0 : h.Ext (h.push (.cells [.int .i64 3] .ex 1)) := (Heap.Ext.refl h).push hcl _
  by_cases h2 : (m.get r.sl).st = 3
  case neg =>
    simp [h2, aun, confM]
    rw [hsame]; exact hext0
  obtain ⟨hidx, hve, _⟩ := get_cell (m := m) hs
  have hres : confM m r = ({ m.set r.sl ⟨4, (m.get r.sl).ve, 0⟩ with fl := max m.fl (m.get r.sl).ve }, true) := by simp [confM, h2]
  rw [hres]
  simp [h2, aun, hmp, apart, hidx, hve]
  refine (set_ok m r b ⟨4, (m.get r.sl).ve, 0⟩ _ hmp0 hs).mono ?_
  rintro v2 h3 e
  subst e
  have hl2 := lies_of (h.push (.cells [.int .i64 3] .ex 1)) b (m.set r.sl ⟨4, (m.get r.sl).ve, 0⟩) r
  have hfl := (set_fl m r.sl ⟨4, (m.get r.sl).ve, 0⟩).1
  generalize hM : m.set r.sl ⟨4, (m.get r.sl).ve, 0⟩ = M at *
  rw [← hfl]
  simp only [Lies, cc, Mt.l, Rc.l, List.cons_append, List.nil_append, List.map_cons, List.map_nil] at hl2
  simp [hl2, apart, mcells, aput, afold, amax2]
  unfold heapOf
  rw [set_set]
  exact ext_set hext0 b _
def actM (m : Mt) (r : Rc) : Mt × Bool := if r.sl ≠ 0 ∧ (m.get r.sl).st ≠ 4 then (m, false) else ({ (if 0 ≤ trialI m then badM m (trialI m) else m) with act := r.sl }, true)
theorem trial_range (m : Mt) : trialI m ≤ 2 := by
  unfold trialI
  split
  · omega
  · split
    · omega
    · split <;> omega
theorem act_ok (m : Mt) (r : Rc) (b : Nat) (h : Heap) (hm : Lies h b m r) (hs : 0 ≤ r.sl ∧ r.sl ≤ 2) :
    ACalls Tryz.prog 142 [.pointer (some ⟨b, 0, none⟩)] h fun v h' => v = .bool (actM m r).2 ∧ h' = heapOf h b (actM m r).1 r := by
  refine ACalls.closed fun hcl0 => ACalls.turned .bool (cellsOf_lt hcl0 hm) (acalls_of mix Tryz.func142 k142 n142 (by simp) fun hcl hb => ?_)
  have hm0 := hm
  have hsame : h.set b (.cells ((cc m r).map cI) .ex 1) = h := heapOf_same hm0
  have tr := trial_range m
  by_cases h0 : r.sl = 0
  · have d0 : decide (r.sl = 0) = true := decide_eq_true h0
    have hres : actM m r = ({ (if 0 ≤ trialI m then badM m (trialI m) else m) with act := r.sl }, true) := by
      unfold actM
      rw [if_neg (by rintro ⟨q1, _⟩; exact q1 h0)]
    rw [hres]
    have hext := Heap.Ext.refl h
    have hmX := hm
    have hmX0 := hm
    simp only [Lies, cc, Mt.l, Rc.l, List.cons_append, List.nil_append, List.map_cons, List.map_nil] at hmX
    simp [c142, hmX, apart, d0]
    simp [hmX, apart, acut]
    refine (trial_ok m _).mono ?_
    rintro v1 h ⟨rfl, e⟩
    subst e
    by_cases ht : 0 ≤ trialI m
    · have hmax : max (trialI m) 0 = trialI m := by omega
      rw [if_pos ht]
      simp [ht, hmax]
      refine (bad_ok m r b (trialI m) _ hmX0 ⟨ht, tr⟩).mono ?_
      rintro v2 h3 e
      subst e
      have hl2 := lies_of h b (badM m (trialI m)) r
      generalize hM : badM m (trialI m) = M at *
      simp only [Lies, cc, Mt.l, Rc.l, List.cons_append, List.nil_append, List.map_cons, List.map_nil] at hl2
      simp [hl2, apart, mcells, aput]
      unfold heapOf
      rw [set_set]
      exact ext_set hext b _
    · rw [if_neg ht]
      simp [ht, hmX, apart, mcells, aput]
      exact ext_set hext b _
  · have d0 : decide (r.sl = 0) = false := decide_eq_false h0
    have hmX := hm
    simp only [Lies, cc, Mt.l, Rc.l, List.cons_append, List.nil_append, List.map_cons, List.map_nil] at hmX
    simp [c142, hmX, apart, d0, afill, mcells]
    refine (is_ok m r b [4] _ _ (lies_push hcl hm0 _) hs (sl_new _ [4]) (by simp)).mono ?_
    rintro v1 h2 ⟨rfl, e⟩
    subst e
    have hmX := lies_push hcl hm0 (.cells [.int .i64 4] .ex 1)
    have hmX0 := hmX
    simp only [Lies, cc, Mt.l, Rc.l, List.cons_append, List.nil_append, List.map_cons, List.map_nil] at hmX
    have hext : h.Ext (h.push (.cells [.int .i64 4] .ex 1)) := (Heap.Ext.refl h).push hcl _
    by_cases h2 : (m.get r.sl).st = 4
    case neg =>
      simp [h2, aun, actM, h0]
      rw [hsame]; exact hext
    have hres : actM m r = ({ (if 0 ≤ trialI m then badM m (trialI m) else m) with act := r.sl }, true) := by
      unfold actM
      rw [if_neg (by rintro ⟨_, q2⟩; exact q2 h2)]
    rw [hres]
    simp [h2, aun]
    simp [hmX, apart, acut]
    refine (trial_ok m _).mono ?_
    rintro v1 h2 ⟨rfl, e⟩
    subst e
    by_cases ht : 0 ≤ trialI m
    · have hmax : max (trialI m) 0 = trialI m := by omega
      rw [if_pos ht]
      simp [ht, hmax]
      refine (bad_ok m r b (trialI m) _ hmX0 ⟨ht, tr⟩).mono ?_
      rintro v2 h3 e
      subst e
      have hl2 := lies_of (h.push (.cells [.int .i64 4] .ex 1)) b (badM m (trialI m)) r
      generalize hM : badM m (trialI m) = M at *
      simp only [Lies, cc, Mt.l, Rc.l, List.cons_append, List.nil_append, List.map_cons, List.map_nil] at hl2
      simp [hl2, apart, mcells, aput]
      unfold heapOf
      rw [set_set]
      exact ext_set hext b _
    · rw [if_neg ht]
      simp [ht, hmX, apart, mcells, aput]
      exact ext_set hext b _
def dropM (m : Mt) (r : Rc) : Mt × Bool := if m.act ≤ 0 ∨ 3 ≤ m.act ∨ r.sl = m.act ∨ (r.sl ≠ 0 ∧ (m.get r.sl).st ≠ 4) then (m, false) else ({ badM m m.act with act := r.sl }, true)
theorem drop_ok (m : Mt) (r : Rc) (b : Nat) (h : Heap) (hm : Lies h b m r) (hs : 0 ≤ r.sl ∧ r.sl ≤ 2) :
    ACalls Tryz.prog 143 [.pointer (some ⟨b, 0, none⟩)] h fun v h' => v = .bool (dropM m r).2 ∧ h' = heapOf h b (dropM m r).1 r := by
  refine ACalls.closed fun hcl0 => ACalls.turned .bool (cellsOf_lt hcl0 hm) (acalls_of mix Tryz.func143 k143 n143 (by simp) fun hcl hb => ?_)
  have hm0 := hm
  have hsame : h.set b (.cells ((cc m r).map cI) .ex 1) = h := heapOf_same hm0
  have hext := Heap.Ext.refl h
  have hmX := hm
  have hmX0 := hm
  simp only [Lies, cc, Mt.l, Rc.l, List.cons_append, List.nil_append, List.map_cons, List.map_nil] at hmX
  by_cases h1 : m.act ≤ 0
  · simp [c143, hmX, apart, h1, dropM]
    rw [hsame]; exact hext
  by_cases h2 : 3 ≤ m.act
  · simp [c143, hmX, apart, h1, h2, dropM]
    rw [hsame]; exact hext
  by_cases h3 : r.sl = m.act
  · have d3 : decide (r.sl = m.act) = true := decide_eq_true h3
    have hres : dropM m r = (m, false) := by unfold dropM; rw [if_pos (.inr (.inr (.inl h3)))]
    rw [hres]
    simp [c143, hmX, apart, h1, h2, d3]
    rw [hsame]; exact hext
  have d3 : decide (r.sl = m.act) = false := decide_eq_false h3
  by_cases h0 : r.sl = 0
  · have d0 : decide (r.sl = 0) = true := decide_eq_true h0
    have hres : dropM m r = ({ badM m m.act with act := r.sl }, true) := by
      unfold dropM
      rw [if_neg (by rintro (q | q | q | ⟨q, _⟩); exact h1 q; exact h2 q; exact h3 q; exact q h0)]
    rw [hres]
    simp [c143, hmX, apart, h1, h2, d3, d0]
    refine (bad_ok m r b m.act _ hmX0 (by omega)).mono ?_
    rintro v2 h3 e
    subst e
    have hl2 := lies_of h b (badM m m.act) r
    generalize hM : badM m m.act = M at *
    simp only [Lies, cc, Mt.l, Rc.l, List.cons_append, List.nil_append, List.map_cons, List.map_nil] at hl2
    simp [hl2, apart, mcells, aput]
    unfold heapOf
    rw [set_set]
    exact ext_set hext b _
  · have d0 : decide (r.sl = 0) = false := decide_eq_false h0
    simp [c143, hmX, apart, h1, h2, d3, d0, afill, mcells]
    refine (is_ok m r b [4] _ _ (lies_push hcl hm0 _) hs (sl_new _ [4]) (by simp)).mono ?_
    rintro v1 h2' ⟨rfl, e⟩
    subst e
    have hmX := lies_push hcl hm0 (.cells [.int .i64 4] .ex 1)
    have hmX0 := hmX
    simp only [Lies, cc, Mt.l, Rc.l, List.cons_append, List.nil_append, List.map_cons, List.map_nil] at hmX
    have hext : h.Ext (h.push (.cells [.int .i64 4] .ex 1)) := (Heap.Ext.refl h).push hcl _
    by_cases h4 : (m.get r.sl).st = 4
    case neg =>
      have hres : dropM m r = (m, false) := by unfold dropM; rw [if_pos (.inr (.inr (.inr ⟨h0, h4⟩)))]
      rw [hres]
      simp [h4, aun]
      rw [hsame]; exact hext
    have hres : dropM m r = ({ badM m m.act with act := r.sl }, true) := by
      unfold dropM
      rw [if_neg (by rintro (q | q | q | ⟨_, q⟩); exact h1 q; exact h2 q; exact h3 q; exact q h4)]
    rw [hres]
    simp [h4, aun, hmX, apart]
    refine (bad_ok m r b m.act _ hmX0 (by omega)).mono ?_
    rintro v2 h3 e
    subst e
    have hl2 := lies_of (h.push (.cells [.int .i64 4] .ex 1)) b (badM m m.act) r
    generalize hM : badM m m.act = M at *
    simp only [Lies, cc, Mt.l, Rc.l, List.cons_append, List.nil_append, List.map_cons, List.map_nil] at hl2
    simp [hl2, apart, mcells, aput]
    unfold heapOf
    rw [set_set]
    exact ext_set hext b _
def toldM (m : Mt) (r : Rc) : Mt × Bool := if r.kd = 111 then (m.set r.sl ⟨(m.get r.sl).st, (m.get r.sl).ve, r.va⟩, decide (r.va ≤ 512)) else if r.kd = 110 then ({ m with act := r.sl }, true) else (m.set r.sl ⟨r.kd - 100, r.va, (m.get r.sl).ba⟩, true)
theorem told_ok (m : Mt) (r : Rc) (b : Nat) (h : Heap) (hm : Lies h b m r) (hs : 0 ≤ r.sl ∧ r.sl ≤ 2) (hk : 0 ≤ r.kd ∧ r.kd ≤ 127) :
    ACalls Tryz.prog 144 [.pointer (some ⟨b, 0, none⟩)] h fun v h' => v = .bool (toldM m r).2 ∧ h' = heapOf h b (toldM m r).1 r := by
  refine acalls_of mix Tryz.func144 k144 n144 (by simp) fun hcl hb => ?_
  have hw : IntKind.i64.wrap (r.kd - 100) = r.kd - 100 := i64_small (by omega) (by omega)
  obtain ⟨⟨a0, a1, a2⟩, ⟨b0, b1, b2⟩, ⟨c0, c1, c2⟩, ac, fl, cu, it⟩ := m
  obtain ⟨kd, sl, no, va⟩ := r
  simp only [Lies, cc, Mt.l, Rc.l, List.cons_append, List.nil_append, List.map_cons, List.map_nil] at hm
  dsimp only at hs hw hk
  have hcase : sl = 0 ∨ sl = 1 ∨ sl = 2 := by omega
  have i0 : aidx (.int .i64 0) 3 = some 0 := rfl
  have i1 : aidx (.int .i64 1) 3 = some 1 := rfl
  have i2 : aidx (.int .i64 2) 3 = some 2 := rfl
  rcases hcase with rfl | rfl | rfl
  all_goals
    by_cases k1 : kd = 111
    · simp [c144, hm, apart, i0, i1, i2, k1, toldM, mcells, aput, heapOf, cc, Mt.l, Rc.l, Mt.set, Mt.get, cellsOf_set]
    by_cases k2 : kd = 110
    · simp [c144, hm, apart, i0, i1, i2, k1, k2, toldM, mcells, aput, heapOf, cc, Mt.l, Rc.l, Mt.set, Mt.get]
    simp [c144, hm, apart, i0, i1, i2, k1, k2, toldM, mcells, aput, heapOf, cc, Mt.l, Rc.l, Mt.set, Mt.get, afill, hw]
def otherM (m : Mt) (r : Rc) : Mt × Bool := if r.kd = 8 then (if r.va ≤ m.fl then (m, false) else ({ m with fl := r.va }, true)) else if r.kd = 9 then ({ m with cu := r.va }, true) else
  if r.kd = 10 then (if r.va = 0 ∨ m.it ≠ 0 then (m, false) else ({ m with it := r.va }, true)) else if m.it = 0 then (m, false) else ({ m with it := 0 }, true)
theorem other_ok (m : Mt) (r : Rc) (b : Nat) (h : Heap) (hm : Lies h b m r) :
    ACalls Tryz.prog 110 [.pointer (some ⟨b, 0, none⟩)] h fun v h' => v = .bool (otherM m r).2 ∧ h' = heapOf h b (otherM m r).1 r := by
  refine acalls_of mix Tryz.func110 k110 n110 (by simp) fun hcl hb => ?_
  have hsame := heapOf_same hm
  obtain ⟨⟨a0, a1, a2⟩, ⟨b0, b1, b2⟩, ⟨c0, c1, c2⟩, ac, fl, cu, it⟩ := m
  obtain ⟨kd, sl, no, va⟩ := r
  simp only [Lies, cc, Mt.l, Rc.l, List.cons_append, List.nil_append, List.map_cons, List.map_nil] at hm
  by_cases k1 : kd = 8
  · by_cases hv : va ≤ fl
    · simp [c110, hm, apart, k1, hv, otherM]; rw [k1] at hsame; exact hsame.symm
    · simp [c110, hm, apart, k1, hv, otherM, mcells, aput, heapOf, cc, Mt.l, Rc.l]
  by_cases k2 : kd = 9
  · simp [c110, hm, apart, k1, k2, otherM, mcells, aput, heapOf, cc, Mt.l, Rc.l]
  by_cases k3 : kd = 10
  · by_cases hv : va = 0
    · simp [c110, hm, apart, k1, k2, k3, hv, otherM]; rw [k3, hv] at hsame; exact hsame.symm
    by_cases hi : it = 0
    · simp [c110, hm, apart, k1, k2, k3, hv, hi, otherM, mcells, aput, heapOf, cc, Mt.l, Rc.l]
    · simp [c110, hm, apart, k1, k2, k3, hv, hi, otherM]; rw [k3] at hsame; exact hsame.symm
  by_cases hi : it = 0
  · simp [c110, hm, apart, k1, k2, k3, hi, otherM]; rw [hi] at hsame; exact hsame.symm
  · simp [c110, hm, apart, k1, k2, k3, hi, otherM, mcells, aput, heapOf, cc, Mt.l, Rc.l]

theorem Heap.Ext.setNew {a c : Heap} (e : a.Ext c) (hc : a.Closed) {b : Nat} (hb : a.n ≤ b) (o : AObj) : a.Ext (c.set b o) :=
  ⟨e.n, fun x ob q => by
    have := (hc x ob q).1
    rw [set_m, if_neg (by omega)]
    exact e.m x ob q⟩
def slotM (m : Mt) (r : Rc) : Mt × Bool :=
  if r.kd = 1 then (if idleB m r then (m.set r.sl ⟨1, 0, 0⟩, true) else (m, false))
  else if r.kd = 2 then (if (m.get r.sl).st = 1 then (m.set r.sl ⟨2, r.va, 0⟩, true) else (m, false))
  else if r.kd = 3 then tryM m r
  else if r.kd = 4 then confM m r
  else if r.kd = 5 then (if r.sl = 0 ∨ (m.get r.sl).st = 0 then (m, false) else (badM m r.sl, true))
  else if r.kd = 6 then (if idleB m r then (m.set r.sl ⟨0, 0, 0⟩, true) else (m, false))
  else if r.kd = 7 then actM m r
  else if r.kd = 13 then dropM m r
  else if r.kd = 12 then (if r.sl = 0 ∨ ((m.get r.sl).st ≠ 5 ∧ (m.get r.sl).st ≠ 1) then (m, false) else (m.set r.sl ⟨4, r.va, 0⟩, true))
  else toldM m r
theorem kd_rule {r : Rc} {c : Int} (k : r.kd = c) (n : Int) : decide (r.kd = n) = decide (c = n) := by rw [k]
theorem slot_ok (m : Mt) (r : Rc) (b : Nat) (h : Heap) (hm : Lies h b m r) (hs : 0 ≤ r.sl ∧ r.sl ≤ 2) (hk : 0 ≤ r.kd ∧ r.kd ≤ 127) :
    ACalls Tryz.prog 111 [.pointer (some ⟨b, 0, none⟩)] h fun v h' => v = .bool (slotM m r).2 ∧ h' = heapOf h b (slotM m r).1 r := by
  refine ACalls.closed fun hcl0 => ACalls.turned .bool (cellsOf_lt hcl0 hm) (acalls_of mix Tryz.func111 k111 n111 (by simp) fun hcl hb => ?_)
  have hm0 := hm
  have hsame : h.set b (.cells ((cc m r).map cI) .ex 1) = h := heapOf_same hm0
  have hext := Heap.Ext.refl h
  have hmX := hm
  simp only [Lies, cc, Mt.l, Rc.l, List.cons_append, List.nil_append, List.map_cons, List.map_nil] at hmX
  have eset : ∀ (m' : Mt) (H : Heap), h.Ext H → (h.set b (.cells ((cc m' r).map cI) .ex 1)).Ext (heapOf H b m' r) := fun m' H e => ext_set e b _
  have esame : ∀ H : Heap, h.Ext H → (h.set b (.cells ((cc m r).map cI) .ex 1)).Ext H := fun H e => by rw [hsame]; exact e
  by_cases k : r.kd = 1
  · have kr := kd_rule k
    simp [c111, hmX, apart, kr]
    refine (idle_ok m r b h hm0 hs).mono ?_
    rintro v1 h ⟨rfl, e⟩
    subst e
    by_cases hi : idleB m r = true
    · have hres : slotM m r = (m.set r.sl ⟨1, 0, 0⟩, true) := by simp [slotM, k, hi]
      rw [hres]
      simp [hi, aun]
      refine (set_ok m r b ⟨1, 0, 0⟩ _ hm0 hs).mono ?_
      rintro v2 h3 e
      subst e
      simp
      exact eset _ _ hext
    · have hi' : idleB m r = false := by simpa using hi
      have hres : slotM m r = (m, false) := by simp [slotM, k, hi']
      rw [hres]
      simp [hi', aun]
      exact esame _ hext
  by_cases k2 : r.kd = 2
  · have kr := kd_rule k2
    simp [c111, hmX, apart, kr, afill, mcells]
    refine (is_ok m r b [1] _ _ (lies_push hcl hm0 _) hs (sl_new _ [1]) (by simp)).mono ?_
    rintro v1 h2 ⟨rfl, e⟩
    subst e
    have hmX := lies_push hcl hm0 (.cells [.int .i64 1] .ex 1)
    have hmX0 := hmX
    simp only [Lies, cc, Mt.l, Rc.l, List.cons_append, List.nil_append, List.map_cons, List.map_nil] at hmX
    have hext : h.Ext (h.push (.cells [.int .i64 1] .ex 1)) := (Heap.Ext.refl h).push hcl _
    by_cases h2 : (m.get r.sl).st = 1
    · have hres : slotM m r = (m.set r.sl ⟨2, r.va, 0⟩, true) := by simp [slotM, k2, h2]
      rw [hres]
      simp [h2, aun, hmX, apart]
      refine (set_ok m r b ⟨2, r.va, 0⟩ _ hmX0 hs).mono ?_
      rintro v2 h3 e
      subst e
      simp
      exact eset _ _ hext
    · have hres : slotM m r = (m, false) := by simp [slotM, k2, h2]
      rw [hres]
      simp [h2, aun]
      exact esame _ hext
  by_cases k3 : r.kd = 3
  · have kr := kd_rule k3
    simp [c111, hmX, apart, kr]
    refine (try_ok m r b h hm0 hs).mono ?_
    rintro v1 h2 ⟨rfl, e⟩
    subst e
    have hres : slotM m r = tryM m r := by simp [slotM, k3]
    rw [hres]
    simp
    exact eset _ _ hext
  by_cases k4 : r.kd = 4
  · have kr := kd_rule k4
    simp [c111, hmX, apart, kr]
    refine (conf_ok m r b h hm0 hs).mono ?_
    rintro v1 h2 ⟨rfl, e⟩
    subst e
    have hres : slotM m r = confM m r := by simp [slotM, k4]
    rw [hres]
    simp
    exact eset _ _ hext
  by_cases k5 : r.kd = 5
  · have kr := kd_rule k5
    by_cases h0 : r.sl = 0
    · have d0 : decide (r.sl = 0) = true := decide_eq_true h0
      have hres : slotM m r = (m, false) := by simp [slotM, k5, h0]
      rw [hres]
      simp [c111, hmX, apart, kr, d0]
      exact esame _ hext
    have d0 : decide (r.sl = 0) = false := decide_eq_false h0
    simp [c111, hmX, apart, kr, d0, afill, mcells]
    refine (is_ok m r b [0] _ _ (lies_push hcl hm0 _) hs (sl_new _ [0]) (by simp)).mono ?_
    rintro v1 h2 ⟨rfl, e⟩
    subst e
    have hmX := lies_push hcl hm0 (.cells [.int .i64 0] .ex 1)
    have hmX0 := hmX
    simp only [Lies, cc, Mt.l, Rc.l, List.cons_append, List.nil_append, List.map_cons, List.map_nil] at hmX
    have hext : h.Ext (h.push (.cells [.int .i64 0] .ex 1)) := (Heap.Ext.refl h).push hcl _
    by_cases h2 : (m.get r.sl).st = 0
    · have hres : slotM m r = (m, false) := by simp [slotM, k5, h2]
      rw [hres]
      simp [h2]
      exact esame _ hext
    · have hres : slotM m r = (badM m r.sl, true) := by simp [slotM, k5, h2, h0]
      rw [hres]
      simp [h2, hmX, apart]
      refine (bad_ok m r b r.sl _ hmX0 hs).mono ?_
      rintro v2 h3 e
      subst e
      simp
      exact eset _ _ hext
  by_cases k6 : r.kd = 6
  · have kr := kd_rule k6
    simp [c111, hmX, apart, kr]
    refine (idle_ok m r b h hm0 hs).mono ?_
    rintro v1 h ⟨rfl, e⟩
    subst e
    by_cases hi : idleB m r = true
    · have hres : slotM m r = (m.set r.sl ⟨0, 0, 0⟩, true) := by simp [slotM, k6, hi]
      rw [hres]
      simp [hi, aun]
      refine (set_ok m r b ⟨0, 0, 0⟩ _ hm0 hs).mono ?_
      rintro v2 h3 e
      subst e
      simp
      exact eset _ _ hext
    · have hi' : idleB m r = false := by simpa using hi
      have hres : slotM m r = (m, false) := by simp [slotM, k6, hi']
      rw [hres]
      simp [hi', aun]
      exact esame _ hext
  by_cases k7 : r.kd = 7
  · have kr := kd_rule k7
    simp [c111, hmX, apart, kr]
    refine (act_ok m r b h hm0 hs).mono ?_
    rintro v1 h2 ⟨rfl, e⟩
    subst e
    have hres : slotM m r = actM m r := by simp [slotM, k7]
    rw [hres]
    simp
    exact eset _ _ hext
  by_cases k13 : r.kd = 13
  · have kr := kd_rule k13
    simp [c111, hmX, apart, kr]
    refine (drop_ok m r b h hm0 hs).mono ?_
    rintro v1 h2 ⟨rfl, e⟩
    subst e
    have hres : slotM m r = dropM m r := by simp [slotM, k13]
    rw [hres]
    simp
    exact eset _ _ hext
  by_cases k12 : r.kd = 12
  · have kr := kd_rule k12
    by_cases h0 : r.sl = 0
    · have d0 : decide (r.sl = 0) = true := decide_eq_true h0
      have hres : slotM m r = (m, false) := by simp [slotM, k12, h0]
      rw [hres]
      simp [c111, hmX, apart, kr, d0]
      exact esame _ hext
    have d0 : decide (r.sl = 0) = false := decide_eq_false h0
    simp [c111, hmX, apart, kr, d0, afill, mcells]
    refine (is_ok m r b [5, 1] _ _ (lies_push hcl hm0 _) hs (sl_new _ [5, 1]) (by simp)).mono ?_
    rintro v1 h2 ⟨rfl, e⟩
    subst e
    have hmX := lies_push hcl hm0 (.cells [.int .i64 5, .int .i64 1] .ex 1)
    have hmX0 := hmX
    simp only [Lies, cc, Mt.l, Rc.l, List.cons_append, List.nil_append, List.map_cons, List.map_nil] at hmX
    have hext : h.Ext (h.push (.cells [.int .i64 5, .int .i64 1] .ex 1)) := (Heap.Ext.refl h).push hcl _
    by_cases h2 : (m.get r.sl).st = 5 ∨ (m.get r.sl).st = 1
    · have hd : decide ((m.get r.sl).st ∈ [(5 : Int), 1]) = true := by simpa using h2
      have hres : slotM m r = (m.set r.sl ⟨4, r.va, 0⟩, true) := by
        have : ¬ (r.sl = 0 ∨ ((m.get r.sl).st ≠ 5 ∧ (m.get r.sl).st ≠ 1)) := by rintro (q | ⟨q1, q2⟩); exact h0 q; rcases h2 with q | q; exact q1 q; exact q2 q
        simp only [slotM, k12]
        rw [if_neg this]
        simp
      rw [hres, hd]
      simp [aun, hmX, apart]
      refine (set_ok m r b ⟨4, r.va, 0⟩ _ hmX0 hs).mono ?_
      rintro v2 h3 e
      subst e
      simp
      exact eset _ _ hext
    · have hd : decide ((m.get r.sl).st ∈ [(5 : Int), 1]) = false := by simpa using h2
      have hres : slotM m r = (m, false) := by
        have : r.sl = 0 ∨ ((m.get r.sl).st ≠ 5 ∧ (m.get r.sl).st ≠ 1) := .inr ⟨fun q => h2 (.inl q), fun q => h2 (.inr q)⟩
        simp only [slotM, k12]
        rw [if_pos this]
        simp
      rw [hres, hd]
      simp [aun]
      exact esame _ hext
  simp [c111, hmX, apart, k, k2, k3, k4, k5, k6, k7, k13, k12]
  refine (told_ok m r b h hm0 hs hk).mono ?_
  rintro v1 h2 ⟨rfl, e⟩
  subst e
  have hres : slotM m r = toldM m r := by simp [slotM, k, k2, k3, k4, k5, k6, k7, k13, k12]
  rw [hres]
  simp
  exact eset _ _ hext

theorem win_ok (n k : Int) (h : Heap) : ACalls Tryz.prog 135 [.int .i64 n, .int .i64 k] h fun v h' => v = .bool (decide (0 ≤ n) && decide (n ≤ k)) ∧ h' = h := by
  refine acalls_of mix Tryz.func135 k135 n135 (by simp) fun hcl hb => ?_
  by_cases h0 : 0 ≤ n
  · simp [c135, h0]
  · simp [c135, h0]
def recR (r : Rc) : Bool := (decide (0 ≤ r.kd) && decide (r.kd ≤ 127)) && ((decide (0 ≤ r.sl) && decide (r.sl ≤ 3)) && ((decide (0 ≤ r.no) && decide (r.no ≤ 65535)) && (decide (0 ≤ r.va) && decide (r.va ≤ 281474976710655))))
theorem recR_ok (r : Rc) (h : Heap) : ACalls Tryz.prog 108 [rv r] h fun v h' => v = .bool (recR r) ∧ h' = h := by
  refine ACalls.same .bool (acalls_of mix Tryz.func108 k108 n108 (by simp) fun hcl hb => ?_)
  have hext := (Heap.Ext.refl h).push hcl (.cells [.int .i64 r.kd, .int .i64 r.sl, .int .i64 r.no, .int .i64 r.va] .ex 1)
  simp [c108, rv, Rc.l, mcells, cellsOf_new, apart]
  refine (win_ok _ _ _).mono ?_
  rintro v1 h1 ⟨rfl, e⟩
  subst e
  generalize hA : (decide (0 ≤ r.kd) && decide (r.kd ≤ 127)) = A
  cases A
  · simp [recR, hA]; exact hext
  simp [cellsOf_new, apart]
  refine (win_ok _ _ _).mono ?_
  rintro v1 h1 ⟨rfl, e⟩
  subst e
  generalize hB : (decide (0 ≤ r.sl) && decide (r.sl ≤ 3)) = B
  cases B
  · simp [recR, hA, hB]; exact hext
  simp [cellsOf_new, apart]
  refine (win_ok _ _ _).mono ?_
  rintro v1 h1 ⟨rfl, e⟩
  subst e
  generalize hC : (decide (0 ≤ r.no) && decide (r.no ≤ 65535)) = C
  cases C
  · simp [recR, hA, hB, hC]; exact hext
  simp [cellsOf_new, apart]
  refine (win_ok _ _ _).mono ?_
  rintro v1 h1 ⟨rfl, e⟩
  subst e
  simp [recR, hA, hB, hC]
  exact hext
def speaksB (k : Int) : Bool := (decide (1 ≤ k) && decide (k ≤ 7)) || (decide (100 ≤ k) && decide (k ≤ 105)) || decide (k ∈ [(12 : Int), 13, 110, 111])
def othersB (k : Int) : Bool := decide (k ∈ [(8 : Int), 9, 10, 11])
theorem speaks_ok (k : Int) (h : Heap) : ACalls Tryz.prog 109 [.int .i64 k] h fun v h' => v = .bool (speaksB k) ∧ h' = h := by
  refine ACalls.same .bool (acalls_of mix Tryz.func109 k109 n109 (by simp) fun hcl hb => ?_)
  have fin : (decide (1 ≤ k) && decide (k ≤ 7)) = false → (decide (100 ≤ k) && decide (k ≤ 105)) = false → ∀ H, h.Ext H → ACalls Tryz.prog 107 [.slice (some ⟨H.n, 0, none⟩) 4 4, .int .i64 k] (H.push (.cells [cI 12, cI 13, cI 110, cI 111] .ex 1)) fun v h' => v = .bool (speaksB k) ∧ h.Ext h' := by
    intro a1 a2 H e
    refine (has_ok [12, 13, 110, 111] k _ _ (sl_new H [12, 13, 110, 111]) (by simp)).mono ?_
    rintro v1 h1 ⟨rfl, e'⟩
    subst e'
    exact ⟨by rw [speaksB, a1, a2]; rfl, e.push hcl _⟩
  by_cases h1 : 1 ≤ k
  · by_cases h7 : k ≤ 7
    · simp [c109, h1, h7, speaksB]; exact Heap.Ext.refl h
    · by_cases h100 : 100 ≤ k
      · by_cases h105 : k ≤ 105
        · simp [c109, h1, h7, h100, h105, speaksB]; exact Heap.Ext.refl h
        · simp [c109, h1, h7, h100, h105, afill, mcells]
          refine (fin (by simp [h7]) (by simp [h105]) h (.refl h)).mono ?_
          rintro v1 h2 ⟨rfl, e⟩
          simp; exact e
      · simp [c109, h1, h7, h100, afill, mcells]
        refine (fin (by simp [h7]) (by simp [h100]) h (.refl h)).mono ?_
        rintro v1 h2 ⟨rfl, e⟩
        simp; exact e
  · have h100 : ¬ 100 ≤ k := by omega
    simp [c109, h1, h100, afill, mcells]
    refine (fin (by simp [h1]) (by simp [h100]) h (.refl h)).mono ?_
    rintro v1 h2 ⟨rfl, e⟩
    simp; exact e

theorem cellsOf_set_ne {h : Heap} {o : AObj} {b b' : Nat} (hb : ¬ b' = b) : (h.set b o).cellsOf b' = h.cellsOf b' := by
  unfold Heap.cellsOf
  rw [set_m, if_neg hb]
theorem set_push' (h : Heap) (o o' : AObj) : (h.push o).set h.n o' = h.push o' := by
  unfold Heap.set Heap.push
  congr 1
  funext b
  by_cases hb : b = h.n
  · simp [hb]
  · simp [hb]
def m0 : Mt := ⟨⟨4, 0, 0⟩, ⟨0, 0, 0⟩, ⟨0, 0, 0⟩, 0, 0, 0, 0⟩
theorem mv_below {n : Nat} (m : Mt) : VBelow n (mv m) := .agg fun i hi => by
  simp only [mv, Mt.l, List.map_cons, List.map_nil] at hi ⊢
  match i, hi with
  | 0, _ => exact .int
  | 1, _ => exact .int
  | 2, _ => exact .int
  | 3, _ => exact .int
  | 4, _ => exact .int
  | 5, _ => exact .int
  | 6, _ => exact .int
  | 7, _ => exact .int
  | 8, _ => exact .int
  | 9, _ => exact .int
  | 10, _ => exact .int
  | 11, _ => exact .int
  | 12, _ => exact .int
theorem cellsOf_at {h : Heap} {b : Nat} (hb : b = h.n) (c : List Value) (m : BMode) (e : Nat) : (h.push (.cells c m e)).cellsOf b = some (c, m, e) := by rw [hb]; exact cellsOf_new _ _ _ _
theorem set_at {h : Heap} {b : Nat} (hb : b = h.n) (o o' : AObj) : (h.push o).set b o' = h.push o' := by rw [hb]; exact set_push' _ _ _
theorem new_ok (h : Heap) : ACalls Tryz.prog 77 [] h fun v h' => v = mv m0 ∧ h' = h := by
  refine ACalls.same (mv_below _) (acalls_ofR mix Tryz.func77 k77 n77 (by simp) fun hcl hb => ?_)
  have i0 : aidx (.int .i64 0) 3 = some 0 := rfl
  simp [c77, i0, cellsOf_at, mcells, aput, set_at, push_set, cellsOf_ne, apart, acut]
  exact ⟨rfl, ((Heap.Ext.refl h).push hcl _).push hcl _⟩
theorem ext5 {h : Heap} (hcl : h.Closed) (a b c d e : AObj) : h.Ext (((((h.push a).push b).push c).push d).push e) := (((((Heap.Ext.refl h).push hcl _).push hcl _).push hcl _).push hcl _).push hcl _
def doM (m : Mt) (r : Rc) : Mt × Int := if recR r = false ∨ (speaksB r.kd = false ∧ othersB r.kd = false) ∨ (speaksB r.kd = true ∧ 3 ≤ r.sl) then (m, 1) else
  if othersB r.kd = true then (if (otherM m r).2 = true then ((otherM m r).1, 0) else (m, 10)) else if (slotM m r).2 = true then ((slotM m r).1, 0) else (m, 10)
theorem recR_prop {r : Rc} (h : recR r = true) : (0 ≤ r.kd ∧ r.kd ≤ 127) ∧ (0 ≤ r.sl ∧ r.sl ≤ 3) ∧ (0 ≤ r.no ∧ r.no ≤ 65535) ∧ (0 ≤ r.va ∧ r.va ≤ 281474976710655) := by
  simpa [recR] using h
theorem do_ok (m : Mt) (r : Rc) (h : Heap) : ACalls Tryz.prog 78 [mv m, rv r] h fun v h' => v = .tuple #[mv (doM m r).1, cI (doM m r).2] ∧ h' = h := by
  refine ACalls.same (vb_tuple2 (mv_below _) .int) (acalls_ofR mix Tryz.func78 k78 n78 (by simp) fun hcl hb => ?_)
  have hrec : ∀ H, ACalls Tryz.prog 108 [.agg #[cI r.kd, cI r.sl, cI r.no, cI r.va]] H fun v h' => v = .bool (recR r) ∧ h' = H := recR_ok r
  simp [c78, mv, rv, Mt.l, Rc.l, mcells, cellsOf_ne, cellsOf_at, apart, acut, afill]
  refine (has_ok [8, 9, 10, 11] r.kd _ _ (sl_new _ [8, 9, 10, 11]) (by simp)).mono ?_
  rintro v1 h1 ⟨rfl, e⟩
  subst e
  have hoth : decide (r.kd ∈ [(8 : Int), 9, 10, 11]) = othersB r.kd := rfl
  rw [hoth]
  simp [cellsOf_ne, cellsOf_at, apart, acut]
  refine (hrec _).mono ?_
  rintro v1 h1 ⟨rfl, e⟩
  subst e
  have lies : ∀ o, Lies (((((h.push (.cells [cI m.s0.st, cI m.s0.ve, cI m.s0.ba, cI m.s1.st, cI m.s1.ve, cI m.s1.ba, cI m.s2.st, cI m.s2.ve, cI m.s2.ba, cI m.act, cI m.fl, cI m.cu, cI m.it] .ex 1)).push (.cells [cI r.kd, cI r.sl, cI r.no, cI r.va] .ex 1)).push (.cells [cI 0, cI 0, cI 0, cI 0, cI 0, cI 0, cI 0, cI 0, cI 0, cI 0, cI 0, cI 0, cI 0] .ex 1)).push (.cells ((cc m r).map cI) .ex 1)).push o) (h.n + 1 + 1 + 1) m r := fun o => by
    simp [Lies, cellsOf_ne, cellsOf_at]
  by_cases hR : recR r = true
  case neg =>
    have hR' : recR r = false := by simpa using hR
    have hres : doM m r = (m, 1) := by unfold doM; rw [if_pos (.inl hR')]
    rw [hres]
    simp [hR', aun, cellsOf_ne, cellsOf_at, apart, acut, mcells, aput, set_at, push_set]
    exact ext5 hcl _ _ _ _ _
  have hp := recR_prop hR
  simp [hR, aun, cellsOf_ne, cellsOf_at, apart, acut]
  refine (speaks_ok r.kd _).mono ?_
  rintro v1 h1 ⟨rfl, e⟩
  subst e
  by_cases hS : speaksB r.kd = true
  · by_cases h3 : 3 ≤ r.sl
    · have hres : doM m r = (m, 1) := by unfold doM; rw [if_pos (.inr (.inr ⟨hS, h3⟩))]
      rw [hres]
      simp [hS, aun, cellsOf_ne, cellsOf_at, apart, acut]
      refine (speaks_ok r.kd _).mono ?_
      rintro v1 h1 ⟨rfl, e⟩
      subst e
      simp [hS, h3, aun, cellsOf_ne, cellsOf_at, apart, acut, mcells, aput, set_at, push_set]
      exact ext5 hcl _ _ _ _ _
    · have hnot : ¬ (recR r = false ∨ (speaksB r.kd = false ∧ othersB r.kd = false) ∨ (speaksB r.kd = true ∧ 3 ≤ r.sl)) := by
        rw [hR, hS]; simp; omega
      simp [hS, aun, cellsOf_ne, cellsOf_at, apart, acut]
      refine (speaks_ok r.kd _).mono ?_
      rintro v1 h1 ⟨rfl, e⟩
      subst e
      by_cases hO : othersB r.kd = true
      · simp [hS, h3, hO, aun, cellsOf_ne, cellsOf_at, apart, acut]
        refine (other_ok m r _ _ (lies _)).mono ?_
        rintro v1 h1 ⟨rfl, e⟩
        subst e
        unfold heapOf
        have hl2 : (cc (otherM m r).1 r).map cI = [cI (otherM m r).1.s0.st, cI (otherM m r).1.s0.ve, cI (otherM m r).1.s0.ba, cI (otherM m r).1.s1.st, cI (otherM m r).1.s1.ve, cI (otherM m r).1.s1.ba, cI (otherM m r).1.s2.st, cI (otherM m r).1.s2.ve, cI (otherM m r).1.s2.ba, cI (otherM m r).1.act, cI (otherM m r).1.fl, cI (otherM m r).1.cu, cI (otherM m r).1.it, cI r.kd, cI r.sl, cI r.no, cI r.va] := rfl
        rw [hl2]
        by_cases hok : (otherM m r).2 = true
        · have hres : doM m r = ((otherM m r).1, 0) := by unfold doM; rw [if_neg hnot, if_pos hO, if_pos hok]
          rw [hres]
          simp [hok, aun, cellsOf_ne, cellsOf_at, apart, acut, mcells, aput, set_at, push_set]
          exact ext5 hcl _ _ _ _ _
        · have hok' : (otherM m r).2 = false := by simpa using hok
          have hres : doM m r = (m, 10) := by unfold doM; rw [if_neg hnot, if_pos hO, if_neg hok]
          rw [hres]
          simp [hok', aun, cellsOf_ne, cellsOf_at, apart, acut, mcells, aput, set_at, push_set]
          exact ext5 hcl _ _ _ _ _
      · have hO' : othersB r.kd = false := by simpa using hO
        simp [hS, h3, hO', aun, cellsOf_ne, cellsOf_at, apart, acut]
        refine (slot_ok m r _ _ (lies _) (by omega) hp.1).mono ?_
        rintro v1 h1 ⟨rfl, e⟩
        subst e
        unfold heapOf
        have hl2 : (cc (slotM m r).1 r).map cI = [cI (slotM m r).1.s0.st, cI (slotM m r).1.s0.ve, cI (slotM m r).1.s0.ba, cI (slotM m r).1.s1.st, cI (slotM m r).1.s1.ve, cI (slotM m r).1.s1.ba, cI (slotM m r).1.s2.st, cI (slotM m r).1.s2.ve, cI (slotM m r).1.s2.ba, cI (slotM m r).1.act, cI (slotM m r).1.fl, cI (slotM m r).1.cu, cI (slotM m r).1.it, cI r.kd, cI r.sl, cI r.no, cI r.va] := rfl
        rw [hl2]
        by_cases hok : (slotM m r).2 = true
        · have hres : doM m r = ((slotM m r).1, 0) := by unfold doM; rw [if_neg hnot, if_neg (by rw [hO']; decide), if_pos hok]
          rw [hres]
          simp [hok, aun, cellsOf_ne, cellsOf_at, apart, acut, mcells, aput, set_at, push_set]
          exact ext5 hcl _ _ _ _ _
        · have hok' : (slotM m r).2 = false := by simpa using hok
          have hres : doM m r = (m, 10) := by unfold doM; rw [if_neg hnot, if_neg (by rw [hO']; decide), if_neg hok]
          rw [hres]
          simp [hok', aun, cellsOf_ne, cellsOf_at, apart, acut, mcells, aput, set_at, push_set]
          exact ext5 hcl _ _ _ _ _
  · have hS' : speaksB r.kd = false := by simpa using hS
    by_cases hO : othersB r.kd = true
    · have hnot : ¬ (recR r = false ∨ (speaksB r.kd = false ∧ othersB r.kd = false) ∨ (speaksB r.kd = true ∧ 3 ≤ r.sl)) := by
        rw [hR, hS', hO]; simp
      simp [hS', hO, aun, cellsOf_ne, cellsOf_at, apart, acut]
      refine (speaks_ok r.kd _).mono ?_
      rintro v1 h1 ⟨rfl, e⟩
      subst e
      simp [hS', hO, aun, cellsOf_ne, cellsOf_at, apart, acut]
      refine (other_ok m r _ _ (lies _)).mono ?_
      rintro v1 h1 ⟨rfl, e⟩
      subst e
      unfold heapOf
      have hl2 : (cc (otherM m r).1 r).map cI = [cI (otherM m r).1.s0.st, cI (otherM m r).1.s0.ve, cI (otherM m r).1.s0.ba, cI (otherM m r).1.s1.st, cI (otherM m r).1.s1.ve, cI (otherM m r).1.s1.ba, cI (otherM m r).1.s2.st, cI (otherM m r).1.s2.ve, cI (otherM m r).1.s2.ba, cI (otherM m r).1.act, cI (otherM m r).1.fl, cI (otherM m r).1.cu, cI (otherM m r).1.it, cI r.kd, cI r.sl, cI r.no, cI r.va] := rfl
      rw [hl2]
      by_cases hok : (otherM m r).2 = true
      · have hres : doM m r = ((otherM m r).1, 0) := by unfold doM; rw [if_neg hnot, if_pos hO, if_pos hok]
        rw [hres]
        simp [hok, aun, cellsOf_ne, cellsOf_at, apart, acut, mcells, aput, set_at, push_set]
        exact ext5 hcl _ _ _ _ _
      · have hok' : (otherM m r).2 = false := by simpa using hok
        have hres : doM m r = (m, 10) := by unfold doM; rw [if_neg hnot, if_pos hO, if_neg hok]
        rw [hres]
        simp [hok', aun, cellsOf_ne, cellsOf_at, apart, acut, mcells, aput, set_at, push_set]
        exact ext5 hcl _ _ _ _ _
    · have hO' : othersB r.kd = false := by simpa using hO
      have hres : doM m r = (m, 1) := by unfold doM; rw [if_pos (.inr (.inl ⟨hS', hO'⟩))]
      rw [hres]
      simp [hS', hO', aun, cellsOf_ne, cellsOf_at, apart, acut, mcells, aput, set_at, push_set]
      exact ext5 hcl _ _ _ _ _

def SlR (h : Heap) (v : Value) (l : List Rc) : Prop :=
  (∃ c, v = .slice none 0 c ∧ l = []) ∨ ∃ b o cap c m e, v = .slice (some ⟨b, o, none⟩) l.length cap ∧ h.cellsOf b = some (c, m, e) ∧ ∀ i (hi : i < l.length), acut c (o + i * 4) 4 = some (l[i].l.map cI)
theorem SlR.form {h : Heap} {v : Value} {l : List Rc} (s : SlR h v l) : ∃ a c, v = .slice a l.length c := by
  rcases s with ⟨c, rfl, rfl⟩ | ⟨b, o, cap, c, m, e, rfl, _⟩
  · exact ⟨_, _, rfl⟩
  · exact ⟨_, _, rfl⟩
theorem SlR.at {h : Heap} {a : Option Addr} {n c : Nat} {l : List Rc} (s : SlR h (.slice a n c) l) {i : Nat} (hi : i < l.length) :
    ∃ b o cs m e, a = some ⟨b, o, none⟩ ∧ n = l.length ∧ h.cellsOf b = some (cs, m, e) ∧ acut cs (o + i * 4) 4 = some (l[i].l.map cI) := by
  rcases s with ⟨c, h1, rfl⟩ | ⟨b, o, cap, c, m, e, h1, h2, h5⟩
  · simp at hi
  · cases h1
    exact ⟨b, o, c, m, e, rfl, rfl, h2, h5 i hi⟩
theorem SlR.below {h : Heap} {v : Value} {l : List Rc} (s : SlR h v l) (hc : h.Closed) : VBelow h.n v := by
  rcases s with ⟨c, rfl, rfl⟩ | ⟨b, o, cap, c, m, e, rfl, h2, h5⟩
  · exact .snil
  · exact .slice (cellsOf_lt hc h2)
def zeroM : Mt := ⟨⟨0, 0, 0⟩, ⟨0, 0, 0⟩, ⟨0, 0, 0⟩, 0, 0, 0, 0⟩
def allF : List Rc → Mt → Mt × Int
  | [], m => (m, 0)
  | r :: rs, m => if (doM m r).2 = 0 then allF rs (doM m r).1 else (zeroM, (doM m r).2)
theorem allF_drop {l : List Rc} {i : Nat} (hi : i < l.length) (m : Mt) : allF (l.drop i) m = if (doM m l[i]).2 = 0 then allF (l.drop (i + 1)) (doM m l[i]).1 else (zeroM, (doM m l[i]).2) := by
  rw [List.drop_eq_getElem_cons hi]
  rfl
theorem all_ok (l : List Rc) (v : Value) (h : Heap) (hl : SlR h v l) (hn : l.length ≤ 100000) :
    ACalls Tryz.prog 39 [v] h fun x h' => x = .tuple #[mv (allF l m0).1, cI (allF l m0).2] ∧ h' = h := by
  refine ACalls.same (vb_tuple2 (mv_below _) .int) (acalls_ofR mix Tryz.func39 k39 n39 (by simp) fun hcl hb => ?_)
  have bl := hl.below hcl
  obtain ⟨a, c, rfl⟩ := hl.form
  simp [c39]
  refine (new_ok _).mono ?_
  rintro v1 h1 ⟨rfl, e⟩
  subst e
  have hmv : mcells (mv m0) = some (m0.l.map cI) := rfl
  simp [hmv, cellsOf_at, cellsOf_ne, aput, set_at, push_set]
  have hZc : (h.push (.cells [cI 0, cI 0, cI 0, cI 0, cI 0, cI 0, cI 0, cI 0, cI 0, cI 0, cI 0, cI 0, cI 0] .ex 1)).Closed := closed_push hcl (fun x hx => by
    simp at hx; rw [hx]; exact .int)
  have hcM : ∀ m : Mt, ((h.push (.cells [cI 0, cI 0, cI 0, cI 0, cI 0, cI 0, cI 0, cI 0, cI 0, cI 0, cI 0, cI 0, cI 0] .ex 1)).push (.cells (m.l.map cI) .ex 1)).Closed := fun m => closed_push hZc (fun x hx => by obtain ⟨y, _, rfl⟩ := List.mem_map.1 hx; exact .int)
  generalize hZ : h.push (.cells [cI 0, cI 0, cI 0, cI 0, cI 0, cI 0, cI 0, cI 0, cI 0, cI 0, cI 0, cI 0, cI 0] .ex 1) = HZ at *
  have hZn : HZ.n = h.n + 1 := by rw [← hZ]; rfl
  have hZ0 : HZ.cellsOf h.n = some ([cI 0, cI 0, cI 0, cI 0, cI 0, cI 0, cI 0, cI 0, cI 0, cI 0, cI 0, cI 0, cI 0], .ex, 1) := by rw [← hZ]; exact cellsOf_new _ _ _ _
  have hne : ¬ h.n = HZ.n := by omega
  have hlt0 : h.n < HZ.n := by omega
  have hextZ : h.Ext HZ := by rw [← hZ]; exact (Heap.Ext.refl h).push hcl _
  refine awp_loop_of (α := Nat × Mt) (fun x => x.1 ≤ l.length ∧ allF l m0 = allF (l.drop x.1) x.2) (fun x => [(2, .pointer (some ⟨h.n, 0, none⟩)), (4, .pointer (some ⟨HZ.n, 0, none⟩)), (10, .slice a l.length c), (11, .int .i64 l.length), (12, .int .i64 x.1)])
    (fun x => HZ.push (.cells (x.2.l.map cI) .ex 1)) (fun x => l.length - x.1) (0, m0) ⟨Nat.zero_le _, rfl⟩ ⟨by show h.n ≤ HZ.n + 1; omega, Nat.le_refl _, fun _ _ e => e, hcM m0⟩
    (by simp; exact ⟨.ptr (by show h.n < HZ.n + 1; omega), .ptr (Nat.lt_succ_self _), bl.mono (by omega), .int, .int⟩) ?_
  rintro ⟨i, m⟩ ⟨hi, hall⟩
  dsimp only at hi hall
  have hq : ∀ x : Mt, acut (x.l.map cI) 0 13 = some (x.l.map cI) := fun _ => rfl
  have hq4 : ∀ x : Rc, acut (x.l.map cI) 0 4 = some (x.l.map cI) := fun _ => rfl
  have hm13 : ∀ x : Mt, mcells (.agg (x.l.map cI).toArray) = some (x.l.map cI) := fun _ => rfl
  have hm4 : ∀ x : Rc, mcells (.agg (x.l.map cI).toArray) = some (x.l.map cI) := fun _ => rfl
  have hl13 : ∀ x : Mt, (x.l.map cI).length = 13 := fun _ => rfl
  have hl4 : ∀ x : Rc, (x.l.map cI).length = 4 := fun _ => rfl
  have hmvv : ∀ x : Mt, mv x = .agg (x.l.map cI).toArray := fun _ => rfl
  by_cases hlt : i < l.length
  · obtain ⟨b1, o1, cs1, m1, e1, rfl, _, g1, g1'⟩ := hl.at hlt
    have hb1 := cellsOf_lt hcl g1
    have g1M : (HZ.push (.cells (m.l.map cI) .ex 1)).cellsOf b1 = some (cs1, m1, e1) := cellsOf_push hZc (cellsOf_keep hextZ.m g1)
    rw [allF_drop hlt] at hall
    simp [hlt, aidx_of hlt, g1M, apart, g1', hm4, hl4, cellsOf_at, cellsOf_ne, aput, set_at, push_set, hq, hq4]
    refine (do_ok m l[i] _).mono ?_
    rintro v1 h1 ⟨rfl, e⟩
    subst e
    obtain ⟨M, E⟩ : ∃ x, x = doM m l[i] := ⟨_, rfl⟩
    rw [← E] at hall ⊢
    obtain ⟨M, k⟩ := M
    by_cases hk : k = 0
    · subst hk
      simp at hall
      simp [hmvv, hm13, hl13, cellsOf_at, cellsOf_ne, aput, set_at, push_set, apart, hq]
      refine ⟨i + 1, by omega, M, ⟨by omega, hall⟩, ?_, .ptr (by show h.n < HZ.n + 1; omega), .ptr (Nat.lt_succ_self _), bl.mono (by omega), .int, ?_, .int⟩
      · refine ⟨by show h.n ≤ HZ.n + 1; omega, by show HZ.n + 1 ≤ HZ.n + 1 + 1 + 1; omega, fun x o e => ?_, hcM M⟩
        have := (hcM M x o e).1
        have hx : x < HZ.n + 1 := this
        rw [push_m, if_neg (by show ¬ x = HZ.n + 1 + 1; omega), push_m, if_neg (by show ¬ x = HZ.n + 1; omega)]
        exact e
      · rw [i64_small (by omega) (by omega)]; omega
    · simp [hk] at hall
      have n1 : ¬ h.n = HZ.n + 1 := by omega
      have n2 : ¬ h.n = HZ.n + 1 + 1 := by omega
      have l1 : h.n < HZ.n + 1 := by omega
      have l2 : h.n < HZ.n + 1 + 1 := by omega
      simp [hk, hmvv, hm13, hl13, cellsOf_at, cellsOf_ne, hne, hlt0, hZ0, n1, n2, l1, l2, aput, set_at, push_set, apart, hq, acut, afill, mcells, cellsOf_set, hall]
      exact ⟨rfl, (((Heap.Ext.setNew hextZ hcl (Nat.le_refl _) _).push hcl _).push hcl _).push hcl _⟩
  · have hie : i = l.length := by omega
    subst hie
    rw [List.drop_of_length_le (Nat.le_refl _)] at hall
    have hres : allF l m0 = (m, 0) := hall
    simp [cellsOf_at, cellsOf_ne, hne, hlt0, hZ0, aput, set_at, push_set, apart, hq, hm13, hl13, hmvv, cellsOf_set, hres]
    exact (Heap.Ext.setNew hextZ hcl (Nat.le_refl _) _).push hcl _
def r1 : Rc := ⟨1, 1, 0, 0⟩
def r2 : Rc := ⟨2, 1, 0, 5⟩
def r3 : Rc := ⟨3, 1, 0, 7⟩
def mEx : Mt := ⟨⟨4, 0, 0⟩, ⟨3, 5, 7⟩, ⟨0, 0, 0⟩, 1, 0, 0, 0⟩
theorem ex_all : allF [r1, r2, r3] m0 = (mEx, 0) := by decide
theorem mawake_ok (h : Heap) : ACalls Tryz.prog 16 [] h fun v h' => v = .bool true ∧ h' = h := by
  refine ACalls.same .bool (acalls_of mix Tryz.func16 k16 n16 (by simp) fun hcl hb => ?_)
  have hext := (Heap.Ext.refl h).push hcl (.cells [cI 1, cI 1, cI 0, cI 0, cI 2, cI 1, cI 0, cI 5, cI 3, cI 1, cI 0, cI 7] .ex 1)
  simp [c16, afill, mcells]
  refine (all_ok [r1, r2, r3] _ _ (.inr ⟨h.n, 0, 3, _, _, _, rfl, cellsOf_new _ _ _ _, fun i hi => ?_⟩) (by simp)).mono ?_
  · match i, hi with
    | 0, _ => rfl
    | 1, _ => rfl
    | 2, _ => rfl
  rintro v1 h1 ⟨rfl, e⟩
  subst e
  rw [ex_all]
  have hm13 : mcells (mv mEx) = some (mEx.l.map cI) := rfl
  have hq : acut (mEx.l.map cI) 0 13 = some (mEx.l.map cI) := rfl
  have i1 : aidx (.int .i64 1) 3 = some 1 := rfl
  simp [hm13, cellsOf_at, cellsOf_ne, aput, set_at, push_set, apart]
  have hl : mEx.l = [4, 0, 0, 3, 5, 7, 0, 0, 0, 1, 0, 0, 0] := rfl
  simp [hl, acut, cellsOf_at]
  refine (trial_ok mEx _).mono ?_
  rintro v1 h1 ⟨rfl, e⟩
  subst e
  have ht : trialI mEx = 1 := by decide
  rw [ht]
  have hmx : max (1 : Int) 0 = 1 := by decide
  simp [hmx, i1, cellsOf_at, apart]
  exact hext.push hcl _

theorem fit1_ok (x : Int) (h : Heap) : ACalls Tryz.prog 113 [.int .i64 x] h fun v h' => v = .bool (decide (x < 0) || decide (281474976710655 < x)) ∧ h' = h := by
  refine acalls_of mix Tryz.func113 k113 n113 (by simp) fun hcl hb => ?_
  by_cases h0 : x < 0
  · simp [c113, h0]
  · simp [c113, h0]
theorem ok146 : callOk Tryz.prog 113 = true := by kernel_rfl
def unfit (x : Int) : Bool := decide (x < 0) || decide (281474976710655 < x)
theorem fitx_ok (l : List Int) (v : Value) (h : Heap) (hl : Sl cI h v l) (hn : l.length ≤ 68719476736) :
    ACalls Tryz.prog 145 [v, .func (.func 113) #[] #[]] h fun r h' => (∃ k, r = .int .i64 k ∧ (0 ≤ k ↔ ∃ x ∈ l, unfit x = true)) ∧ h' = h := by
  refine acalls_of mix Tryz.func145 k145 n145 (by simp) fun hcl hb => ?_
  have bl := hl.below hcl
  obtain ⟨a, c, rfl⟩ := hl.form
  simp [c145]
  refine awp_loop_of (α := Nat) (fun i => i ≤ l.length ∧ ∀ x ∈ l.take i, unfit x = false) (fun i => [(0, .slice a l.length c), (1, .func (.func 113) #[] #[]), (7, .int .i64 l.length), (8, .int .i64 i)]) (fun _ => h) (fun i => l.length - i) 0
    ⟨Nat.zero_le _, by simp⟩ (Heap.Sub.refl hcl) (by simp; exact ⟨bl, by exact hb _ (by simp), .int, .int⟩) ?_
  rintro i ⟨hil, hany⟩
  by_cases hlt : i < l.length
  · obtain ⟨b1, o1, cs1, m1, e1, rfl, _, g1, g1'⟩ := hl.at hlt
    simp [hlt, aidx_of hlt, g1, apart, g1', ok146]
    refine (fit1_ok _ _).mono ?_
    rintro v1 h1 ⟨rfl, e⟩
    subst e
    by_cases w : unfit l[i] = true
    · have w' := w
      unfold unfit at w'
      simp [w']
      exact ⟨l[i], List.getElem_mem hlt, w⟩
    · have w' : unfit l[i] = false := by simpa using w
      have w2 := w'
      unfold unfit at w2
      simp [w2]
      refine ⟨i + 1, by omega, ⟨by omega, ?_⟩, Heap.Sub.refl hcl, bl, by exact hb _ (by simp), .int, ?_, .int⟩
      · intro x hx
        rw [List.take_succ_eq_append_getElem hlt] at hx
        rcases List.mem_append.1 hx with hx | hx
        · exact hany x hx
        · rw [List.mem_singleton.1 hx]; exact w'
      · rw [i64_small (by omega) (by omega)]; omega
  · have : i = l.length := by omega
    subst this
    rw [List.take_of_length_le (by omega)] at hany
    simp
    intro x hx
    exact hany x hx
theorem fits_ok (a b c : Int) (v : Value) (h : Heap) (hl : Sl cI h v [a, b, c]) :
    ACalls Tryz.prog 81 [v] h fun r h' => r = .bool (!(unfit a || unfit b || unfit c)) ∧ h' = h := by
  refine acalls_of mix Tryz.func81 k81 n81 (by simp) fun hcl hb => ?_
  have hcont : ACalls Tryz.prog 112 [v, .func (.func 113) #[] #[]] h fun r h' => r = .bool (unfit a || unfit b || unfit c) ∧ h' = h := by
    refine acalls_of mix Tryz.func112 k112 n112 (by simp) fun hcl hb => ?_
    simp [c112]
    refine (fitx_ok [a, b, c] v h hl (by simp)).mono ?_
    rintro v1 h1 ⟨⟨k, rfl, hk⟩, e⟩
    subst e
    simp
    rw [Bool.eq_iff_iff, decide_eq_true_eq, hk]
    simp [or_assoc]
  simp [c81]
  refine hcont.mono ?_
  rintro v1 h1 ⟨rfl, e⟩
  subst e
  simp [aun]
def SlotP (x : S3) : Prop := (0 ≤ x.st ∧ x.st ≤ 5) ∧ (0 ≤ x.ve ∧ x.ve ≤ 281474976710655) ∧ (0 ≤ x.ba ∧ x.ba ≤ 512) ∧ (x.ba ≠ 0 → x.st = 3) ∧ ((x.st = 0 ∨ x.st = 1 ∨ x.st = 5) → x.ve = 0)
instance (x : S3) : Decidable (SlotP x) := by unfold SlotP; infer_instance
theorem right3_ok (x : S3) (h : Heap) : ACalls Tryz.prog 82 [.agg #[.int .i64 x.st, .int .i64 x.ve, .int .i64 x.ba]] h fun v h' => v = .bool (decide (SlotP x)) ∧ h' = h := by
  refine ACalls.same .bool (acalls_of mix Tryz.func82 k82 n82 (by simp) fun hcl hb => ?_)
  have hext := ((Heap.Ext.refl h).push hcl (.cells [cI x.st, cI x.ve, cI x.ba] .ex 1)).push hcl (.cells [cI 0, cI 1, cI 5] .ex 1)
  simp [c82, mcells, afill, cellsOf_at, cellsOf_ne, apart]
  refine (has_ok [0, 1, 5] x.st _ _ (sl_new _ [0, 1, 5]) (by simp)).mono ?_
  rintro v1 h1 ⟨rfl, e⟩
  subst e
  generalize hN : decide (x.st ∈ [(0 : Int), 1, 5]) = none_
  by_cases h1 : x.st < 0
  · have : ¬ SlotP x := fun q => by have := q.1.1; omega
    simp [h1, this, cellsOf_at, cellsOf_ne, apart]; exact hext
  by_cases h2 : 5 < x.st
  · have : ¬ SlotP x := fun q => by have := q.1.2; omega
    simp [h1, h2, this, cellsOf_at, cellsOf_ne, apart]; exact hext
  by_cases h3 : x.ve < 0
  · have : ¬ SlotP x := fun q => by have := q.2.1.1; omega
    simp [h1, h2, h3, this, cellsOf_at, cellsOf_ne, apart]; exact hext
  by_cases h4 : 281474976710655 < x.ve
  · have : ¬ SlotP x := fun q => by have := q.2.1.2; omega
    simp [h1, h2, h3, h4, this, cellsOf_at, cellsOf_ne, apart]; exact hext
  by_cases h5 : x.ba < 0
  · have : ¬ SlotP x := fun q => by have := q.2.2.1.1; omega
    simp [h1, h2, h3, h4, h5, this, cellsOf_at, cellsOf_ne, apart]; exact hext
  by_cases h6 : 512 < x.ba
  · have : ¬ SlotP x := fun q => by have := q.2.2.1.2; omega
    simp [h1, h2, h3, h4, h5, h6, this, cellsOf_at, cellsOf_ne, apart]; exact hext
  have key : none_ = true ↔ (x.st = 0 ∨ x.st = 1 ∨ x.st = 5) := by rw [← hN]; simp
  have fin : ∀ (hb : x.ba ≠ 0 → x.st = 3), decide (SlotP x) = (!none_ || decide (x.ve = 0)) := fun hb => by
    rw [Bool.eq_iff_iff]
    simp only [decide_eq_true_eq, Bool.or_eq_true, Bool.not_eq_true']
    constructor
    · intro q
      cases none_ with
      | true => exact .inr (q.2.2.2.2 (key.1 rfl))
      | false => exact .inl rfl
    · intro q
      refine ⟨by omega, by omega, by omega, hb, fun q2 => ?_⟩
      rcases q with q | q
      · rw [key.2 q2] at q; cases q
      · exact q
  have d1 : decide (x.st < 0) = false := decide_eq_false h1
  have d2 : decide (5 < x.st) = false := decide_eq_false h2
  by_cases h7 : x.ba = 0
  · have e := fin fun q => absurd h7 q
    rw [e]
    have d7 : decide (x.ba = 0) = true := decide_eq_true h7
    have d5 : decide (x.ba < 0) = false := decide_eq_false h5
    have d6 : decide (512 < x.ba) = false := decide_eq_false h6
    cases none_
    · simp [d1, d2, h3, h4, d5, d6, d7, aun, cellsOf_at, cellsOf_ne, apart]; exact hext
    · simp [d1, d2, h3, h4, d5, d6, d7, aun, cellsOf_at, cellsOf_ne, apart]; exact hext
  · by_cases h8 : x.st = 3
    · have e := fin fun _ => h8
      rw [e]
      have d8 : decide (x.st = 3) = true := decide_eq_true h8
      cases none_
      · simp [d1, d2, h3, h4, h5, h6, h7, d8, aun, cellsOf_at, cellsOf_ne, apart]; exact hext
      · simp [d1, d2, h3, h4, h5, h6, h7, d8, aun, cellsOf_at, cellsOf_ne, apart]; exact hext
    · have : ¬ SlotP x := fun q => h8 (q.2.2.2.1 h7)
      have d8 : decide (x.st = 3) = false := decide_eq_false h8
      simp [d1, d2, h3, h4, h5, h6, h7, d8, this, cellsOf_at, cellsOf_ne, apart]; exact hext
def RightP (m : Mt) : Prop := (0 ≤ m.act ∧ m.act ≤ 2) ∧ (unfit m.fl || unfit m.cu || unfit m.it) = false ∧ m.s0.st = 4 ∧ (SlotP m.s0 ∧ (m.s0.st = 3 → m.act = 0)) ∧ (SlotP m.s1 ∧ (m.s1.st = 3 → m.act = 1)) ∧ (SlotP m.s2 ∧ (m.s2.st = 3 → m.act = 2)) ∧ ((m.get m.act).st = 4 ∨ (m.get m.act).st = 3)
instance (m : Mt) : Decidable (RightP m) := by unfold RightP; infer_instance

theorem getst (m : Mt) (j : Nat) (hj : j < 3) : acut (m.l.map cI) (j * 3) 3 = some ((m.get j).l.map cI) ∧ (m.l.map cI)[j * 3]? = some (cI (m.get j).st) := by
  match j, hj with
  | 0, _ => exact ⟨rfl, rfl⟩
  | 1, _ => exact ⟨rfl, rfl⟩
  | 2, _ => exact ⟨rfl, rfl⟩
theorem mright_ok (m : Mt) (h : Heap) : ACalls Tryz.prog 41 [mv m] h fun v h' => v = .bool (decide (RightP m)) ∧ h' = h := by
  refine ACalls.same .bool (acalls_of mix Tryz.func41 k41 n41 (by simp) fun hcl hb => ?_)
  have hm13 : ∀ x : Mt, mcells (mv x) = some (x.l.map cI) := fun _ => rfl
  have h9 : (m.l.map cI)[9]? = some (cI m.act) := rfl
  have h10 : (m.l.map cI)[10]? = some (cI m.fl) := rfl
  have h11 : (m.l.map cI)[11]? = some (cI m.cu) := rfl
  have h12 : (m.l.map cI)[12]? = some (cI m.it) := rfl
  have hs0 : (m.l.map cI)[0]? = some (cI m.s0.st) := rfl
  have i0 : aidx (.int .i64 0) 3 = some 0 := rfl
  have q9 : acut (m.l.map cI) 0 9 = some ((m.l.map cI).take 9) := rfl
  have hext1 := (Heap.Ext.refl h).push hcl (.cells (m.l.map cI) .ex 1)
  have hc1 : (h.push (.cells (m.l.map cI) .ex 1)).Closed := closed_push hcl (fun x hx => by obtain ⟨y, _, rfl⟩ := List.mem_map.1 hx; exact .int)
  rw [c41]
  simp only [s_seq, s_ops]
  simp [hm13]
  generalize hHM : h.push (.cells (m.l.map cI) .ex 1) = HM at *
  have f0 : HM.cellsOf h.n = some (m.l.map cI, .ex, 1) := by rw [← hHM]; exact cellsOf_new _ _ _ _
  have hMn : HM.n = h.n + 1 := by rw [← hHM]; rfl
  have hne : ¬ h.n = HM.n := by omega
  by_cases a0 : m.act < 0
  · have : ¬ RightP m := fun q => by have := q.1.1; omega
    simp [f0, apart, h9, a0, this]; exact hext1
  by_cases a3 : 3 ≤ m.act
  · have : ¬ RightP m := fun q => by have := q.1.2; omega
    simp [f0, apart, h9, a0, a3, this]; exact hext1
  simp [f0, apart, h9, h10, h11, h12, a0, a3, afill, mcells]
  refine (fits_ok m.fl m.cu m.it _ _ (sl_new _ [m.fl, m.cu, m.it])).mono ?_
  rintro v1 h1 ⟨rfl, e⟩
  subst e
  simp only [List.map_cons, List.map_nil]
  have hext2 := hext1.push hcl (.cells [cI m.fl, cI m.cu, cI m.it] .ex 1)
  by_cases hu : (unfit m.fl || unfit m.cu || unfit m.it) = true
  · have : ¬ RightP m := fun q => by have := q.2.1; rw [hu] at this; cases this
    rw [hu]
    simp [aun, this]; exact hext2
  have hu' : (unfit m.fl || unfit m.cu || unfit m.it) = false := by simpa using hu
  rw [hu']
  have f0' := cellsOf_push hc1 (o := .cells [cI m.fl, cI m.cu, cI m.it] .ex 1) f0
  have hc2 : (HM.push (.cells [cI m.fl, cI m.cu, cI m.it] .ex 1)).Closed := closed_push hc1 (fun x hx => by simp at hx; rcases hx with rfl | rfl | rfl <;> exact .int)
  have hn2 : (HM.push (.cells [cI m.fl, cI m.cu, cI m.it] .ex 1)).n = h.n + 2 := by simp [hMn]
  generalize HM.push (.cells [cI m.fl, cI m.cu, cI m.it] .ex 1) = H2 at f0' hc2 hn2 hext2 ⊢
  by_cases hg : m.s0.st = 4
  case neg =>
    have : ¬ RightP m := fun q => hg q.2.2.1
    simp [aun, i0, f0', apart, hs0, hg, this]; exact hext2
  simp [aun, i0, f0', apart, hs0, hg, q9]
  have hst := fun j hj => getst m j hj
  have q93 : ∀ j : Nat, j < 3 → acut ((m.l.map cI).take 9) (j * 3) 3 = some ((m.get j).l.map cI) := fun j hj => by
    match j, hj with
    | 0, _ => rfl
    | 1, _ => rfl
    | 2, _ => rfl
  have bag : ∀ n, VBelow n (.agg ((m.l.map cI).take 9).toArray) := fun n => .agg fun i hi => by
    have : ∀ v ∈ (m.l.map cI).take 9, VBelow n v := fun v hv => by obtain ⟨y, _, rfl⟩ := List.mem_map.1 (List.mem_of_mem_take hv); exact .int
    rw [toArray_getD]
    have hi' : i < ((m.l.map cI).take 9).length := by simpa using hi
    simp only [List.getD, List.getElem?_eq_getElem hi', Option.getD_some]
    exact this _ (List.getElem_mem hi')
  refine awp_loop_of (α := Nat × Int) (fun x => x.1 ≤ 3 ∧ 0 ≤ x.2 ∧ x.2 ≤ 1 ∧ (x.2 = 1 → m.act < x.1) ∧ ∀ j : Nat, j < x.1 → SlotP (m.get j) ∧ ((m.get j).st = 3 → (j : Int) = m.act))
    (fun x => [(1, .pointer (some ⟨h.n, 0, none⟩)), (3, .int .i64 x.2), (34, .agg ((m.l.map cI).take 9).toArray), (35, .int .i64 x.1)]) (fun _ => H2) (fun x => 3 - x.1) (0, 0)
    ⟨by show 0 ≤ 3; omega, by show (0 : Int) ≤ 0; omega, by show (0 : Int) ≤ 1; omega, fun q => by simp at q, fun j hj => by simp at hj⟩ ⟨by omega, Nat.le_refl _, fun _ _ e => e, hc2⟩
    (by simp; exact ⟨.ptr (by show h.n < _; omega), .int, bag _, .int⟩) ?_
  rintro ⟨i, t⟩ ⟨hi, ht0, ht1, hta, hall⟩
  dsimp only at hi ht0 ht1 hta hall
  by_cases hi3 : i < 3
  · have hi3' : (i : Int) < 3 := by omega
    generalize hAG : ((m.l.map cI).take 9) = AG at *
    have q93' := q93 i hi3
    generalize hX : m.get i = X at *
    have hms : mcells (.agg (X.l.map cI).toArray) = some (X.l.map cI) := rfl
    have hls : (X.l.map cI).length = 3 := rfl
    have hlX : X.l.length = 3 := rfl
    have hqs : acut (X.l.map cI) 0 3 = some (X.l.map cI) := rfl
    have hX0 : (X.l.map cI)[0]? = some (cI X.st) := rfl
    have hX00 : ∀ hx : 0 < X.l.length, X.l[0] = X.st := fun _ => rfl
    have hext3 := hext2.push hcl (.cells (X.l.map cI) .ex 1)
    simp [hi3', aidx_of hi3, apart, q93', hms, hlX, cellsOf_at, aput, set_at, hqs]
    refine (right3_ok X _).mono ?_
    rintro v1 h1 ⟨rfl, e⟩
    subst e
    have hlti : (i = 0 ∨ i = 1 ∨ i = 2) := by omega
    have slotI : RightP m → SlotP X ∧ (X.st = 3 → m.act = i) := fun q => by
      rcases hlti with rfl | rfl | rfl
      · rw [← hX]; exact q.2.2.2.1
      · rw [← hX]; exact q.2.2.2.2.1
      · rw [← hX]; exact q.2.2.2.2.2.1
    by_cases hP : SlotP X
    case neg =>
      have : ¬ RightP m := fun q => hP (slotI q).1
      simp [hP, aun, this]; exact hext3
    have f3 : (H2.push (.cells (X.l.map cI) .ex 1)).cellsOf h.n = some (m.l.map cI, .ex, 1) := cellsOf_push hc2 f0'
    by_cases h3 : X.st = 3
    · by_cases ha : (i : Int) = m.act
      · have ht : t = 0 := by
          have : ¬ t = 1 := fun q => by have := hta q; omega
          omega
        subst ht
        simp [hP, aun, cellsOf_at, apart, hX00, hlX, h3, f3, h9, ha]
        refine ⟨i + 1, by omega, 1, ⟨by omega, by omega, by omega, by omega, fun j hj => ?_⟩, ⟨by omega, Nat.le_succ _, fun x o e => ?_, hc2⟩, .ptr (by show h.n < _; omega), ⟨rfl, .int⟩, bag _, ?_, .int⟩
        · by_cases hji : j = i
          · subst hji; rw [hX]; exact ⟨hP, fun _ => ha⟩
          · exact hall j (by omega)
        · rw [push_m, if_neg (by have := (hc2 x o e).1; omega)]; exact e
        · rw [← ha, i64_small (by omega) (by omega)]; omega
      · have : ¬ RightP m := fun q => ha ((slotI q).2 h3).symm
        simp [hP, aun, cellsOf_at, apart, hX00, hlX, h3, f3, h9, ha, this]; exact hext3
    · simp [hP, aun, cellsOf_at, apart, hX00, hlX, h3]
      refine ⟨i + 1, by omega, t, ⟨by omega, by omega, by omega, fun q => by have := hta q; omega, fun j hj => ?_⟩, ⟨by omega, Nat.le_succ _, fun x o e => ?_, hc2⟩, .ptr (by show h.n < _; omega), ⟨rfl, .int⟩, bag _, ?_, .int⟩
      · by_cases hji : j = i
        · subst hji; rw [hX]; exact ⟨hP, fun q => absurd q h3⟩
        · exact hall j (by omega)
      · rw [push_m, if_neg (by have := (hc2 x o e).1; omega)]; exact e
      · rw [i64_small (by omega) (by omega)]; omega
  · have hie : i = 3 := by omega
    subst hie
    obtain ⟨k, hk⟩ : ∃ k : Nat, m.act = k := ⟨m.act.toNat, by omega⟩
    have hk3 : k < 3 := by omega
    have ga := (hst k hk3).2
    have r0 := hall 0 (by omega)
    have r1 := hall 1 (by omega)
    have r2 := hall 2 (by omega)
    have iff : RightP m ↔ ((m.get k).st = 4 ∨ (m.get k).st = 3) := by
      constructor
      · intro q; have := q.2.2.2.2.2.2; rw [hk] at this; exact this
      · intro q
        exact ⟨by omega, hu', hg, ⟨r0.1, fun z => (r0.2 z).symm⟩, ⟨r1.1, fun z => (r1.2 z).symm⟩, ⟨r2.1, fun z => (r2.2 z).symm⟩, by rw [hk]; exact q⟩
    have hD : decide (RightP m) = (decide ((m.get k).st = 4) || decide ((m.get k).st = 3)) := by
      rw [Bool.eq_iff_iff]; simp [iff]
    rw [hD]
    simp [f0', apart, h9, hk, aidx_of hk3, ga, ht1]
    by_cases h4 : (m.get k).st = 4
    · simp [h4]; exact hext2
    · simp [h4]; exact hext2

theorem val_ok (x : Int) (h : Heap) : ACalls Tryz.prog 47 [.int .i64 x] h fun v h' => v = .bool (!unfit x) ∧ h' = h := by
  refine acalls_of mix Tryz.func47 k47 n47 (by simp) fun hcl hb => ?_
  by_cases h0 : 0 ≤ x
  · have h0' : ¬ x < 0 := by omega
    by_cases h1 : x < 281474976710656
    · have h1' : ¬ 281474976710655 < x := by omega
      simp [c47, h0, h1, unfit, h0', h1']
    · have h1' : 281474976710655 < x := by omega
      simp [c47, h0, h1, unfit, h1']
  · have h0' : x < 0 := by omega
    simp [c47, h0, unfit, h0']
def outM (m : Mt) (i : Nat) : Mt := ⟨if 0 < i then m.s0 else ⟨0, 0, 0⟩, if 1 < i then m.s1 else ⟨0, 0, 0⟩, if 2 < i then m.s2 else ⟨0, 0, 0⟩, m.act, m.fl, m.cu, m.it⟩
theorem plain_ok (m : Mt) (h : Heap) : ACalls Tryz.prog 20 [mv m] h fun v h' => v = mv m ∧ h' = h := by
  refine ACalls.same (mv_below _) (acalls_ofR mix Tryz.func20 k20 n20 (by simp) fun hcl hb => ?_)
  have hm13 : ∀ x : Mt, mcells (mv x) = some (x.l.map cI) := fun _ => rfl
  have h9 : ∀ m : Mt, (m.l.map cI)[9]? = some (cI m.act) := fun _ => rfl
  have h10 : ∀ m : Mt, (m.l.map cI)[10]? = some (cI m.fl) := fun _ => rfl
  have h11 : ∀ m : Mt, (m.l.map cI)[11]? = some (cI m.cu) := fun _ => rfl
  have h12 : ∀ m : Mt, (m.l.map cI)[12]? = some (cI m.it) := fun _ => rfl
  have q9 : acut (m.l.map cI) 0 9 = some ((m.l.map cI).take 9) := rfl
  have hq : ∀ x : Mt, acut (x.l.map cI) 0 13 = some (x.l.map cI) := fun _ => rfl
  have hlM : ∀ x : Mt, x.l.length = 13 := fun _ => rfl
  have e9 : ∀ (m : Mt) (hx : 9 < m.l.length), m.l[9] = m.act := fun _ _ => rfl
  have e10 : ∀ (m : Mt) (hx : 10 < m.l.length), m.l[10] = m.fl := fun _ _ => rfl
  have e11 : ∀ (m : Mt) (hx : 11 < m.l.length), m.l[11] = m.cu := fun _ _ => rfl
  have e12 : ∀ (m : Mt) (hx : 12 < m.l.length), m.l[12] = m.it := fun _ _ => rfl
  have hmi : ∀ x : Int, mcells (.int .i64 x) = some [cI x] := fun _ => rfl
  have hma : ∀ l : List Value, mcells (.agg l.toArray) = some l := fun _ => by simp [mcells]
  simp [c20, hm13, cellsOf_at, cellsOf_ne, apart, hlM, e9, e10, e11, e12, hmi, hma, afill, aput, set_at, push_set, q9]
  have hc1 : (h.push (.cells (m.l.map cI) .ex 1)).Closed := closed_push hcl (fun x hx => by obtain ⟨y, _, rfl⟩ := List.mem_map.1 hx; exact .int)
  have hcZ : ((h.push (.cells (m.l.map cI) .ex 1)).push (.cells [cI 0, cI 0, cI 0, cI 0, cI 0, cI 0, cI 0, cI 0, cI 0, cI 0, cI 0, cI 0, cI 0] .ex 1)).Closed := closed_push hc1 (fun x hx => by simp at hx; rw [hx]; exact .int)
  have hextZ := ((Heap.Ext.refl h).push hcl (.cells (m.l.map cI) .ex 1)).push hcl (.cells [cI 0, cI 0, cI 0, cI 0, cI 0, cI 0, cI 0, cI 0, cI 0, cI 0, cI 0, cI 0, cI 0] .ex 1)
  have hnZ : ((h.push (.cells (m.l.map cI) .ex 1)).push (.cells [cI 0, cI 0, cI 0, cI 0, cI 0, cI 0, cI 0, cI 0, cI 0, cI 0, cI 0, cI 0, cI 0] .ex 1)).n = h.n + 1 + 1 := by simp
  have fZ : ((h.push (.cells (m.l.map cI) .ex 1)).push (.cells [cI 0, cI 0, cI 0, cI 0, cI 0, cI 0, cI 0, cI 0, cI 0, cI 0, cI 0, cI 0, cI 0] .ex 1)).cellsOf (h.n + 1) = some ([cI 0, cI 0, cI 0, cI 0, cI 0, cI 0, cI 0, cI 0, cI 0, cI 0, cI 0, cI 0, cI 0], .ex, 1) := by simp [cellsOf_at]
  generalize hZ : (h.push (.cells (m.l.map cI) .ex 1)).push (.cells [cI 0, cI 0, cI 0, cI 0, cI 0, cI 0, cI 0, cI 0, cI 0, cI 0, cI 0, cI 0, cI 0] .ex 1) = Z at *
  have hcO : ∀ i, (Z.push (.cells ((outM m i).l.map cI) .ex 1)).Closed := fun i => closed_push hcZ (fun x hx => by obtain ⟨y, _, rfl⟩ := List.mem_map.1 hx; exact .int)
  have bag : ∀ n, VBelow n (.agg ((m.l.map cI).take 9).toArray) := fun n => .agg fun i hi => by
    have : ∀ v ∈ (m.l.map cI).take 9, VBelow n v := fun v hv => by obtain ⟨y, _, rfl⟩ := List.mem_map.1 (List.mem_of_mem_take hv); exact .int
    rw [toArray_getD]
    have hi' : i < ((m.l.map cI).take 9).length := by simpa using hi
    simp only [List.getD, List.getElem?_eq_getElem hi', Option.getD_some]
    exact this _ (List.getElem_mem hi')
  have q93 : ∀ j : Nat, j < 3 → acut ((m.l.map cI).take 9) (j * 3) 3 = some ((m.get j).l.map cI) := fun j hj => by
    match j, hj with
    | 0, _ => rfl
    | 1, _ => rfl
    | 2, _ => rfl
  have hout : ∀ j : Nat, j < 3 → aput ((outM m j).l.map cI) (j * 3) ((m.get j).l.map cI) = (outM m (j + 1)).l.map cI := fun j hj => by
    match j, hj with
    | 0, _ => rfl
    | 1, _ => rfl
    | 2, _ => rfl
  have e0 : (outM m 0).l.map cI = [cI 0, cI 0, cI 0, cI 0, cI 0, cI 0, cI 0, cI 0, cI 0, cI m.act, cI m.fl, cI m.cu, cI m.it] := rfl
  rw [← e0]
  generalize hAG : ((m.l.map cI).take 9) = AG at *
  refine awp_loop_of (α := Nat) (fun i => i ≤ 3) (fun i => [(2, .pointer (some ⟨h.n + 1, 0, none⟩)), (3, .pointer (some ⟨Z.n, 0, none⟩)), (16, .agg AG.toArray), (17, .int .i64 i)]) (fun i => Z.push (.cells ((outM m i).l.map cI) .ex 1)) (fun i => 3 - i) 0
    (by show 0 ≤ 3; omega) ⟨by show h.n ≤ Z.n + 1; omega, Nat.le_refl _, fun _ _ e => e, hcO 0⟩ (by simp; exact ⟨.ptr (by show h.n + 1 < Z.n + 1; omega), .ptr (Nat.lt_succ_self _), bag _, .int⟩) ?_
  intro i hi
  by_cases hi3 : i < 3
  · have hi3' : (i : Int) < 3 := by omega
    have q93' := q93 i hi3
    have hout' := hout i hi3
    generalize hX : m.get i = X at *
    have hms : mcells (.agg (X.l.map cI).toArray) = some (X.l.map cI) := rfl
    have hlX : X.l.length = 3 := rfl
    have hqs : acut (X.l.map cI) 0 3 = some (X.l.map cI) := rfl
    have hin : i * 3 + 3 ≤ 13 := by omega
    have hap : aput [Value.int .i64 0, Value.int .i64 0, Value.int .i64 0] 0 (X.l.map cI) = X.l.map cI := rfl
    have hw : IntKind.i64.wrap ((i : Int) + 1) = ((i + 1 : Nat) : Int) := by rw [i64_small (by omega) (by omega)]; omega
    simp [hi3', aidx_of hi3, apart, q93', hms, hlX, hlM, cellsOf_at, cellsOf_ne, set_at, push_set, hqs, hin, hout', hap]
    refine ⟨i + 1, by omega, by omega, ⟨by show h.n ≤ Z.n + 1; omega, Nat.le_succ _, fun x o e => ?_, hcO (i + 1)⟩, .ptr (by show h.n + 1 < Z.n + 1; omega), .ptr (Nat.lt_succ_self _), bag _, hw, .int⟩
    have hx : x < Z.n + 1 := (hcO (i + 1) x o e).1
    rw [push_m, if_neg (by show ¬ x = Z.n + 1; omega)]
    exact e
  · have hie : i = 3 := by omega
    subst hie
    have e3 : (outM m 3) = m := rfl
    have n1 : ¬ h.n + 1 = Z.n := by omega
    have l1 : h.n + 1 < Z.n := by omega
    have hm13' : mcells (.agg (m.l.map cI).toArray) = some (m.l.map cI) := rfl
    have hap : aput [cI 0, cI 0, cI 0, cI 0, cI 0, cI 0, cI 0, cI 0, cI 0, cI 0, cI 0, cI 0, cI 0] 0 (m.l.map cI) = m.l.map cI := rfl
    simp [e3, hm13', hlM, cellsOf_at, cellsOf_ne, n1, l1, apart, hq, fZ, set_at, push_set, hap, cellsOf_set]
    exact ⟨rfl, (Heap.Ext.setNew hextZ hcl (Nat.le_succ _) _).push hcl _⟩

theorem unfit_iff (x : Int) : unfit x = false ↔ 0 ≤ x ∧ x ≤ 281474976710655 := by simp [unfit]
theorem refRightM_ok (m : Mt) (h : Heap) : ACalls Tryz.prog 19 [mv m] h fun v h' => v = .bool (decide (RightP m)) ∧ h' = h := by
  refine ACalls.same .bool (acalls_of mix Tryz.func19 k19 n19 (by simp) fun hcl hb => ?_)
  have hm13 : ∀ x : Mt, mcells (mv x) = some (x.l.map cI) := fun _ => rfl
  have hlM : ∀ x : Mt, x.l.length = 13 := fun _ => rfl
  have e9 : ∀ (m : Mt) (hx : 9 < m.l.length), m.l[9] = m.act := fun _ _ => rfl
  have e10 : ∀ (m : Mt) (hx : 10 < m.l.length), m.l[10] = m.fl := fun _ _ => rfl
  have e11 : ∀ (m : Mt) (hx : 11 < m.l.length), m.l[11] = m.cu := fun _ _ => rfl
  have e12 : ∀ (m : Mt) (hx : 12 < m.l.length), m.l[12] = m.it := fun _ _ => rfl
  have e0 : ∀ (m : Mt) (hx : 0 < m.l.length), m.l[0] = m.s0.st := fun _ _ => rfl
  have i0 : aidx (.int .i64 0) 3 = some 0 := rfl
  have hext1 := (Heap.Ext.refl h).push hcl (.cells (m.l.map cI) .ex 1)
  have hc1 : (h.push (.cells (m.l.map cI) .ex 1)).Closed := closed_push hcl (fun x hx => by obtain ⟨y, _, rfl⟩ := List.mem_map.1 hx; exact .int)
  rw [c19]
  simp only [s_seq, s_ops]
  simp [hm13]
  have f0 : (h.push (.cells (m.l.map cI) .ex 1)).cellsOf h.n = some (m.l.map cI, .ex, 1) := cellsOf_new _ _ _ _
  have hn1 : (h.push (.cells (m.l.map cI) .ex 1)).n = h.n + 1 := by simp
  generalize hHM : h.push (.cells (m.l.map cI) .ex 1) = HM at *
  by_cases a0 : m.act < 0
  · have : ¬ RightP m := fun q => by have := q.1.1; omega
    simp [f0, apart, hlM, e9, a0, this]; exact hext1
  by_cases a3 : 2 < m.act
  · have : ¬ RightP m := fun q => by have := q.1.2; omega
    simp [f0, apart, hlM, e9, a0, a3, this]; exact hext1
  have nu : ∀ b1 b2 b3 : Bool, (b1 || b2 || b3) = false → b1 = false ∧ b2 = false ∧ b3 = false := by decide
  simp [f0, apart, hlM, e9, e10, a0, a3]
  refine (val_ok _ _).mono ?_
  rintro v1 h1 ⟨rfl, e⟩
  subst e
  cases u1 : unfit m.fl
  case true =>
    have : ¬ RightP m := fun q => by have := (nu _ _ _ q.2.1).1; rw [u1] at this; cases this
    simp [aun, this]; exact hext1
  simp [aun, f0, apart, hlM, e11]
  refine (val_ok _ _).mono ?_
  rintro v1 h1 ⟨rfl, e⟩
  subst e
  cases u2 : unfit m.cu
  case true =>
    have : ¬ RightP m := fun q => by have := (nu _ _ _ q.2.1).2.1; rw [u2] at this; cases this
    simp [aun, this]; exact hext1
  simp [aun, f0, apart, hlM, e12]
  refine (val_ok _ _).mono ?_
  rintro v1 h1 ⟨rfl, e⟩
  subst e
  cases u3 : unfit m.it
  case true =>
    have : ¬ RightP m := fun q => by have := (nu _ _ _ q.2.1).2.2; rw [u3] at this; cases this
    simp [aun, this]; exact hext1
  by_cases hg : m.s0.st = 4
  case neg =>
    have : ¬ RightP m := fun q => hg q.2.2.1
    simp [aun, i0, f0, apart, hlM, e0, hg, this]; exact hext1
  simp [aun, i0, f0, apart, hlM, e0, hg]
  have hst := fun j hj => getst m j hj
  refine awp_loop_of (α := Nat) (fun i => i ≤ 3 ∧ ∀ j : Nat, j < i → SlotP (m.get j) ∧ ((m.get j).st = 3 → (j : Int) = m.act))
    (fun i => [(1, .pointer (some ⟨h.n, 0, none⟩)), (3, .int .i64 i)]) (fun _ => h1) (fun i => 3 - i) 0
    ⟨by omega, fun j hj => by simp at hj⟩ ⟨by omega, Nat.le_refl _, fun _ _ e => e, hc1⟩
    (by simp [hn1]; exact ⟨.ptr (by show h.n < _; omega), .int⟩) ?_
  rintro i ⟨hi, hall⟩
  by_cases hi3 : i < 3
  · have hi3' : (i : Int) < 3 := by omega
    obtain ⟨ga, _⟩ := hst i hi3
    generalize hX : m.get i = X at *
    have hms : mcells (.agg (X.l.map cI).toArray) = some (X.l.map cI) := rfl
    have hlX : X.l.length = 3 := rfl
    have hap : aput [Value.int .i64 0, Value.int .i64 0, Value.int .i64 0] 0 (X.l.map cI) = X.l.map cI := rfl
    have x0 : ∀ hx : 0 < X.l.length, X.l[0] = X.st := fun _ => rfl
    have x1 : ∀ hx : 1 < X.l.length, X.l[1] = X.ve := fun _ => rfl
    have x2 : ∀ hx : 2 < X.l.length, X.l[2] = X.ba := fun _ => rfl
    have hext3 := hext1.push hcl (.cells (X.l.map cI) .ex 1)
    have hlti : (i = 0 ∨ i = 1 ∨ i = 2) := by omega
    have slotI : RightP m → SlotP X ∧ (X.st = 3 → m.act = i) := fun q => by
      rcases hlti with rfl | rfl | rfl
      · rw [← hX]; exact q.2.2.2.1
      · rw [← hX]; exact q.2.2.2.2.1
      · rw [← hX]; exact q.2.2.2.2.2.1
    have f3 : (h1.push (.cells (X.l.map cI) .ex 1)).cellsOf h.n = some (m.l.map cI, .ex, 1) := cellsOf_push hc1 f0
    have hw : IntKind.i64.wrap ((i : Int) + 1) = ((i + 1 : Nat) : Int) := by rw [i64_small (by omega) (by omega)]; omega
    by_cases s1 : X.st < 0
    · have : ¬ RightP m := fun q => by have := (slotI q).1.1; omega
      simp [hi3', aidx_of hi3, f0, apart, ga, hms, hlX, cellsOf_at, set_at, hap, x0, s1, this]; exact hext3
    by_cases s2 : 5 < X.st
    · have : ¬ RightP m := fun q => by have := (slotI q).1.1; omega
      simp [hi3', aidx_of hi3, f0, apart, ga, hms, hlX, cellsOf_at, set_at, hap, x0, s1, s2, this]; exact hext3
    simp [hi3', aidx_of hi3, f0, apart, ga, hms, hlX, cellsOf_at, set_at, hap, x0, x1, s1, s2]
    refine (val_ok _ _).mono ?_
    rintro v1 h2 ⟨rfl, e⟩
    subst e
    cases u4 : unfit X.ve
    case true =>
      have : ¬ RightP m := fun q => by have := (unfit_iff _).2 (slotI q).1.2.1; rw [u4] at this; cases this
      simp [aun, this]; exact hext3
    have u4' := (unfit_iff _).1 u4
    by_cases s3 : X.ba < 0
    · have : ¬ RightP m := fun q => by have := (slotI q).1.2.2.1; omega
      simp [aun, apart, hlX, cellsOf_at, x2, s3, this]; exact hext3
    by_cases s4 : 512 < X.ba
    · have : ¬ RightP m := fun q => by have := (slotI q).1.2.2.1; omega
      simp [aun, apart, hlX, cellsOf_at, x2, s3, s4, this]; exact hext3
    have good : SlotP X → (X.st = 3 → (i : Int) = m.act) → ∃ y, 3 - y < 3 - i ∧ (y ≤ 3 ∧ ∀ j : Nat, j < y → SlotP (m.get j) ∧ ((m.get j).st = 3 → (j : Int) = m.act)) ∧ h1.Sub h.n (h1.push (.cells (X.l.map cI) .ex 1)) ∧ VBelow h1.n (.pointer (some ⟨h.n, 0, none⟩)) ∧ IntKind.i64.wrap ((i : Int) + 1) = ((y : Nat) : Int) ∧ VBelow h1.n (.int .i64 (y : Nat)) := fun g1 g2 =>
      ⟨i + 1, by omega, ⟨by omega, fun j hj => by
        by_cases hji : j = i
        · subst hji; rw [hX]; exact ⟨g1, g2⟩
        · exact hall j (by omega)⟩, ⟨by omega, Nat.le_succ _, fun x o e => by rw [push_m, if_neg (by have := (hc1 x o e).1; omega)]; exact e, hc1⟩, .ptr (by show h.n < _; omega), hw, .int⟩
    by_cases t0 : X.st = 0
    · by_cases v0 : X.ve = 0
      · by_cases b0 : X.ba = 0
        · simp [aun, apart, hlX, cellsOf_at, cellsOf_ne, x0, x1, x2, t0, v0, b0]
          exact good ⟨by omega, by omega, by omega, by omega, by omega⟩ (by omega)
        · have : ¬ RightP m := fun q => by have := (slotI q).1.2.2.2.1 b0; omega
          simp [aun, apart, hlX, cellsOf_at, cellsOf_ne, x0, x1, x2, t0, v0, b0, s3, s4, this]; exact hext3
      · have : ¬ RightP m := fun q => v0 ((slotI q).1.2.2.2.2 (.inl t0))
        simp [aun, apart, hlX, cellsOf_at, cellsOf_ne, x0, x1, x2, t0, v0, s3, s4, this]; exact hext3
    by_cases t1 : X.st = 1
    · by_cases v0 : X.ve = 0
      · by_cases b0 : X.ba = 0
        · simp [aun, apart, hlX, cellsOf_at, cellsOf_ne, x0, x1, x2, t1, v0, b0]
          exact good ⟨by omega, by omega, by omega, by omega, by omega⟩ (by omega)
        · have : ¬ RightP m := fun q => by have := (slotI q).1.2.2.2.1 b0; omega
          simp [aun, apart, hlX, cellsOf_at, cellsOf_ne, x0, x1, x2, t1, v0, b0, s3, s4, this]; exact hext3
      · have : ¬ RightP m := fun q => v0 ((slotI q).1.2.2.2.2 (.inr (.inl t1)))
        simp [aun, apart, hlX, cellsOf_at, cellsOf_ne, x0, x1, x2, t1, v0, s3, s4, this]; exact hext3
    by_cases t5 : X.st = 5
    · by_cases v0 : X.ve = 0
      · by_cases b0 : X.ba = 0
        · simp [aun, apart, hlX, cellsOf_at, cellsOf_ne, x0, x1, x2, t5, v0, b0]
          exact good ⟨by omega, by omega, by omega, by omega, by omega⟩ (by omega)
        · have : ¬ RightP m := fun q => by have := (slotI q).1.2.2.2.1 b0; omega
          simp [aun, apart, hlX, cellsOf_at, cellsOf_ne, x0, x1, x2, t5, v0, b0, s3, s4, this]; exact hext3
      · have : ¬ RightP m := fun q => v0 ((slotI q).1.2.2.2.2 (.inr (.inr t5)))
        simp [aun, apart, hlX, cellsOf_at, cellsOf_ne, x0, x1, x2, t5, v0, s3, s4, this]; exact hext3
    by_cases t3 : X.st = 3
    · by_cases hia : (i : Int) = m.act
      · have dia : decide ((i : Int) = m.act) = true := decide_eq_true hia
        simp [aun, apart, hlX, cellsOf_at, cellsOf_ne, x0, x1, x2, t3, s3, s4, f3, e9, hlM, dia]
        exact good ⟨by omega, by omega, by omega, by omega, by omega⟩ (fun _ => hia)
      · have : ¬ RightP m := fun q => hia ((slotI q).2 t3).symm
        simp [aun, apart, hlX, cellsOf_at, cellsOf_ne, x0, x1, x2, t3, s3, s4, f3, e9, hlM, hia, this]; exact hext3
    by_cases b0 : X.ba = 0
    · simp [aun, apart, hlX, cellsOf_at, cellsOf_ne, x0, x1, x2, t0, t1, t5, t3, b0]
      exact good ⟨by omega, by omega, by omega, by omega, by omega⟩ (by omega)
    · have : ¬ RightP m := fun q => t3 ((slotI q).1.2.2.2.1 b0)
      simp [aun, apart, hlX, cellsOf_at, cellsOf_ne, x0, x1, x2, t0, t1, t5, t3, b0, s3, s4, this]; exact hext3
  · have hie : i = 3 := by omega
    subst hie
    obtain ⟨k, hk⟩ : ∃ k : Nat, m.act = k := ⟨m.act.toNat, by omega⟩
    have hk3 : k < 3 := by omega
    have ga := (hst k hk3).2
    have r0 := hall 0 (by omega)
    have r1 := hall 1 (by omega)
    have r2 := hall 2 (by omega)
    have iff : RightP m ↔ ((m.get k).st = 4 ∨ (m.get k).st = 3) := by
      constructor
      · intro q; have := q.2.2.2.2.2.2; rw [hk] at this; exact this
      · intro q
        exact ⟨by omega, by rw [u1, u2, u3]; rfl, hg, ⟨r0.1, fun z => (r0.2 z).symm⟩, ⟨r1.1, fun z => (r1.2 z).symm⟩, ⟨r2.1, fun z => (r2.2 z).symm⟩, by rw [hk]; exact q⟩
    have hD : decide (RightP m) = (decide ((m.get k).st = 3) || decide ((m.get k).st = 4)) := by
      rw [Bool.eq_iff_iff]; simp [iff, or_comm]
    rw [hD]
    simp [f0, apart, hlM, e9, hk, aidx_of hk3, ga]
    by_cases h4 : (m.get k).st = 3
    · simp [h4]; exact hext1
    · simp [h4]; exact hext1

end Go.Proofs.YtofoihlcjmghfaaGreatDoor.mets

