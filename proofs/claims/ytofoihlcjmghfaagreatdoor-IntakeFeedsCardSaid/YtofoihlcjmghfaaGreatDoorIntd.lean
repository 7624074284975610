/-
  Contracts.
-/
import Derived.Test.YtofoihlcjmghfaaGreatDoorIntc
import Derived.Test.YtofoihlcjmghfaaGreatDoorIntb
import Derived.Test.YtofoihlcjmghfaaGreatDoorInta
import Derived.Test.YtofoihlcjmghfaaGreatDoorVerc
import Derived.Test.YtofoihlcjmghfaaGreatDoorManr
import Derived.Test.YtofoihlcjmghfaaGreatDoorRsha
import Derived.Test.YtofoihlcjmghfaaGreatDoorManf
import Derived.Test.YtofoihlcjmghfaaGreatDoorSha
import Derived.Test.YtofoihlcjmghfaaGreatDoorLin1
import Derived.Test.YtofoihlcjmghfaaGreatDoorVers
import Derived.Test.YtofoihlcjmghfaaGreatDoorStr
import Derived.Test.YtofoihlcjmghfaaGreatDoorAbEnter
import Derived.Test.YtofoihlcjmghfaaGreatDoorAbStep
import Derived.Test.YtofoihlcjmghfaaGreatDoorProg
import Derived.IntWalk
import Derived.KernelRfl
set_option linter.unusedSimpArgs false
set_option linter.unusedVariables false
set_option linter.unusedSectionVars false
namespace Go.Proofs.YtofoihlcjmghfaaGreatDoor.intd
open Go Go.Ab Go.Proofs Go.RowKit Go.Proofs.YtofoihlcjmghfaaGreatDoor.str Go.Proofs.YtofoihlcjmghfaaGreatDoor.vers Go.Proofs.YtofoihlcjmghfaaGreatDoor.lin1 Go.Proofs.YtofoihlcjmghfaaGreatDoor.sha Go.Proofs.YtofoihlcjmghfaaGreatDoor.manf Go.Proofs.YtofoihlcjmghfaaGreatDoor.manr Go.Proofs.YtofoihlcjmghfaaGreatDoor.rsha Go.Proofs.YtofoihlcjmghfaaGreatDoor.verc Go.Proofs.YtofoihlcjmghfaaGreatDoor.inta Go.Proofs.YtofoihlcjmghfaaGreatDoor.intb Go.Proofs.YtofoihlcjmghfaaGreatDoor.intc
variable [Inhabited TabBox]
variable [Nonempty GF]
variable [Nonempty GE]
set_option maxRecDepth 100000
attribute [local simp] s_ops s_seq s_cond s_cond_t s_cond_f s_block s_exit s_ret s_skip s_then_n s_then_n' s_then_e s_then_e' s_then_r s_then_r' s_block_n s_block_r s_block_e s_post_r s_post_n s_res0 s_res1 s_res2 s_res3 s_res4 s_nil s_cons s_guard s_guard_tt s_guard_ff s_guard_tf s_guard_ft s_guard_u s_call s_kL s_put s_put0 s_set s_tmp s_const s_func s_glob s_init s_mkF s_mkF0 s_mv s_bin s_pick s_op aop oK_some oK_none bK_some bK_none b_add b_sub b_mul b_quo b_rem b_and b_or b_xor b_andNot b_shl b_shr b_eql b_neq b_lss b_leq b_gtr b_geq b_sadd b_seql b_sneq b_slss b_sleq b_sgtr b_sgeq s_draw s_drawT s_tK s_tT s_tF s_tB s_tR s_stage s_stage0 s_kW s_kR s_rc0 s_rc s_rcg rK_some rK_none rG_b rG_u s_callv s_callv_f s_nextM s_postR_r s_postR_n s_resA0 s_resAt s_resAc s_resC s_tup0 s_tup1 s_tup2 s_tup3
def c11 : AC := .seq (.ops [⟨some 5,none,.box (.tmp 2)⟩,⟨some 6,none,.alloc [.int .i64 0,.int .i64 0,.int .i64 0,.int .i64 0,.int .u8 0,.int .u8 0,.int .u8 0,.int .u8 0,.int .u8 0,.int .u8 0,.int .u8 0,.int .u8 0,.int .u8 0,.int .u8 0,.int .u8 0,.int .u8 0,.int .u8 0,.int .u8 0,.int .u8 0,.int .u8 0,.int .u8 0,.int .u8 0,.int .u8 0,.int .u8 0,.int .u8 0,.int .u8 0,.int .u8 0,.int .u8 0,.int .u8 0,.int .u8 0,.int .u8 0,.int .u8 0,.int .u8 0,.int .u8 0,.int .u8 0,.int .u8 0,.bool false,.string ⟨⟨[]⟩⟩,.int .i64 0]⟩]) (.seq (.ops [⟨some 13,none,.mv (.tmp 0)⟩,⟨some 14,none,.call 33 [.tmp 13]⟩,⟨some 12,none,.mv (.tmp 14)⟩,⟨some 15,none,.extr (.tmp 12) 0⟩,⟨some 16,none,.extr (.tmp 12) 1⟩,⟨some 17,none,.extr (.tmp 12) 2⟩,⟨some 7,none,.mv (.tmp 15)⟩,⟨some 8,none,.mv (.tmp 16)⟩,⟨some 9,none,.mv (.tmp 17)⟩]) (.seq (.seq (.ops [⟨some 18,none,.mv (.tmp 9)⟩,⟨some 19,none,.un .not (.tmp 18)⟩]) (.cond (.tmp 19) (.seq (.seq (.ops [⟨some 20,none,.mv (.tmp 7)⟩,⟨some 21,none,.lenS true (.tmp 20)⟩,⟨some 22,none,.bin .gtr (.tmp 21) (.const (.int .i64 160))⟩]) (.cond (.tmp 22) (.seq (.ops [⟨some 23,none,.build [.int .i64 0,.int .i64 0,.int .i64 0,.int .i64 0,.int .u8 0,.int .u8 0,.int .u8 0,.int .u8 0,.int .u8 0,.int .u8 0,.int .u8 0,.int .u8 0,.int .u8 0,.int .u8 0,.int .u8 0,.int .u8 0,.int .u8 0,.int .u8 0,.int .u8 0,.int .u8 0,.int .u8 0,.int .u8 0,.int .u8 0,.int .u8 0,.int .u8 0,.int .u8 0,.int .u8 0,.int .u8 0,.int .u8 0,.int .u8 0,.int .u8 0,.int .u8 0,.int .u8 0,.int .u8 0,.int .u8 0,.int .u8 0,.bool false,.string ⟨⟨[]⟩⟩,.int .i64 0] [(38,1,.const (.int .i64 12))]⟩,⟨none,none,.store 39 (.tmp 6) (.tmp 23)⟩]) .ret) .skip)) (.seq (.ops [⟨some 24,none,.build [.int .i64 0,.int .i64 0,.int .i64 0,.int .i64 0,.int .u8 0,.int .u8 0,.int .u8 0,.int .u8 0,.int .u8 0,.int .u8 0,.int .u8 0,.int .u8 0,.int .u8 0,.int .u8 0,.int .u8 0,.int .u8 0,.int .u8 0,.int .u8 0,.int .u8 0,.int .u8 0,.int .u8 0,.int .u8 0,.int .u8 0,.int .u8 0,.int .u8 0,.int .u8 0,.int .u8 0,.int .u8 0,.int .u8 0,.int .u8 0,.int .u8 0,.int .u8 0,.int .u8 0,.int .u8 0,.int .u8 0,.int .u8 0,.bool false,.string ⟨⟨[]⟩⟩,.int .i64 0] []⟩,⟨none,none,.store 39 (.tmp 6) (.tmp 24)⟩]) .ret)) .skip)) (.seq (.ops [⟨some 26,none,.mv (.tmp 7)⟩,⟨some 27,none,.call 34 [.tmp 26]⟩,⟨some 25,none,.mv (.tmp 27)⟩,⟨some 28,none,.extr (.tmp 25) 0⟩,⟨some 29,none,.extr (.tmp 25) 1⟩,⟨some 10,none,.alloc z36⟩,⟨none,none,.store 36 (.tmp 10) (.tmp 28)⟩,⟨some 11,none,.mv (.tmp 29)⟩]) (.seq (.seq (.ops [⟨some 30,none,.mv (.tmp 11)⟩,⟨some 31,none,.bin .neq (.tmp 30) (.const (.int .i64 0))⟩]) (.cond (.tmp 31) (.seq (.ops [⟨some 32,none,.mv (.tmp 11)⟩,⟨some 33,none,.build [.int .i64 0,.int .i64 0,.int .i64 0,.int .i64 0,.int .u8 0,.int .u8 0,.int .u8 0,.int .u8 0,.int .u8 0,.int .u8 0,.int .u8 0,.int .u8 0,.int .u8 0,.int .u8 0,.int .u8 0,.int .u8 0,.int .u8 0,.int .u8 0,.int .u8 0,.int .u8 0,.int .u8 0,.int .u8 0,.int .u8 0,.int .u8 0,.int .u8 0,.int .u8 0,.int .u8 0,.int .u8 0,.int .u8 0,.int .u8 0,.int .u8 0,.int .u8 0,.int .u8 0,.int .u8 0,.int .u8 0,.int .u8 0,.bool false,.string ⟨⟨[]⟩⟩,.int .i64 0] [(38,1,.tmp 32)]⟩,⟨none,none,.store 39 (.tmp 6) (.tmp 33)⟩]) .ret) .skip)) (.seq (.seq (.ops [⟨some 34,none,.fAddr 3 (.tmp 10)⟩,⟨some 35,none,.load none (.tmp 34)⟩,⟨some 36,none,.mv (.tmp 1)⟩,⟨some 37,none,.bin .gtr (.tmp 35) (.tmp 36)⟩]) (.cond (.tmp 37) (.seq (.ops [⟨some 38,none,.build [.int .i64 0,.int .i64 0,.int .i64 0,.int .i64 0,.int .u8 0,.int .u8 0,.int .u8 0,.int .u8 0,.int .u8 0,.int .u8 0,.int .u8 0,.int .u8 0,.int .u8 0,.int .u8 0,.int .u8 0,.int .u8 0,.int .u8 0,.int .u8 0,.int .u8 0,.int .u8 0,.int .u8 0,.int .u8 0,.int .u8 0,.int .u8 0,.int .u8 0,.int .u8 0,.int .u8 0,.int .u8 0,.int .u8 0,.int .u8 0,.int .u8 0,.int .u8 0,.int .u8 0,.int .u8 0,.int .u8 0,.int .u8 0,.bool false,.string ⟨⟨[]⟩⟩,.int .i64 0] [(38,1,.const (.int .i64 12))]⟩,⟨none,none,.store 39 (.tmp 6) (.tmp 38)⟩]) .ret) .skip)) (.seq (.seq (.ops [⟨some 39,none,.fAddr 0 (.tmp 10)⟩,⟨some 40,none,.load (some 3) (.tmp 39)⟩,⟨some 41,none,.load (some 3) (.tmp 5)⟩,⟨some 42,none,.call 35 [.tmp 40,.tmp 41]⟩]) (.cond (.tmp 42) (.seq (.ops [⟨some 43,none,.build [.int .i64 0,.int .i64 0,.int .i64 0,.int .i64 0,.int .u8 0,.int .u8 0,.int .u8 0,.int .u8 0,.int .u8 0,.int .u8 0,.int .u8 0,.int .u8 0,.int .u8 0,.int .u8 0,.int .u8 0,.int .u8 0,.int .u8 0,.int .u8 0,.int .u8 0,.int .u8 0,.int .u8 0,.int .u8 0,.int .u8 0,.int .u8 0,.int .u8 0,.int .u8 0,.int .u8 0,.int .u8 0,.int .u8 0,.int .u8 0,.int .u8 0,.int .u8 0,.int .u8 0,.int .u8 0,.int .u8 0,.int .u8 0,.bool false,.string ⟨⟨[]⟩⟩,.int .i64 0] [(38,1,.const (.int .i64 11))]⟩,⟨none,none,.store 39 (.tmp 6) (.tmp 43)⟩]) .ret) .skip)) (.seq (.seq (.ops [⟨some 44,none,.mv (.tmp 8)⟩,⟨some 45,none,.lenS true (.tmp 44)⟩,⟨some 46,none,.fAddr 3 (.tmp 10)⟩,⟨some 47,none,.load none (.tmp 46)⟩,⟨some 48,none,.bin .gtr (.tmp 45) (.tmp 47)⟩]) (.cond (.tmp 48) (.seq (.ops [⟨some 49,none,.load (some 36) (.tmp 10)⟩,⟨some 50,none,.build [.int .i64 0,.int .i64 0,.int .i64 0,.int .i64 0,.int .u8 0,.int .u8 0,.int .u8 0,.int .u8 0,.int .u8 0,.int .u8 0,.int .u8 0,.int .u8 0,.int .u8 0,.int .u8 0,.int .u8 0,.int .u8 0,.int .u8 0,.int .u8 0,.int .u8 0,.int .u8 0,.int .u8 0,.int .u8 0,.int .u8 0,.int .u8 0,.int .u8 0,.int .u8 0,.int .u8 0,.int .u8 0,.int .u8 0,.int .u8 0,.int .u8 0,.int .u8 0,.int .u8 0,.int .u8 0,.int .u8 0,.int .u8 0,.bool false,.string ⟨⟨[]⟩⟩,.int .i64 0] [(0,36,.tmp 49),(36,1,.const (.bool true)),(38,1,.const (.int .i64 12))]⟩,⟨none,none,.store 39 (.tmp 6) (.tmp 50)⟩]) .ret) .skip)) (.seq (.ops [⟨some 51,none,.load (some 36) (.tmp 10)⟩,⟨some 52,none,.mv (.tmp 8)⟩,⟨some 53,none,.build [.int .i64 0,.int .i64 0,.int .i64 0,.int .i64 0,.int .u8 0,.int .u8 0,.int .u8 0,.int .u8 0,.int .u8 0,.int .u8 0,.int .u8 0,.int .u8 0,.int .u8 0,.int .u8 0,.int .u8 0,.int .u8 0,.int .u8 0,.int .u8 0,.int .u8 0,.int .u8 0,.int .u8 0,.int .u8 0,.int .u8 0,.int .u8 0,.int .u8 0,.int .u8 0,.int .u8 0,.int .u8 0,.int .u8 0,.int .u8 0,.int .u8 0,.int .u8 0,.int .u8 0,.int .u8 0,.int .u8 0,.int .u8 0,.bool false,.string ⟨⟨[]⟩⟩,.int .i64 0] [(0,36,.tmp 51),(36,1,.const (.bool true)),(37,1,.tmp 52),(38,1,.const (.int .i64 0))]⟩,⟨none,none,.store 39 (.tmp 6) (.tmp 53)⟩]) .ret))))))))
theorem k11 : compR Tryz.prog Tryz.f11 = some (c11, [.c 6 (some 39)]) := by kernel_rfl
theorem n11 : Tryz.f11.ntmps = 54 := by kernel_rfl
def c15 : AC := .seq (.ops [⟨some 2,none,.box (.tmp 0)⟩,⟨some 3,none,.box (.tmp 1)⟩,⟨some 4,none,.mv (.const (.int .i64 0))⟩]) (.seq (.seq (.ops [⟨some 5,none,.fAddr 38 (.tmp 3)⟩,⟨some 6,none,.load none (.tmp 5)⟩,⟨some 7,none,.bin .neq (.tmp 6) (.const (.int .i64 0))⟩]) (.cond (.tmp 7) (.seq (.ops [⟨some 8,none,.fAddr 38 (.tmp 3)⟩,⟨some 9,none,.load none (.tmp 8)⟩,⟨some 4,none,.mv (.tmp 9)⟩]) .ret) .skip)) (.seq (.seq (.ops [⟨some 10,none,.fAddr 36 (.tmp 3)⟩,⟨some 11,none,.load none (.tmp 10)⟩,⟨some 12,none,.un .not (.tmp 11)⟩,⟨some 13,none,.mv (.tmp 12)⟩,⟨some 14,some (13,false),.fAddr 37 (.tmp 3)⟩,⟨some 15,some (13,false),.load none (.tmp 14)⟩,⟨some 16,some (13,false),.lenS true (.tmp 15)⟩,⟨some 17,some (13,false),.fAddr 0 (.tmp 3)⟩,⟨some 18,some (13,false),.fAddr 3 (.tmp 17)⟩,⟨some 19,some (13,false),.load none (.tmp 18)⟩,⟨some 20,some (13,false),.bin .lss (.tmp 16) (.tmp 19)⟩,⟨some 21,none,.pick (.tmp 13) (.const (.bool true)) (.tmp 20)⟩]) (.cond (.tmp 21) (.seq (.ops [⟨some 4,none,.mv (.const (.int .i64 13))⟩]) .ret) .skip)) (.seq (.seq (.draw [([⟨some 22,none,.load (some 2) (.tmp 2)⟩,⟨some 23,none,.fAddr 37 (.tmp 3)⟩,⟨some 24,none,.load none (.tmp 23)⟩,⟨some 26,none,.fAddr 0 (.tmp 3)⟩,⟨some 27,none,.fAddr 4 (.tmp 26)⟩,⟨some 28,none,.load (some 32) (.tmp 27)⟩],[⟨some 25,none,.call 38 [.tmp 22,.tmp 24]⟩],[⟨some 28,none,.load (some 32) (.tmp 27)⟩]),([⟨some 29,none,.eqa true (ckl 32) (.tmp 25) (.tmp 28)⟩],[],[])]) (.cond (.tmp 29) (.seq (.ops [⟨some 4,none,.mv (.const (.int .i64 7))⟩]) .ret) .skip)) (.seq (.ops [⟨some 4,none,.mv (.const (.int .i64 0))⟩]) .ret))))
theorem k15 : compF Tryz.prog Tryz.f15 = some (c15, [4]) := by kernel_rfl
theorem n15 : Tryz.f15.ntmps = 30 := by kernel_rfl
def c7_0 : AC := .seq (.ops [⟨some 9,none,.bin .lss (.tmp 8) (.tmp 7)⟩]) (.seq (.cond (.tmp 9) .skip (.exit 0)) (.seq (.block 1 (.seq (.ops [⟨some 10,none,.iAddrS 1 (.tmp 6) (.tmp 8)⟩,⟨some 11,none,.load none (.tmp 10)⟩,⟨some 5,none,.mv (.tmp 11)⟩]) (.seq (.ops [⟨some 12,none,.mv (.tmp 3)⟩,⟨some 13,none,.mv (.tmp 5)⟩,⟨some 14,none,.lenS true (.tmp 13)⟩,⟨some 15,none,.bin .add (.tmp 12) (.tmp 14)⟩,⟨some 3,none,.mv (.tmp 15)⟩]) (.seq (.ops [⟨some 16,none,.mv (.tmp 3)⟩,⟨some 17,none,.bin .gtr (.tmp 16) (.const (.int .i64 2000))⟩]) (.cond (.tmp 17) (.seq (.ops [⟨some 2,none,.mv (.const (.bool true))⟩]) .ret) .skip))))) (.ops [⟨some 18,none,.bin .add (.tmp 8) (.const (.int .i64 1))⟩,⟨some 8,none,.mv (.tmp 18)⟩])))
def c7 : AC := .seq (.ops [⟨some 2,none,.mv (.const (.bool false))⟩]) (.seq (.ops [⟨some 3,none,.mv (.const (.int .i64 0))⟩]) (.seq (.seq (.ops [⟨some 6,none,.mv (.tmp 0)⟩,⟨some 7,none,.lenS false (.tmp 6)⟩,⟨some 8,none,.mv (.const (.int .i64 0))⟩]) (.block 0 (.loop c7_0))) (.seq (.ops [⟨some 19,none,.mv (.tmp 0)⟩,⟨some 20,none,.lenS false (.tmp 19)⟩,⟨some 21,none,.bin .gtr (.tmp 20) (.const (.int .i64 60))⟩,⟨some 2,none,.mv (.tmp 21)⟩]) .ret)))
theorem k7 : compF Tryz.prog Tryz.f7 = some (c7, [2]) := by kernel_rfl
theorem n7 : Tryz.f7.ntmps = 22 := by kernel_rfl
variable [Nonempty GM]
def rcA (x : Hd) (came : Bool) (im : List UInt8) (e : Int) : List Value := hc x ++ [.bool came, .string (bs im), .int .i64 e]
theorem rcA_len {x : Hd} (h : x.hs.length = 32) (came : Bool) (im : List UInt8) (e : Int) : (rcA x came im e).length = 39 := by simp [rcA, hc_len h]
def rcV (A : (It × List UInt8) × (List UInt8 × Int)) : List Value := rcA A.1.1.hd A.1.1.bg A.2.1 A.2.2
theorem put_all39 {x y : Hd} (hx : x.hs.length = 32) (hy : y.hs.length = 32) (c c' : Bool) (i i' : List UInt8) (e e' : Int) : aput (rcA x c i e) 0 (rcA y c' i' e') = rcA y c' i' e' := by
  unfold aput
  rw [rcA_len hy, List.drop_eq_nil_of_le (by rw [rcA_len hx]; omega)]
  simp
theorem rc_bel {n : Nat} {x : Hd} {c : Bool} {i : List UInt8} {e : Int} : ∀ v ∈ rcA x c i e, VBelow n v := fun v hv => by
  rcases List.mem_append.1 hv with hv | hv
  · exact hc_bel v hv
  · simp at hv
    rcases hv with rfl | rfl | rfl
    · exact .bool
    · exact .string
    · exact .int
theorem z39_eq : ([.int .i64 0, .int .i64 0, .int .i64 0, .int .i64 0, .int .u8 0, .int .u8 0, .int .u8 0, .int .u8 0, .int .u8 0, .int .u8 0, .int .u8 0, .int .u8 0, .int .u8 0, .int .u8 0, .int .u8 0, .int .u8 0, .int .u8 0, .int .u8 0, .int .u8 0, .int .u8 0, .int .u8 0, .int .u8 0, .int .u8 0, .int .u8 0, .int .u8 0, .int .u8 0, .int .u8 0, .int .u8 0, .int .u8 0, .int .u8 0, .int .u8 0, .int .u8 0, .int .u8 0, .int .u8 0, .int .u8 0, .int .u8 0, .bool false, .string (bs []), .int .i64 0] : List Value) = rcA zH false [] 0 := rfl
theorem afill_cons {z c : List Value} {v : Value} {r : List (Nat × Nat × Value)} {off size : Nat} (h1 : mcells v = some c) (h2 : c.length = size) (h3 : off + size ≤ z.length) : afill z ((off, size, v) :: r) = afill (z.take off ++ c ++ z.drop (off + size)) r := by
  simp [afill, h1, h2, h3]
theorem fill36 {x : Hd} (hx : x.hs.length = 32) (c t : Bool) (i : List UInt8) (e : Int) (r : List (Nat × Nat × Value)) : afill (rcA x c i e) ((36, 1, .bool t) :: r) = afill (rcA x t i e) r := by
  refine (afill_cons (c := [.bool t]) rfl rfl (by rw [rcA_len hx]; simp)).trans ?_
  congr 1
  simp [rcA, List.take_append, List.drop_append, hc_len hx, List.take_of_length_le, List.drop_eq_nil_of_le]
theorem fill37 {x : Hd} (hx : x.hs.length = 32) (c : Bool) (i t : List UInt8) (e : Int) (r : List (Nat × Nat × Value)) : afill (rcA x c i e) ((37, 1, .string (bs t)) :: r) = afill (rcA x c t e) r := by
  refine (afill_cons (c := [.string (bs t)]) rfl rfl (by rw [rcA_len hx]; simp)).trans ?_
  congr 1
  simp [rcA, List.take_append, List.drop_append, hc_len hx, List.take_of_length_le, List.drop_eq_nil_of_le]
theorem fill38 {x : Hd} (hx : x.hs.length = 32) (c : Bool) (i : List UInt8) (e t : Int) (r : List (Nat × Nat × Value)) : afill (rcA x c i e) ((38, 1, .int .i64 t) :: r) = afill (rcA x c i t) r := by
  refine (afill_cons (c := [.int .i64 t]) rfl rfl (by rw [rcA_len hx]; simp)).trans ?_
  congr 1
  simp [rcA, List.take_append, List.drop_append, hc_len hx, List.take_of_length_le, List.drop_eq_nil_of_le]
theorem fill0 {x : Hd} (hx : x.hs.length = 32) (r : List (Nat × Nat × Value)) : afill (rcA zH false [] 0) ((0, 36, .agg (hc x).toArray) :: r) = afill (rcA x false [] 0) r := by
  refine (afill_cons (m_hc x) (hc_len hx) (by rw [rcA_len z32_len]; omega)).trans ?_
  rfl
theorem fillN (l : List Value) : afill l [] = some l := by simp [afill]
theorem rc_below {n : Nat} {x : Hd} {c : Bool} {i : List UInt8} {e : Int} : VBelow n (.agg (rcA x c i e).toArray) := .agg fun j hj => by
  have hj' : j < (rcA x c i e).length := by simpa using hj
  have := rc_bel (n := n) (x := x) (c := c) (i := i) (e := e) ((rcA x c i e)[j]) (List.getElem_mem hj')
  simpa [Array.getD, hj'] using this
theorem set_push1 (h : Heap) (o o' o2 : AObj) : ((h.push o).push o2).set h.n o' = (h.push o').push o2 := by
  unfold Heap.set Heap.push
  congr 1
  funext x
  dsimp only
  by_cases h1 : x = h.n
  · subst h1
    rw [if_pos rfl, if_neg (by omega), if_pos rfl]
  · rw [if_neg h1]
    by_cases h2 : x = h.n + 1
    · rw [if_pos h2, if_pos h2]
    · rw [if_neg h2, if_neg h2, if_neg h1, if_neg h1]
theorem rread_ok (room fa fb fc : Int) (S : List UInt8) (hS : S.length ≤ 100000) (h : Heap) : ACalls Tryz.prog 11 [.string (bs S), .int .i64 room, .agg (iv fa fb fc).toArray] h fun v h' => v = .agg (rcV (allF room fa fb fc S)).toArray ∧ h' = h := by
  refine ACalls.same rc_below (acalls_ofR mix Tryz.func11 k11 n11 (by simp) fun hcl hb => ?_)
  have hzl : zH.hs.length = 32 := z32_len
  have hlz := hc_len hzl
  have hfz : afill (hc zH) [] = some (hc zH) := rfl
  have hpx : ∀ z : Hd, z.hs.length = 32 → aput (hc zH) 0 (hc z) = hc z := fun z hz => by
    unfold aput
    rw [hc_len hz, List.drop_eq_nil_of_le (by rw [hlz]; omega)]
    simp
  have hac : ∀ x : Hd, x.hs.length = 32 → acut (hc x) 0 36 = some (hc x) := fun x hx => acut_full (hc_len hx)
  have f0 := cellsOf_new h (iv fa fb fc) .ex 1
  have n0 : (h.push (.cells (iv fa fb fc) .ex 1)).n = h.n + 1 := rfl
  have hsv : ∀ l, sv l = .string (bs l) := fun _ => rfl
  simp only [c11, s_seq, s_ops]
  simp [mc_iv, bs_lit, z39_eq]
  have m39 : ∀ (x : Hd) c im e, mcells (.agg (rcA x c im e).toArray) = some (rcA x c im e) := fun x c im e => by simp [mcells]
  have hl39 : ∀ (x : Hd) c im e, x.hs.length = 32 → (rcA x c im e).length = 39 := fun x c im e hx => rcA_len hx c im e
  have hc39 : ∀ (x : Hd) c im e, x.hs.length = 32 → acut (rcA x c im e) 0 39 = some (rcA x c im e) := fun x c im e hx => acut_full (rcA_len hx c im e)
  have hp39 : ∀ (x : Hd) c im e, x.hs.length = 32 → aput (rcA zH false [] 0) 0 (rcA x c im e) = rcA x c im e := fun x c im e hx => put_all39 hzl hx _ _ _ _ _ _
  have hc1 : (h.push (.cells (iv fa fb fc) .ex 1)).Closed := closed_push hcl iv_bel
  have e1 := (Heap.Ext.refl h).push hcl (.cells (iv fa fb fc) .ex 1)
  generalize h.push (.cells (iv fa fb fc) .ex 1) = H0 at *
  have fr := cellsOf_new H0 (rcA zH false [] 0) .ex 1
  have nr1 : (H0.push (.cells (rcA zH false [] 0) .ex 1)).n = H0.n + 1 := rfl
  have f0a : ∀ o, (H0.push o).cellsOf h.n = some (iv fa fb fc, .ex, 1) := fun o => by rw [cellsOf_ne (by omega)]; exact f0
  refine (rSplit_ok S (by omega) _).mono ?_
  rintro _ h9 ⟨hv9, e⟩
  rw [e]; clear e h9
  have happ := congrArg List.length (splF_app S)
  rw [List.length_append] at happ
  rw [splF_of hv9]
  clear hv9
  have hA : allF room fa fb fc S = (if (splF S).2.2 = false then (if 160 < (splF S).1.length then spoilF { it0 room fa fb fc with text := (splF S).1 } [] 12 else (({ it0 room fa fb fc with text := (splF S).1 }, []), ([], 0)))
      else if (beginF { it0 room fa fb fc with text := (splF S).1 } (splF S).1).2 ≠ 0 then spoilF (beginF { it0 room fa fb fc with text := (splF S).1 } (splF S).1).1 [] (beginF { it0 room fa fb fc with text := (splF S).1 } (splF S).1).2
      else takeFI (beginF { it0 room fa fb fc with text := (splF S).1 } (splF S).1).1 [] (splF S).2.1) := by
    unfold allF feedF
    rw [if_neg (by simp [it0]), if_neg (by simp [it0])]
    rfl
  generalize allF room fa fb fc S = A at *
  generalize splF S = w at *
  obtain ⟨t, r, en⟩ := w
  dsimp only at happ hA ⊢
  have hn0 : h.n < H0.n := by omega
  have spR : ∀ o, (H0.push (.cells (rcA zH false [] 0) .ex 1)).set (h.n + 1) o = H0.push o := fun o => by rw [← n0]; exact set_push _ _ _
  have frO : ∀ x c im e, (H0.push (.cells (rcA x c im e) .ex 1)).cellsOf (h.n + 1) = some (rcA x c im e, .ex, 1) := fun x c im e => by rw [← n0]; exact cellsOf_new _ _ _ _
  rw [n0] at fr nr1
  have eO : ∀ o, h.Ext (H0.push o) := fun o => e1.push hcl o
  cases en with
  | false =>
    rw [if_pos rfl] at hA
    by_cases h160 : 160 < t.length
    · have h160' : (160 : Int) < (t.length : Int) := by omega
      rw [if_pos h160] at hA
      have hV : rcV A = rcA zH false [] 12 := by rw [hA]; rfl
      rw [hV]
      simp [aun, apart, hsv, bs_size, h160', fill38 hzl, fillN, m39, hl39 _ _ _ _ hzl, fr, hp39 _ _ _ _ hzl, spR, frO, hc39 _ _ _ _ hzl]
      exact eO _
    · have h160' : ¬ (160 : Int) < (t.length : Int) := by omega
      rw [if_neg h160] at hA
      have hV : rcV A = rcA zH false [] 0 := by rw [hA]; rfl
      rw [hV]
      simp [aun, apart, hsv, bs_size, h160', fillN, m39, hl39 _ _ _ _ hzl, fr, hp39 _ _ _ _ hzl, spR, frO, hc39 _ _ _ _ hzl]
      exact eO _
  | true =>
    rw [if_neg (by simp)] at hA
    simp [aun, hsv]
    refine (rparse_ok t (by omega) _).mono ?_
    rintro v9 h9 ⟨hp, e⟩
    rw [e]; clear e h9
    rw [parF_of hp]
    have hB : beginF { it0 room fa fb fc with text := t } t = (if (parF t).2 ≠ 0 then ({ it0 room fa fb fc with text := t }, (parF t).2) else if room < (parF t).1.n then ({ it0 room fa fb fc with text := t }, 12) else if vlt ⟨(parF t).1.a, (parF t).1.b, (parF t).1.c⟩ ⟨fa, fb, fc⟩ then ({ it0 room fa fb fc with text := t }, 11) else ({ { it0 room fa fb fc with text := t } with hd := (parF t).1, bg := true }, 0)) := rfl
    have hl := parF_len t
    have hok : (parF t).2 = 0 → 0 ≤ (parF t).1.n := fun k => ((parF_ok k).1.2).1
    generalize parF t = z at *
    obtain ⟨z, ez⟩ := z
    dsimp only at hB hl hok ⊢
    have hlz2 := hc_len hl
    have hpz : ∀ o : AObj, ((H0.push o).push (.cells (hc zH) .ex 1)).cellsOf (h.n + 1 + 1) = some (hc zH, .ex, 1) := fun o => by
      have := cellsOf_new (H0.push o) (hc zH) .ex 1
      rwa [show (H0.push o).n = h.n + 1 + 1 by show H0.n + 1 = _; rw [n0]] at this
    have hpz2 : ∀ o : AObj, ((H0.push o).push (.cells (hc z) .ex 1)).cellsOf (h.n + 1 + 1) = some (hc z, .ex, 1) := fun o => by
      have := cellsOf_new (H0.push o) (hc z) .ex 1
      rwa [show (H0.push o).n = h.n + 1 + 1 by show H0.n + 1 = _; rw [n0]] at this
    have hs1 : ∀ o o2 : AObj, ((H0.push o).push o2).set (h.n + 1 + 1) (.cells (hc z) .ex 1) = (H0.push o).push (.cells (hc z) .ex 1) := fun o o2 => by
      have := set_push (H0.push o) o2 (.cells (hc z) .ex 1)
      rwa [show (H0.push o).n = h.n + 1 + 1 by show H0.n + 1 = _; rw [n0]] at this
    have hr1 : ∀ (c : List Value) (o2 : AObj), ((H0.push (.cells c .ex 1)).push o2).cellsOf (h.n + 1) = some (c, .ex, 1) := fun c o2 => by
      rw [cellsOf_ne (by show ¬ h.n + 1 = H0.n + 1; omega), ← n0]; exact cellsOf_new _ _ _ _
    have hs2 : ∀ o o2 o' : AObj, ((H0.push o).push o2).set (h.n + 1) o' = (H0.push o').push o2 := fun o o2 o' => by
      rw [← n0]; exact set_push1 _ _ _ _
    have hf0 : ∀ o o2 : AObj, ((H0.push o).push o2).cellsOf h.n = some (iv fa fb fc, .ex, 1) := fun o o2 => by
      rw [cellsOf_ne (by show ¬ h.n = H0.n + 1; omega)]; exact f0a o
    have eOO : ∀ o o2, h.Ext ((H0.push o).push o2) := fun o o2 => (eO o).push hcl o2
    have nOO : ∀ o : AObj, (H0.push o).n = h.n + 1 + 1 := fun o => by show H0.n + 1 = _; rw [n0]
    simp [z36_eq, hfz, m_hv, m_hc, hlz, nOO, n0, hpz, hlz2, hpx z hl, hs1]
    by_cases he : ez = 0
    case neg =>
      rw [if_pos he] at hB
      rw [hB] at hA
      rw [if_pos he] at hA
      have hV : rcV A = rcA zH false [] ez := by rw [hA]; rfl
      rw [hV]
      simp [he, apart, fill38 hzl, fillN, m39, hl39 _ _ _ _ hzl, hr1, hp39 _ _ _ _ hzl, hs2, hc39 _ _ _ _ hzl]
      exact eOO _ _
    subst he
    have hn := hok rfl
    have g3 : (hc z)[3]? = some (.int .i64 z.n) := rfl
    have g0 : acut (hc z) 0 3 = some (iv z.a z.b z.c) := hc_cut3 z
    rw [if_neg (by simp)] at hB
    by_cases hr : room < z.n
    · rw [if_pos hr] at hB
      rw [hB, if_pos (by simp)] at hA
      have hV : rcV A = rcA zH false [] 12 := by rw [hA]; rfl
      rw [hV]
      simp [hpz2, g3, apart, hr, fill38 hzl, fillN, m39, hl39 _ _ _ _ hzl, hr1, hp39 _ _ _ _ hzl, hs2, hc39 _ _ _ _ hzl]
      exact eOO _ _
    rw [if_neg hr] at hB
    simp [hpz2, g3, g0, hf0, acut_iv, apart, hr]
    refine (less_ok ⟨z.a, z.b, z.c⟩ ⟨fa, fb, fc⟩ _).mono ?_
    rintro _ h9 ⟨rfl, e⟩
    rw [e]; clear e h9
    by_cases hv : vlt ⟨z.a, z.b, z.c⟩ ⟨fa, fb, fc⟩
    · rw [if_pos hv] at hB
      rw [hB, if_pos (by simp)] at hA
      have hV : rcV A = rcA zH false [] 11 := by rw [hA]; rfl
      rw [hV]
      simp [hv, apart, fill38 hzl, fillN, m39, hl39 _ _ _ _ hzl, hr1, hp39 _ _ _ _ hzl, hs2, hc39 _ _ _ _ hzl]
      exact eOO _ _
    rw [if_neg hv] at hB
    rw [hB, if_neg (by simp)] at hA
    unfold takeFI at hA
    by_cases hq : z.n < (r.length : Int)
    · rw [if_pos (by simpa using hq)] at hA
      have hV : rcV A = rcA z true [] 12 := by rw [hA]; rfl
      rw [hV]
      simp [hv, bs_size, hpz2, g3, hac z hl, apart, hq, fill0 hl, fill36 hl, fill38 hl, fillN, m39, hl39 _ _ _ _ hzl, hl39 _ _ _ _ hl, hr1, hp39 _ _ _ _ hl, hs2, hc39 _ _ _ _ hl]
      exact eOO _ _
    · rw [if_neg (by simpa using hq)] at hA
      have hV : rcV A = rcA z true r 0 := by rw [hA]; rfl
      rw [hV]
      simp [hv, bs_size, hpz2, g3, hac z hl, apart, hq, fill0 hl, fill36 hl, fill37 hl, fill38 hl, fillN, m39, hl39 _ _ _ _ hzl, hl39 _ _ _ _ hl, hr1, hp39 _ _ _ _ hl, hs2, hc39 _ _ _ _ hl]
      exact eOO _ _

variable [Nonempty GM]
theorem rc38 {x : Hd} (h : x.hs.length = 32) (c : Bool) (i : List UInt8) (e : Int) : (rcA x c i e)[38]? = some (.int .i64 e) := by
  unfold rcA
  rw [List.getElem?_append_right (by simp [hc_len h])]
  simp [hc_len h]
theorem rc37 {x : Hd} (h : x.hs.length = 32) (c : Bool) (i : List UInt8) (e : Int) : (rcA x c i e)[37]? = some (.string (bs i)) := by
  unfold rcA
  rw [List.getElem?_append_right (by simp [hc_len h])]
  simp [hc_len h]
theorem rc36 {x : Hd} (h : x.hs.length = 32) (c : Bool) (i : List UInt8) (e : Int) : (rcA x c i e)[36]? = some (.bool c) := by
  unfold rcA
  rw [List.getElem?_append_right (by simp [hc_len h])]
  simp [hc_len h]
theorem rc3 {x : Hd} (c : Bool) (i : List UInt8) (e : Int) : (rcA x c i e)[3]? = some (.int .i64 x.n) := rfl
theorem rc0 {x : Hd} (h : x.hs.length = 32) (c : Bool) (i : List UInt8) (e : Int) : acut (rcA x c i e) 0 36 = some (hc x) := by
  unfold acut; rw [if_pos (by rw [rcA_len h]; omega)]
  rw [List.drop_zero, rcA, List.take_append_of_le_length (by rw [hc_len h]; omega), List.take_of_length_le (by rw [hc_len h]; omega)]
theorem rc4 {x : Hd} (h : x.hs.length = 32) (c : Bool) (i : List UInt8) (e : Int) : acut (rcA x c i e) 4 32 = some (ubs x.hs) := by
  unfold acut; rw [if_pos (by rw [rcA_len h]; omega)]
  have : (rcA x c i e).drop 4 = ubs x.hs ++ [.bool c, .string (bs i), .int .i64 e] := rfl
  rw [this, List.take_append_of_le_length (by rw [ubs_len, h]; omega), List.take_of_length_le (by rw [ubs_len, h]; omega)]
def rfinF (x : Hd) (c : Bool) (i : List UInt8) (e : Int) : Int := if e ≠ 0 then e else if c = false ∨ (i.length : Int) < x.n then 13 else if shaB i ≠ x.hs then 7 else 0
theorem rfin20_ok (x : Hd) (hx : x.hs.length = 32) (came : Bool) (im : List UInt8) (er : Int) (hi : im.length ≤ 100000) (Hv Kv : Value) (h : Heap) (hH : SlN h Hv hW) (hK : SlN h Kv kW) :
    ACalls Tryz.prog 15 [.agg #[Hv, Kv], .agg (rcA x came im er).toArray] h fun v h' => v = .int .i64 (rfinF x came im er) ∧ h' = h := by
  obtain ⟨V, hV⟩ : ∃ V, V = rfinF x came im er := ⟨_, rfl⟩
  rw [← hV]
  refine ACalls.same .int (acalls_of mix Tryz.func15 k15 n15 (by simp) fun hcl hb => ?_)
  have bH := Sl.below hH hcl
  have bK := Sl.below hK hcl
  have m2 : mcells (.agg #[Hv, Kv]) = some [Hv, Kv] := rfl
  have c2 : acut [Hv, Kv] 0 2 = some [Hv, Kv] := rfl
  have m39 : mcells (.agg (rcA x came im er).toArray) = some (rcA x came im er) := by simp [mcells]
  have hc1 : (h.push (.cells [Hv, Kv] .ex 1)).Closed := closed_push hcl (fun x hx => by
    simp at hx
    rcases hx with rfl | rfl
    · exact bH.mono (Nat.le_succ _)
    · exact bK.mono (Nat.le_succ _))
  have e1 := (Heap.Ext.refl h).push hcl (.cells [Hv, Kv] .ex 1)
  have e2 := e1.push hcl (.cells (rcA x came im er) .ex 1)
  have f0 : ((h.push (.cells [Hv, Kv] .ex 1)).push (.cells (rcA x came im er) .ex 1)).cellsOf h.n = some ([Hv, Kv], .ex, 1) := by rw [cellsOf_ne (by show ¬ h.n = h.n + 1; omega)]; exact cellsOf_new _ _ _ _
  have f1 : ((h.push (.cells [Hv, Kv] .ex 1)).push (.cells (rcA x came im er) .ex 1)).cellsOf (h.n + 1) = some (rcA x came im er, .ex, 1) := cellsOf_new (h.push (.cells [Hv, Kv] .ex 1)) _ _ _
  have hH2 := Sl.keep hH e2.m
  have hK2 := Sl.keep hK e2.m
  simp only [c15, s_seq, s_ops]
  simp [m2, m39]
  generalize (h.push (.cells [Hv, Kv] .ex 1)).push (.cells (rcA x came im er) .ex 1) = H at *
  simp [f1, rc38 hx, apart]
  by_cases he : er = 0
  case neg =>
    rw [show rfinF x came im er = er from if_pos he] at hV
    subst hV
    simp [he, f1, rc38 hx, apart]
    exact e2
  subst he
  simp [f1, rc36 hx, apart]
  cases came with
  | false =>
    rw [show rfinF x false im 0 = 13 by simp [rfinF]] at hV
    subst hV
    simp [aun]
    exact e2
  | true =>
    by_cases hlt : (im.length : Int) < x.n
    · rw [show rfinF x true im 0 = 13 by simp [rfinF, hlt]] at hV
      subst hV
      simp [aun, f1, rc37 hx, rc3, apart, bs_size, hlt]
      exact e2
    simp [aun, f0, f1, rc37 hx, rc3, rc4 hx, c2, apart, bs_size, hlt]
    refine (refSum_ok im (by omega) Hv Kv H hH2 hK2).mono ?_
    rintro _ h9 ⟨rfl, e⟩
    rw [e]; clear e h9
    have hd := eq_32 (shaB_len im) hx
    by_cases hs : shaB im = x.hs
    · rw [show rfinF x true im 0 = 0 by simp [rfinF, hlt, hs]] at hV
      subst hV
      rw [decide_eq_true hs] at hd
      simp [f1, rc4 hx, apart, m_ubs, hd]
      exact e2
    · rw [show rfinF x true im 0 = 7 by simp [rfinF, hlt, hs]] at hV
      subst hV
      rw [decide_eq_false hs] at hd
      simp [f1, rc4 hx, apart, m_ubs, hd]
      exact e2

variable [Nonempty GM]
def greatV (l : List (List UInt8)) : Bool := decide (2000 < l.flatten.length) || decide (60 < l.length)
theorem flat_take (l : List (List UInt8)) (i : Nat) : (l.take i).flatten.length ≤ l.flatten.length := by
  have := congrArg (fun x => x.flatten.length) (List.take_append_drop i l)
  simp only [List.flatten_append, List.length_append] at this
  omega
theorem flat_succ (l : List (List UInt8)) (i : Nat) (h : i < l.length) : (l.take (i + 1)).flatten = (l.take i).flatten ++ l[i] := by
  rw [List.take_succ_eq_append_getElem h, List.flatten_append]; simp
theorem great_ok (l : List (List UInt8)) (v : Value) (h : Heap) (hl : Sl enS h v l) (hs : ∀ s ∈ l, s.length ≤ 140737488351232) (hln : l.length ≤ 9223372036854775807) :
    ACalls Tryz.prog 7 [v] h fun r h' => r = .bool (greatV l) ∧ h' = h := by
  refine acalls_of mix Tryz.func7 k7 n7 (by simp) fun hcl hb => ?_
  have bl := Sl.below hl hcl
  obtain ⟨ad, c, rfl⟩ := Sl.form hl
  simp [c7]
  refine awp_loop_of (α := Nat) (fun i => i ≤ l.length ∧ (l.take i).flatten.length ≤ 2000)
    (fun i => [(0, .slice ad l.length c), (3, .int .i64 ((l.take i).flatten.length : Int)), (6, .slice ad l.length c), (7, .int .i64 l.length), (8, .int .i64 i)]) (fun _ => h) (fun i => l.length - i) 0
    ⟨Nat.zero_le _, by simp⟩ (Heap.Sub.refl hcl) (by simp; exact ⟨bl, .int, bl, .int, .int⟩) ?_
  rintro i ⟨hi, hfl⟩
  by_cases hil : i < l.length
  · have hi' : (i : Int) < (l.length : Int) := by omega
    obtain ⟨b, o, cs, m, e, rfl, _, g1, g2⟩ := Sl.at hl hil
    have hsi := hs _ (List.getElem_mem hil)
    have hsz := bs_size l[i]
    have hsucc := flat_succ l i hil
    have htot := flat_take l (i + 1)
    rw [hsucc, List.length_append] at htot
    generalize hN : (l.take i).flatten.length = N at *
    have w1 : IntKind.i64.wrap ((N : Int) + (l[i].length : Int)) = ((N + l[i].length : Nat) : Int) := by rw [IntWalk.i64_in _ (by omega)]; omega
    have e1 : IntKind.i64.wrap ((i : Int) + 1) = ((i + 1 : Nat) : Int) := by rw [IntWalk.i64_in _ (by omega)]; omega
    have hen : enS l[i] = .string (bs l[i]) := rfl
    by_cases hbig : 2000 < N + l[i].length
    · have hbig' : (2000 : Int) < ((N + l[i].length : Nat) : Int) := by omega
      have hv : greatV l = true := by unfold greatV; rw [decide_eq_true (by omega)]; rfl
      simp [c7_0, hi', aidx_of hil, g1, apart, g2, hen, hsz, w1, hbig', hv, -Int.natCast_add]
    · have hbig' : ¬ (2000 : Int) < ((N + l[i].length : Nat) : Int) := by omega
      simp [c7_0, hi', aidx_of hil, g1, apart, g2, hen, hsz, w1, hbig', e1, -Int.natCast_add, -List.length_flatten]
      have hN1 : (l.take (i + 1)).flatten.length = N + l[i].length := by rw [hsucc, List.length_append, hN]
      refine ⟨i + 1, by omega, ⟨by omega, by rw [hN1]; omega⟩, Heap.Sub.refl hcl, bl, ⟨by rw [hN1], .int⟩, bl, .int, rfl, .int⟩
  · have hie : i = l.length := by omega
    subst hie
    rw [List.take_of_length_le (Nat.le_refl _)] at hfl
    have hv : greatV l = decide (60 < l.length) := by unfold greatV; rw [decide_eq_false (by omega)]; rfl
    simp [c7_0, hv]
    omega

variable [Nonempty GM]
theorem take_out (x : It) (T p : List UInt8) : ((takeFI x T p).2.2 ≠ 0 → (takeFI x T p).2.1 = []) ∧ ((takeFI x [] p).2.2 = 0 → (takeFI x [] p).2.1 = (takeFI x [] p).1.2) ∧ (takeFI x T p).1.1.bg = x.bg := by
  unfold takeFI
  refine ⟨?_, ?_, ?_⟩
  · split
    · exact fun _ => rfl
    · exact fun k => absurd rfl k
  · split
    · exact fun _ => rfl
    · exact fun _ => rfl
  · split <;> rfl
theorem feed_none (x : It) (T p : List UInt8) (h : (feedF x T p).2.2 ≠ 0) : (feedF x T p).2.1 = [] := by
  unfold feedF at h ⊢
  split
  · rfl
  · rename_i q1
    rw [if_neg q1] at h
    split
    · rename_i q2
      rw [if_pos q2] at h
      exact (take_out _ _ _).1 h
    · rename_i q2
      rw [if_neg q2] at h
      split
      · split
        · rfl
        · rfl
      · rename_i q3
        rw [if_neg q3] at h
        split
        · rfl
        · rename_i q4
          rw [if_neg q4] at h
          exact (take_out _ _ _).1 h
theorem all_cases (room fa fb fc : Int) (S : List UInt8) : ((allF room fa fb fc S).2.2 = 0 → (allF room fa fb fc S).2.1 = (allF room fa fb fc S).1.2) ∧ ((allF room fa fb fc S).1.1.bg = false → (allF room fa fb fc S).1.1.hd = zH) ∧ ((allF room fa fb fc S).2.2 = 0 → (allF room fa fb fc S).1.1.e = 0) := by
  have hF : allF room fa fb fc S = (if (splF S).2.2 = false then (if 160 < (splF S).1.length then spoilF { it0 room fa fb fc with text := (splF S).1 } [] 12 else (({ it0 room fa fb fc with text := (splF S).1 }, []), ([], 0)))
      else if (beginF { it0 room fa fb fc with text := (splF S).1 } (splF S).1).2 ≠ 0 then spoilF (beginF { it0 room fa fb fc with text := (splF S).1 } (splF S).1).1 [] (beginF { it0 room fa fb fc with text := (splF S).1 } (splF S).1).2
      else takeFI (beginF { it0 room fa fb fc with text := (splF S).1 } (splF S).1).1 [] (splF S).2.1) := by
    unfold allF feedF
    rw [if_neg (by simp [it0]), if_neg (by simp [it0])]
    rfl
  rw [hF]
  generalize splF S = w
  obtain ⟨t, r, en⟩ := w
  dsimp only
  by_cases h1 : en = false
  · rw [if_pos h1]
    by_cases h2 : 160 < t.length
    · rw [if_pos h2]; exact ⟨fun _ => rfl, fun _ => rfl, fun k => absurd k (by simp [spoilF])⟩
    · rw [if_neg h2]; exact ⟨fun _ => rfl, fun _ => rfl, fun _ => rfl⟩
  · rw [if_neg h1]
    by_cases h2 : (beginF { it0 room fa fb fc with text := t } t).2 ≠ 0
    · rw [if_pos h2]
      have hb := begin_err h2
      refine ⟨fun k => absurd k h2, fun _ => ?_, fun k => absurd k h2⟩
      show (beginF { it0 room fa fb fc with text := t } t).1.hd = zH
      rw [hb]; rfl
    · rw [if_neg h2]
      obtain ⟨e1, _, _, _⟩ := begin_ok (Classical.not_not.1 h2)
      refine ⟨(take_out _ [] _).2.1, fun k => ?_, fun k => ?_⟩
      · rw [(take_out _ [] _).2.2, e1] at k
        cases k
      · have : ∀ (x : It) (T p : List UInt8), x.e = 0 → (takeFI x T p).2.2 = 0 → (takeFI x T p).1.1.e = 0 := fun x T p h1 h2 => by
          unfold takeFI at h2 ⊢
          split
          · rename_i q; rw [if_pos q] at h2; exact h2
          · exact h1
        exact this _ _ _ (by rw [e1]; rfl) k
theorem fin_said {room fa fb fc : Int} {S : List UInt8} {X : It} {T acc : List UInt8} {err : Int} (r : Run room fa fb fc S X T acc err) (h0 : err = 0) :
    finF X T = if rfinF (allF room fa fb fc S).1.1.hd (allF room fa fb fc S).1.1.bg (allF room fa fb fc S).2.1 0 = 0 then ((allF room fa fb fc S).1.1.hd, 0) else (zH, rfinF (allF room fa fb fc S).1.1.hd (allF room fa fb fc S).1.1.bg (allF room fa fb fc S).2.1 0) := by
  have hx := (r.ok h0).1
  have hA : (allF room fa fb fc S).2.2 = 0 := by rw [← r.err_eq, h0]
  have ht := (all_cases room fa fb fc S).1 hA
  have hxe := (all_cases room fa fb fc S).2.2 hA
  rw [ht]
  rw [← hx] at hxe ⊢
  dsimp only at hxe ⊢
  unfold finF rfinF
  rw [if_neg (by simp [hxe]), if_neg (by simp : ¬ ((0 : Int) ≠ 0))]
  by_cases h1 : X.bg = false ∨ (T.length : Int) < X.hd.n
  · rw [if_pos h1, if_pos h1, if_neg (by decide)]
  · rw [if_neg h1, if_neg h1]
    by_cases h2 : shaB T ≠ X.hd.hs
    · rw [if_pos h2, if_pos h2, if_neg (by decide)]
    · rw [if_neg h2, if_neg h2, if_pos rfl]

def c3_0 : AC := .seq (.ops [⟨some 34,none,.bin .lss (.tmp 33) (.tmp 32)⟩]) (.seq (.cond (.tmp 34) .skip (.exit 0)) (.seq (.block 1 (.seq (.ops [⟨some 35,none,.iAddrS 1 (.tmp 31) (.tmp 33)⟩,⟨some 36,none,.load none (.tmp 35)⟩,⟨some 14,none,.mv (.tmp 36)⟩]) (.seq (.ops [⟨some 38,none,.mv (.tmp 8)⟩,⟨some 39,none,.mv (.tmp 14)⟩,⟨some 40,none,.buildS 1 [.string ⟨⟨[]⟩⟩] [(0,1,.tmp 39)]⟩,⟨some 41,none,.call 10 [.tmp 38,.tmp 40]⟩,⟨some 37,none,.mv (.tmp 41)⟩,⟨some 42,none,.extr (.tmp 37) 0⟩,⟨some 43,none,.extr (.tmp 37) 1⟩,⟨some 15,none,.mv (.tmp 42)⟩,⟨some 16,none,.mv (.tmp 43)⟩]) (.seq (.seq (.ops [⟨some 44,none,.mv (.tmp 11)⟩,⟨some 45,none,.bin .neq (.tmp 44) (.const (.int .i64 0))⟩]) (.cond (.tmp 45) (.seq (.seq (.ops [⟨some 46,none,.mv (.tmp 16)⟩,⟨some 47,none,.mv (.tmp 11)⟩,⟨some 48,none,.bin .neq (.tmp 46) (.tmp 47)⟩,⟨some 49,none,.mv (.tmp 48)⟩,⟨some 50,some (49,false),.mv (.tmp 15)⟩,⟨some 51,some (49,false),.bin .neq (.tmp 50) (.const (.string ⟨⟨[]⟩⟩))⟩,⟨some 52,none,.pick (.tmp 49) (.const (.bool true)) (.tmp 51)⟩]) (.cond (.tmp 52) (.seq (.ops [⟨some 6,none,.mv (.const (.bool false))⟩]) .ret) .skip)) (.exit 1)) .skip)) (.seq (.ops [⟨some 53,none,.mv (.tmp 9)⟩,⟨some 54,none,.mv (.tmp 14)⟩,⟨some 55,none,.bin .add (.tmp 53) (.tmp 54)⟩,⟨some 9,none,.mv (.tmp 55)⟩]) (.seq (.ops [⟨some 56,none,.mv (.tmp 10)⟩,⟨some 57,none,.mv (.tmp 15)⟩,⟨some 58,none,.bin .add (.tmp 56) (.tmp 57)⟩,⟨some 10,none,.mv (.tmp 58)⟩]) (.seq (.ops [⟨some 59,none,.mv (.tmp 9)⟩,⟨some 60,none,.mv (.tmp 0)⟩,⟨some 61,none,.load (some 3) (.tmp 4)⟩,⟨some 62,none,.call 11 [.tmp 59,.tmp 60,.tmp 61]⟩,⟨some 17,none,.alloc [.int .i64 0,.int .i64 0,.int .i64 0,.int .i64 0,.int .u8 0,.int .u8 0,.int .u8 0,.int .u8 0,.int .u8 0,.int .u8 0,.int .u8 0,.int .u8 0,.int .u8 0,.int .u8 0,.int .u8 0,.int .u8 0,.int .u8 0,.int .u8 0,.int .u8 0,.int .u8 0,.int .u8 0,.int .u8 0,.int .u8 0,.int .u8 0,.int .u8 0,.int .u8 0,.int .u8 0,.int .u8 0,.int .u8 0,.int .u8 0,.int .u8 0,.int .u8 0,.int .u8 0,.int .u8 0,.int .u8 0,.int .u8 0,.bool false,.string ⟨⟨[]⟩⟩,.int .i64 0]⟩,⟨none,none,.store 39 (.tmp 17) (.tmp 62)⟩]) (.seq (.seq (.draw [([⟨some 63,none,.mv (.tmp 16)⟩,⟨some 64,none,.fAddr 38 (.tmp 17)⟩,⟨some 65,none,.load none (.tmp 64)⟩,⟨some 66,none,.bin .neq (.tmp 63) (.tmp 65)⟩,⟨some 67,none,.mv (.tmp 66)⟩,⟨some 68,some (67,false),.fAddr 38 (.tmp 17)⟩,⟨some 69,some (67,false),.load none (.tmp 68)⟩,⟨some 70,some (67,false),.bin .neq (.tmp 69) (.const (.int .i64 0))⟩,⟨some 71,some (67,false),.mv (.tmp 70)⟩,⟨some 72,some (71,true),.mv (.tmp 15)⟩,⟨some 73,some (71,true),.bin .neq (.tmp 72) (.const (.string ⟨⟨[]⟩⟩))⟩,⟨some 74,some (67,false),.pick (.tmp 71) (.tmp 73) (.const (.bool false))⟩,⟨some 75,none,.pick (.tmp 67) (.const (.bool true)) (.tmp 74)⟩,⟨some 76,none,.mv (.tmp 75)⟩,⟨some 77,some (76,false),.fAddr 38 (.tmp 17)⟩,⟨some 78,some (76,false),.load none (.tmp 77)⟩,⟨some 79,some (76,false),.bin .eql (.tmp 78) (.const (.int .i64 0))⟩,⟨some 80,some (76,false),.mv (.tmp 79)⟩,⟨some 81,some (80,true),.mv (.tmp 10)⟩,⟨some 82,some (80,true),.fAddr 37 (.tmp 17)⟩,⟨some 83,some (80,true),.load none (.tmp 82)⟩,⟨some 84,some (80,true),.bin .neq (.tmp 81) (.tmp 83)⟩,⟨some 85,some (76,false),.pick (.tmp 80) (.tmp 84) (.const (.bool false))⟩,⟨some 86,none,.pick (.tmp 76) (.const (.bool true)) (.tmp 85)⟩,⟨some 87,none,.mv (.tmp 86)⟩,⟨some 88,some (87,false),.fAddr 38 (.tmp 17)⟩,⟨some 89,some (87,false),.load none (.tmp 88)⟩,⟨some 90,some (87,false),.bin .eql (.tmp 89) (.const (.int .i64 0))⟩,⟨some 91,some (87,false),.mv (.tmp 90)⟩,⟨some 92,some (91,true),.mv (.tmp 8)⟩,⟨some 94,some (91,true),.fAddr 37 (.tmp 17)⟩,⟨some 95,some (91,true),.load none (.tmp 94)⟩,⟨some 96,some (91,true),.lenS true (.tmp 95)⟩],[⟨some 93,some (91,true),.call 12 [.tmp 92]⟩],[⟨some 95,some (91,true),.load none (.tmp 94)⟩]),([⟨some 97,some (91,true),.bin .neq (.tmp 93) (.tmp 96)⟩,⟨some 98,some (87,false),.pick (.tmp 91) (.tmp 97) (.const (.bool false))⟩,⟨some 99,none,.pick (.tmp 87) (.const (.bool true)) (.tmp 98)⟩],[],[])]) (.cond (.tmp 99) (.seq (.ops [⟨some 6,none,.mv (.const (.bool false))⟩]) .ret) .skip)) (.seq (.ops [⟨some 101,none,.mv (.tmp 8)⟩,⟨some 102,none,.call 13 [.tmp 101]⟩,⟨some 100,none,.mv (.tmp 102)⟩,⟨some 103,none,.extr (.tmp 100) 0⟩,⟨some 104,none,.extr (.tmp 100) 1⟩,⟨some 18,none,.alloc z36⟩,⟨none,none,.store 36 (.tmp 18) (.tmp 103)⟩,⟨some 19,none,.mv (.tmp 104)⟩]) (.seq (.seq (.ops [⟨some 105,none,.mv (.tmp 19)⟩,⟨some 106,none,.fAddr 36 (.tmp 17)⟩,⟨some 107,none,.load none (.tmp 106)⟩,⟨some 108,none,.eqv true .bool (.tmp 105) (.tmp 107)⟩,⟨some 109,none,.mv (.tmp 108)⟩,⟨some 110,some (109,false),.load (some 36) (.tmp 18)⟩,⟨some 111,some (109,false),.fAddr 0 (.tmp 17)⟩,⟨some 112,some (109,false),.load (some 36) (.tmp 111)⟩,⟨some 113,some (109,false),.eqa true (ckl 36) (.tmp 110) (.tmp 112)⟩,⟨some 114,none,.pick (.tmp 109) (.const (.bool true)) (.tmp 113)⟩]) (.cond (.tmp 114) (.seq (.ops [⟨some 6,none,.mv (.const (.bool false))⟩]) .ret) .skip)) (.draw [([⟨some 115,none,.fAddr 38 (.tmp 17)⟩,⟨some 116,none,.load none (.tmp 115)⟩,⟨some 117,none,.load (some 39) (.tmp 17)⟩,⟨some 11,none,.mv (.tmp 116)⟩],[⟨none,none,.store 39 (.tmp 12) (.tmp 117)⟩],[]),([],[],[])]))))))))))) (.ops [⟨some 118,none,.bin .add (.tmp 33) (.const (.int .i64 1))⟩,⟨some 33,none,.mv (.tmp 118)⟩])))
def c3 : AC := .seq (.ops [⟨some 4,none,.box (.tmp 1)⟩,⟨some 6,none,.mv (.const (.bool false))⟩]) (.seq (.seq (.ops [⟨some 23,none,.call 6 []⟩,⟨some 24,none,.un .not (.tmp 23)⟩]) (.cond (.tmp 24) (.seq (.ops [⟨some 6,none,.mv (.const (.bool false))⟩]) .ret) .skip)) (.seq (.seq (.ops [⟨some 25,none,.mv (.tmp 2)⟩,⟨some 26,none,.call 7 [.tmp 25]⟩]) (.cond (.tmp 26) (.seq (.ops [⟨some 6,none,.mv (.const (.bool true))⟩]) .ret) .skip)) (.seq (.ops [⟨some 27,none,.call 8 []⟩,⟨some 7,none,.alloc [.slice none 0 0,.slice none 0 0]⟩,⟨none,none,.store 2 (.tmp 7) (.tmp 27)⟩]) (.seq (.ops [⟨some 28,none,.mv (.tmp 0)⟩,⟨some 29,none,.load (some 3) (.tmp 4)⟩,⟨some 30,none,.call 9 [.tmp 28,.tmp 29]⟩,⟨some 8,none,.mv (.tmp 30)⟩]) (.seq (.ops [⟨some 9,none,.mv (.const (.string ⟨⟨[]⟩⟩))⟩,⟨some 10,none,.mv (.const (.string ⟨⟨[]⟩⟩))⟩]) (.seq (.ops [⟨some 11,none,.mv (.const (.int .i64 0))⟩]) (.seq (.ops [⟨some 12,none,.alloc [.int .i64 0,.int .i64 0,.int .i64 0,.int .i64 0,.int .u8 0,.int .u8 0,.int .u8 0,.int .u8 0,.int .u8 0,.int .u8 0,.int .u8 0,.int .u8 0,.int .u8 0,.int .u8 0,.int .u8 0,.int .u8 0,.int .u8 0,.int .u8 0,.int .u8 0,.int .u8 0,.int .u8 0,.int .u8 0,.int .u8 0,.int .u8 0,.int .u8 0,.int .u8 0,.int .u8 0,.int .u8 0,.int .u8 0,.int .u8 0,.int .u8 0,.int .u8 0,.int .u8 0,.int .u8 0,.int .u8 0,.int .u8 0,.bool false,.string ⟨⟨[]⟩⟩,.int .i64 0]⟩]) (.seq (.seq (.ops [⟨some 31,none,.mv (.tmp 2)⟩,⟨some 32,none,.lenS false (.tmp 31)⟩,⟨some 33,none,.mv (.const (.int .i64 0))⟩]) (.block 0 (.loop c3_0))) (.seq (.ops [⟨some 120,none,.mv (.tmp 8)⟩,⟨some 121,none,.call 14 [.tmp 120]⟩,⟨some 119,none,.mv (.tmp 121)⟩,⟨some 122,none,.extr (.tmp 119) 0⟩,⟨some 123,none,.extr (.tmp 119) 1⟩,⟨some 20,none,.alloc z36⟩,⟨none,none,.store 36 (.tmp 20) (.tmp 122)⟩,⟨some 21,none,.mv (.tmp 123)⟩]) (.seq (.ops [⟨some 124,none,.load (some 2) (.tmp 7)⟩,⟨some 125,none,.load (some 39) (.tmp 12)⟩,⟨some 126,none,.call 15 [.tmp 124,.tmp 125]⟩,⟨some 22,none,.mv (.tmp 126)⟩]) (.seq (.ops [⟨some 127,none,.mv (.tmp 21)⟩,⟨some 128,none,.mv (.tmp 22)⟩,⟨some 129,none,.bin .eql (.tmp 127) (.tmp 128)⟩,⟨some 130,none,.mv (.tmp 129)⟩,⟨some 131,some (130,true),.mv (.tmp 22)⟩,⟨some 132,some (130,true),.bin .eql (.tmp 131) (.const (.int .i64 0))⟩,⟨some 133,some (130,true),.mv (.tmp 132)⟩,⟨some 134,some (133,true),.load (some 36) (.tmp 20)⟩,⟨some 135,some (133,true),.fAddr 0 (.tmp 12)⟩,⟨some 136,some (133,true),.load (some 36) (.tmp 135)⟩,⟨some 137,some (133,true),.eqa false (ckl 36) (.tmp 134) (.tmp 136)⟩,⟨some 138,some (130,true),.pick (.tmp 133) (.tmp 137) (.const (.bool false))⟩,⟨some 139,some (130,true),.mv (.tmp 138)⟩,⟨some 140,some (139,false),.mv (.tmp 22)⟩,⟨some 141,some (139,false),.bin .neq (.tmp 140) (.const (.int .i64 0))⟩,⟨some 142,some (139,false),.mv (.tmp 141)⟩,⟨some 143,some (142,true),.load (some 36) (.tmp 20)⟩,⟨some 144,some (142,true),.build z36 []⟩,⟨some 145,some (142,true),.eqa false (ckl 36) (.tmp 143) (.tmp 144)⟩,⟨some 146,some (139,false),.pick (.tmp 142) (.tmp 145) (.const (.bool false))⟩,⟨some 147,some (130,true),.pick (.tmp 139) (.const (.bool true)) (.tmp 146)⟩,⟨some 148,none,.pick (.tmp 130) (.tmp 147) (.const (.bool false))⟩,⟨some 6,none,.mv (.tmp 148)⟩]) .ret)))))))))))
theorem k3 : compF Tryz.prog Tryz.f3 = some (c3, [6]) := by kernel_rfl
theorem n3 : Tryz.f3.ntmps = 149 := by kernel_rfl
variable [Nonempty GM]
structure FedS where
  i : Nat
  S : List UInt8
  X : It
  T : List UInt8
  acc : List UInt8
  err : Int
  nm : Option Nat
  H : Heap
theorem rc36g {x : Hd} (h : x.hs.length = 32) (c : Bool) (i : List UInt8) (e : Int) (hx : 36 < (rcA x c i e).length) : (rcA x c i e)[36]'hx = .bool c := by
  have := rc36 h c i e
  rwa [List.getElem?_eq_getElem hx, Option.some.injEq] at this
theorem rc38g {x : Hd} (h : x.hs.length = 32) (c : Bool) (i : List UInt8) (e : Int) (hx : 38 < (rcA x c i e).length) : (rcA x c i e)[38]'hx = .int .i64 e := by
  have := rc38 h c i e
  rwa [List.getElem?_eq_getElem hx, Option.some.injEq] at this
set_option maxHeartbeats 4000000
theorem intakeFeeds_law (room fa fb fc : Int) (v : Value) (l : List (List UInt8)) (h : Heap) (hl : Sl enS h v l) (hs : ∀ s ∈ l, s.length ≤ 140737488351232) (hln : l.length ≤ 9223372036854775807) : ACalls Tryz.prog 3 [.int .i64 room, .agg (iv fa fb fc).toArray, v] h fun v _ => v = .bool true ∧ True := by
  refine acalls_of mix Tryz.func3 k3 n3 (by simp) fun hcl hb => ?_
  have bl := Sl.below hl hcl
  obtain ⟨ad, c, rfl⟩ := Sl.form hl
  have hsv : ∀ l, sv l = .string (bs l) := fun _ => rfl
  have hzl : zH.hs.length = 32 := z32_len
  have hlz := hc_len hzl
  have hfz : afill (hc zH) [] = some (hc zH) := rfl
  have hpx : ∀ z : Hd, z.hs.length = 32 → aput (hc zH) 0 (hc z) = hc z := fun z hz => by
    unfold aput
    rw [hc_len hz, List.drop_eq_nil_of_le (by rw [hlz]; omega)]
    simp
  have hac : ∀ x : Hd, x.hs.length = 32 → acut (hc x) 0 36 = some (hc x) := fun x hx => acut_full (hc_len hx)
  have fil1 : ∀ a : List UInt8, afill [.string (bs [])] [(0, 1, .string (bs a))] = some [.string (bs a)] := fun _ => rfl
  have m39 : ∀ (x : Hd) c im e, mcells (.agg (rcA x c im e).toArray) = some (rcA x c im e) := fun x c im e => by simp [mcells]
  have hc39 : ∀ (x : Hd) c im e, x.hs.length = 32 → acut (rcA x c im e) 0 39 = some (rcA x c im e) := fun x c im e hx => acut_full (rcA_len hx c im e)
  have hbb : ∀ a : Bool, aeq .bool (.bool a) (.bool a) = some true := fun a => by cases a <;> rfl
  have f0 := cellsOf_new h (iv fa fb fc) .ex 1
  have n0 : (h.push (.cells (iv fa fb fc) .ex 1)).n = h.n + 1 := rfl
  have c0 : (h.push (.cells (iv fa fb fc) .ex 1)).Closed := closed_push hcl iv_bel
  have k0 : ∀ u ob, h.m u = some ob → (h.push (.cells (iv fa fb fc) .ex 1)).m u = some ob := fun u ob e => by rw [push_m, if_neg (by have := (hcl u ob e).1; omega)]; exact e
  simp only [c3, s_seq, s_ops]
  simp [mc_iv, bs_lit]
  generalize h.push (.cells (iv fa fb fc) .ex 1) = H0 at *
  refine (awake20_ok H0).mono ?_
  rintro _ h9 ⟨rfl, e⟩
  rw [e]; clear e h9
  simp [aun]
  refine (great_ok l _ H0 (Sl.keep hl k0) hs hln).mono ?_
  rintro _ h9 ⟨rfl, e⟩
  rw [e]; clear e h9
  by_cases hg : greatV l = true
  · simp [hg]
  have hg2 : greatV l = false := by simpa using hg
  have hgl : l.flatten.length ≤ 2000 ∧ l.length ≤ 60 := by
    unfold greatV at hg2
    rw [Bool.or_eq_false_iff] at hg2
    exact ⟨by have := of_decide_eq_false hg2.1; omega, by have := of_decide_eq_false hg2.2; omega⟩
  simp [hg2]
  refine (new_ok H0).mono' ?_
  rintro _ h1 hc1 _ ⟨Hv, Kv, rfl, slH, slK, sub1⟩
  have hn1 := sub1.hi
  have m2' : mcells (.agg #[Hv, Kv]) = some [Hv, Kv] := rfl
  have hp2 : aput [Value.slice none 0 0, .slice none 0 0] 0 [Hv, Kv] = [Hv, Kv] := rfl
  have c2 : acut [Hv, Kv] 0 2 = some [Hv, Kv] := rfl
  have bH := Sl.below slH hc1
  have bK := Sl.below slK hc1
  have fz := cellsOf_new h1 [.slice none 0 0, .slice none 0 0] .ex 1
  have e1 := (Heap.Ext.refl h1).push hc1 (.cells [Hv, Kv] .ex 1)
  have fw := cellsOf_new h1 [Hv, Kv] .ex 1
  have slH2 := Sl.keep slH e1.m
  have slK2 := Sl.keep slK e1.m
  have hcl2 : (h1.push (.cells [Hv, Kv] .ex 1)).Closed := closed_push hc1 (fun x hx => by
    simp at hx
    rcases hx with rfl | rfl
    · exact bH.mono (Nat.le_succ _)
    · exact bK.mono (Nat.le_succ _))
  have nh1 : (h1.push (.cells [Hv, Kv] .ex 1)).n = h1.n + 1 := rfl
  have f0' : (h1.push (.cells [Hv, Kv] .ex 1)).cellsOf h.n = some (iv fa fb fc, .ex, 1) := by
    rw [cellsOf_ne (by omega)]; exact cellsOf_keep sub1.sub f0
  have k2 : ∀ u ob, h.m u = some ob → (h1.push (.cells [Hv, Kv] .ex 1)).m u = some ob := fun u ob e => e1.m u ob (sub1.sub u ob (k0 u ob e))
  simp [m2', fz, hp2, set_push]
  generalize h1.push (.cells [Hv, Kv] .ex 1) = H2 at *
  simp [f0', acut_iv, apart]
  refine (inew_ok room fa fb fc H2).mono' ?_
  rintro _ H3 hc3 _ ⟨y, b, rfl, hy1, hb1, q3, s3⟩
  have hn3 := s3.hi
  have hyn := cellsOf_lt hc3 q3.cy
  have hbn := (digK_lt hc3 q3.d).1
  simp [z39_eq, bs_lit]
  have hA0 : rcA zH false [] 0 = rcV (allF room fa fb fc []) := by rw [all_nil]; rfl
  rw [hA0]
  have fl3 := cellsOf_new H3 (rcV (allF room fa fb fc [])) .ex 1
  have nl3 : (H3.push (.cells (rcV (allF room fa fb fc [])) .ex 1)).n = H3.n + 1 := rfl
  have cl3 : (H3.push (.cells (rcV (allF room fa fb fc [])) .ex 1)).Closed := closed_push hc3 rc_bel
  have kl3 : ∀ u ob, H3.m u = some ob → (H3.push (.cells (rcV (allF room fa fb fc [])) .ex 1)).m u = some ob := fun u ob e => by rw [push_m, if_neg (by have := (hc3 u ob e).1; omega)]; exact e
  have q4 := q3.keep (H' := H3.push (.cells (rcV (allF room fa fb fc [])) .ex 1)) fun u ob e _ => kl3 u ob e
  have k4 : ∀ u ob, H2.m u = some ob → (H3.push (.cells (rcV (allF room fa fb fc [])) .ex 1)).m u = some ob := fun u ob e => kl3 u ob (s3.sub u ob e)
  generalize H3.push (.cells (rcV (allF room fa fb fc [])) .ex 1) = H4 at *
  obtain ⟨N3, hN3⟩ : ∃ N3, H3.n = N3 := ⟨_, rfl⟩
  rw [hN3] at fl3 nl3 hyn hbn hn3 ⊢
  refine awp_loop_of (α := FedS) (fun z => z.i ≤ l.length ∧ z.S.length ≤ (l.take z.i).flatten.length ∧ Run room fa fb fc z.S z.X z.T z.acc z.err ∧ InK y b z.nm z.X z.T z.H ∧ (∀ u, z.nm = some u → N3 + 1 ≤ u) ∧ z.H.Closed ∧ N3 + 1 ≤ z.H.n ∧ (∀ u ob, H2.m u = some ob → z.H.m u = some ob) ∧ z.H.cellsOf N3 = some (rcV (allF room fa fb fc z.S), .ex, 1))
    (fun z => [(0, .int .i64 room), (4, .pointer (some ⟨h.n, 0, none⟩)), (7, .pointer (some ⟨h1.n, 0, none⟩)), (8, .pointer (some ⟨y, 0, none⟩)), (9, .string (bs z.S)), (10, .string (bs z.acc)), (11, .int .i64 z.err), (12, .pointer (some ⟨N3, 0, none⟩)), (31, .slice ad l.length c), (32, .int .i64 l.length), (33, .int .i64 z.i)]) (fun z => z.H) (fun z => l.length - z.i)
    ⟨0, [], it0 room fa fb fc, [], [], 0, none, H4⟩ ⟨Nat.zero_le _, by simp, run_zero room fa fb fc, q4, (fun u e => by cases e), cl3, by show N3 + 1 ≤ H4.n; omega, k4, fl3⟩ ⟨by show h.n ≤ H4.n; omega, Nat.le_refl _, fun _ _ e => e, cl3⟩
    (by simp; exact ⟨.int, .ptr (by show h.n < H4.n; omega), .ptr (by show h1.n < H4.n; omega), .ptr (by show y < H4.n; omega), .string, .int, .ptr (by show N3 < H4.n; omega), bl.mono (by show h.n ≤ H4.n; omega), .int, .int⟩) ?_
  rintro ⟨i, S, X, T, acc, err, nm, H⟩ ⟨hi, hS, hr, q, hnm, hcH, hNH, hk, hla⟩
  dsimp only at hi hS hr q hnm hcH hNH hk hla ⊢
  have htk := flat_take l i
  have hXt := hr.xl
  have hTt := hr.tl
  have hlH := Sl.keep hl fun u ob e => hk u ob (k2 u ob e)
  have fF := cellsOf_keep hk f0'
  have hxl : (allF room fa fb fc S).1.1.hd.hs.length = 32 := by rw [← hr.hd]; exact q.hl
  by_cases hlt : i < l.length
  · have hi' : (i : Int) < (l.length : Int) := by omega
    obtain ⟨bb, o, cs, m, e, rfl, _, hcell, hget2⟩ := Sl.at hlH hlt
    have hin : aidx (.int .i64 (i : Int)) l.length = some i := aidx_of hlt
    have w4 : IntKind.i64.wrap ((i : Int) + 1) = ((i + 1 : Nat) : Int) := by rw [IntWalk.i64_in _ (by omega)]; omega
    have hsucc := congrArg List.length (flat_succ l i hlt)
    rw [List.length_append] at hsucc
    have htk2 := flat_take l (i + 1)
    obtain ⟨p, hp⟩ : ∃ p, l[i] = p := ⟨_, rfl⟩
    rw [hp] at hsucc hget2
    have hen : enS p = .string (bs p) := rfl
    have hrn := run_next hr p
    simp [c3_0, hi', hin, hcell, apart, hget2, hen, fil1, bs_lit, -Int.natCast_add, -List.length_flatten]
    refine (feed1_ok p H hcH q hr.hn (by omega) (by omega) (by omega)).mono' ?_
    rintro _ H5 hc5 _ ⟨rfl, nm5, q5, f5, m5⟩
    have hfn := f5.1
    have hnm5 : ∀ u, nm5 = some u → N3 + 1 ≤ u := fun u e => by
      rcases m5 with m | ⟨z, m, m'⟩
      · rw [m] at e; exact hnm u e
      · rw [m] at e; cases e; omega
    have hk5 : ∀ u ob, H2.m u = some ob → H5.m u = some ob := fun u ob e => by
      have := (hcl2 u ob e).1
      exact f5.2 u ob (hk u ob e) (by omega) (by omega) (fun e => by have := hnm _ e; omega)
    have hla5 : H5.cellsOf N3 = some (rcV (allF room fa fb fc S), .ex, 1) := by
      have := f5.2 N3 _ (m_of_cells hla) (by omega) (by omega) (fun e => by have := hnm _ e; omega)
      unfold Heap.cellsOf; rw [this]
    by_cases he : err = 0
    · subst he
      rw [if_pos rfl] at hrn
      have hr2 := hrn.1
      obtain ⟨o1, o2⟩ := hr.ok rfl
      have hA : (allF room fa fb fc S).2.2 = 0 := hr.err_eq.symm
      have hac1 : acc = T := by rw [o2, (all_cases room fa fb fc S).1 hA, ← o1]
      have hout := feed_out X T p
      have za : S.length + p.length ≤ 9223372036854775807 := by omega
      have zb : acc.length + (feedF X T p).2.1.length ≤ 9223372036854775807 := by rw [hac1]; omega
      have fF5 := cellsOf_keep hk5 f0'
      have hx5 : (allF room fa fb fc (S ++ p)).1.1.hd.hs.length = 32 := by rw [← hr2.hd]; exact q5.hl
      have hfn := feed_none X T p
      simp [hsv, bs_size, bs_append, za, zb, fF5, acut_iv, apart, -Int.natCast_add, -List.length_flatten]
      refine (rread_ok room fa fb fc (S ++ p) (by rw [List.length_append]; omega) H5).mono ?_
      rintro _ h9 ⟨rfl, e⟩
      rw [e]; clear e h9
      have hbg := hr2.bg
      have hhd := hr2.hd
      have her := hr2.err_eq
      have hrok := hr2.ok
      have hac5 := all_cases room fa fb fc (S ++ p)
      have hrc : rcV (allF room fa fb fc (S ++ p)) = rcA (allF room fa fb fc (S ++ p)).1.1.hd (allF room fa fb fc (S ++ p)).1.1.bg (allF room fa fb fc (S ++ p)).2.1 (allF room fa fb fc (S ++ p)).2.2 := rfl
      have hrcO : rcV (allF room fa fb fc S) = rcA (allF room fa fb fc S).1.1.hd (allF room fa fb fc S).1.1.bg (allF room fa fb fc S).2.1 (allF room fa fb fc S).2.2 := rfl
      rw [hrc]
      rw [hrcO] at hla5
      have hSp : (S ++ p).length ≤ (l.take (i + 1)).flatten.length := by rw [List.length_append]; omega
      obtain ⟨F, hF⟩ : ∃ F, feedF X T p = F := ⟨_, rfl⟩
      obtain ⟨A, hAA⟩ : ∃ A, allF room fa fb fc (S ++ p) = A := ⟨_, rfl⟩
      rw [hF] at hfn q5 hr2 hbg hhd her hrok ⊢
      rw [hAA] at hx5 hbg hhd her hrok hac5 hrc ⊢
      obtain ⟨⟨X5, T5⟩, ⟨t5, e5⟩⟩ := F
      obtain ⟨⟨XA, TA⟩, ⟨im, eA⟩⟩ := A
      dsimp only at hfn q5 hr2 hbg hhd her hrok hx5 hac5 hrc ⊢
      subst her
      have fz5 := cellsOf_new H5 (rcA zH false [] 0) .ex 1
      have f6 := cellsOf_new H5 (rcA XA.hd XA.bg im e5) .ex 1
      have n6 : (H5.push (.cells (rcA XA.hd XA.bg im e5) .ex 1)).n = H5.n + 1 := rfl
      have c6 : (H5.push (.cells (rcA XA.hd XA.bg im e5) .ex 1)).Closed := closed_push hc5 rc_bel
      have k6 : ∀ u ob, H5.m u = some ob → (H5.push (.cells (rcA XA.hd XA.bg im e5) .ex 1)).m u = some ob := fun u ob e => by rw [push_m, if_neg (by have := (hc5 u ob e).1; omega)]; exact e
      have q6 := q5.keep (H' := H5.push (.cells (rcA XA.hd XA.bg im e5) .ex 1)) fun u ob e _ => k6 u ob e
      have hla6 : (H5.push (.cells (rcA XA.hd XA.bg im e5) .ex 1)).cellsOf N3 = some (rcA (allF room fa fb fc S).1.1.hd (allF room fa fb fc S).1.1.bg (allF room fa fb fc S).2.1 (allF room fa fb fc S).2.2, .ex, 1) := cellsOf_keep k6 hla5
      have hcz : rcV ((XA, TA), im, e5) = rcA XA.hd XA.bg im e5 := rfl
      simp [z39_eq, bs_lit, m39, rcA_len hx5, rcA_len hzl, fz5, put_all39 hzl hx5, set_push]
      have hk6 : ∀ u ob, H2.m u = some ob → (H5.push (.cells (rcA XA.hd XA.bg im e5) .ex 1)).m u = some ob := fun u ob e => k6 u ob (hk5 u ob e)
      generalize H5.push (.cells (rcA XA.hd XA.bg im e5) .ex 1) = H6 at *
      by_cases h0 : e5 = 0
      · subst h0
        obtain ⟨r1, r2⟩ := hrok rfl
        simp only [Prod.mk.injEq] at r1
        obtain ⟨r1, r3⟩ := r1
        subst r2 r3
        have him := hac5.1 rfl
        rw [← him] at q6 hr2
        clear him
        simp [f6, rc38 hx5, rc37 hx5, apart, bs_size]
        refine (took_ok H6 q6).mono ?_
        rintro _ h9 ⟨rfl, e⟩
        rw [e]; clear e h9
        simp [f6, rc38 hx5, rc37 hx5, apart, bs_size]
        refine (ihead_ok H6 q6).mono ?_
        rintro _ h9 ⟨rfl, e⟩
        rw [e]; clear e h9
        have hY : (if X5.bg = true then X5.hd else zH) = XA.hd := by
          rw [hbg]
          cases hq : XA.bg with
          | true => simp [hhd]
          | false => simp [hac5.2.1 hq]
        rw [hY]
        have fz6 := cellsOf_new H6 (hc zH) .ex 1
        have f7 := cellsOf_new H6 (hc XA.hd) .ex 1
        have f6' : ∀ o, (H6.push o).cellsOf H5.n = some (rcA XA.hd XA.bg (acc ++ t5) 0, .ex, 1) := fun o => by rw [cellsOf_ne (by omega)]; exact f6
        have hla7 : ∀ o, (H6.push o).cellsOf N3 = some (rcA (allF room fa fb fc S).1.1.hd (allF room fa fb fc S).1.1.bg (allF room fa fb fc S).2.1 (allF room fa fb fc S).2.2, .ex, 1) := fun o => by rw [cellsOf_ne (by omega)]; exact hla6
        have hd := hc_dec hx5 hx5
        have c7 : (H6.push (.cells (hc XA.hd) .ex 1)).Closed := closed_push c6 hc_bel
        have n7 : (H6.push (.cells (hc XA.hd) .ex 1)).n = H6.n + 1 := rfl
        have k7 : ∀ u ob, H6.m u = some ob → (H6.push (.cells (hc XA.hd) .ex 1)).m u = some ob := fun u ob e => by rw [push_m, if_neg (by have := (c6 u ob e).1; omega)]; exact e
        have q7 := q6.keep (H' := H6.push (.cells (hc XA.hd) .ex 1)) fun u ob e _ => k7 u ob e
        simp [hbg, z36_eq, hfz, fz6, m_hv, m_hc, hlz, hc_len hx5, hpx _ hx5, set_push, f6', f7, hac _ hx5, rc36g hx5, rc38g hx5, rc36 hx5, rc38 hx5, rc0 hx5, hbb, apart, hd, hla7, m39, hc39 _ _ _ _ hx5, rcA_len hx5, rcA_len hxl, put_all39 hxl hx5, w4, -Int.natCast_add, -List.length_flatten]
        generalize H6.push (.cells (hc XA.hd) .ex 1) = H7 at *
        have k8 : ∀ u ob, H7.m u = some ob → u ≠ N3 → (H7.set N3 (.cells (rcA XA.hd XA.bg (acc ++ t5) 0) .ex 1)).m u = some ob := fun u ob e k => by rw [set_m, if_neg k]; exact e
        have q8 := q7.keep (H' := H7.set N3 (.cells (rcA XA.hd XA.bg (acc ++ t5) 0) .ex 1)) fun u ob e k => k8 u ob e (by
          rcases k with rfl | rfl | k
          · omega
          · omega
          · have := hnm5 u k; omega)
        have c8 : (H7.set N3 (.cells (rcA XA.hd XA.bg (acc ++ t5) 0) .ex 1)).Closed := closed_set c7 (by omega) (fun x hx => rc_bel x hx)
        have f8 := cellsOf_set H7 N3 (rcA XA.hd XA.bg (acc ++ t5) 0) .ex 1
        have n8 : (H7.set N3 (.cells (rcA XA.hd XA.bg (acc ++ t5) 0) .ex 1)).n = H7.n := rfl
        have hk8 : ∀ u ob, H2.m u = some ob → (H7.set N3 (.cells (rcA XA.hd XA.bg (acc ++ t5) 0) .ex 1)).m u = some ob := fun u ob e => k8 u ob (k7 u ob (hk6 u ob e)) (by have := (hcl2 u ob e).1; omega)
        have hSp2 : (S ++ p).length ≤ (List.take (i + 1) (List.map List.length l)).sum := by simpa using hSp
        generalize H7.set N3 (.cells (rcA XA.hd XA.bg (acc ++ t5) 0) .ex 1) = H8 at *
        rw [← hcz, ← hAA] at f8
        exact ⟨⟨i + 1, S ++ p, X5, acc ++ t5, acc ++ t5, 0, nm5, H8⟩, by show l.length - (i + 1) < l.length - i; omega, ⟨by show i + 1 ≤ l.length; omega, hSp2, hr2, q8, hnm5, c8, by show N3 + 1 ≤ H8.n; omega, hk8, f8⟩, ⟨by show h.n ≤ H8.n; omega, Nat.le_refl _, fun _ _ e => e, c8⟩, .int, .ptr (by show h.n < H8.n; omega), .ptr (by show h1.n < H8.n; omega), .ptr (by show y < H8.n; omega), ⟨rfl, .string⟩, ⟨rfl, .string⟩, ⟨rfl, .int⟩, .ptr (by show N3 < H8.n; omega), bl.mono (by show h.n ≤ H8.n; omega), .int, rfl, .int⟩
      · have hnn := hfn h0
        subst hnn
        simp [f6, rc38 hx5, apart, h0]
        refine (ihead_ok H6 q6).mono ?_
        rintro _ h9 ⟨rfl, e⟩
        rw [e]; clear e h9
        have hY : (if X5.bg = true then X5.hd else zH) = XA.hd := by
          rw [hbg]
          cases hq : XA.bg with
          | true => simp [hhd]
          | false => simp [hac5.2.1 hq]
        rw [hY]
        have fz6 := cellsOf_new H6 (hc zH) .ex 1
        have f7 := cellsOf_new H6 (hc XA.hd) .ex 1
        have f6' : ∀ o, (H6.push o).cellsOf H5.n = some (rcA XA.hd XA.bg im e5, .ex, 1) := fun o => by rw [cellsOf_ne (by omega)]; exact f6
        have hla7 : ∀ o, (H6.push o).cellsOf N3 = some (rcA (allF room fa fb fc S).1.1.hd (allF room fa fb fc S).1.1.bg (allF room fa fb fc S).2.1 (allF room fa fb fc S).2.2, .ex, 1) := fun o => by rw [cellsOf_ne (by omega)]; exact hla6
        have hd := hc_dec hx5 hx5
        have c7 : (H6.push (.cells (hc XA.hd) .ex 1)).Closed := closed_push c6 hc_bel
        have n7 : (H6.push (.cells (hc XA.hd) .ex 1)).n = H6.n + 1 := rfl
        have k7 : ∀ u ob, H6.m u = some ob → (H6.push (.cells (hc XA.hd) .ex 1)).m u = some ob := fun u ob e => by rw [push_m, if_neg (by have := (c6 u ob e).1; omega)]; exact e
        have q7 := q6.keep (H' := H6.push (.cells (hc XA.hd) .ex 1)) fun u ob e _ => k7 u ob e
        simp [hbg, h0, z36_eq, hfz, fz6, m_hv, m_hc, hlz, hc_len hx5, hpx _ hx5, set_push, f6', f7, hac _ hx5, rc36g hx5, rc38g hx5, rc36 hx5, rc38 hx5, rc0 hx5, hbb, apart, hd, hla7, m39, hc39 _ _ _ _ hx5, rcA_len hx5, rcA_len hxl, put_all39 hxl hx5, w4, -Int.natCast_add, -List.length_flatten]
        generalize H6.push (.cells (hc XA.hd) .ex 1) = H7 at *
        have k8 : ∀ u ob, H7.m u = some ob → u ≠ N3 → (H7.set N3 (.cells (rcA XA.hd XA.bg im e5) .ex 1)).m u = some ob := fun u ob e k => by rw [set_m, if_neg k]; exact e
        have q8 := q7.keep (H' := H7.set N3 (.cells (rcA XA.hd XA.bg im e5) .ex 1)) fun u ob e k => k8 u ob e (by
          rcases k with rfl | rfl | k
          · omega
          · omega
          · have := hnm5 u k; omega)
        have c8 : (H7.set N3 (.cells (rcA XA.hd XA.bg im e5) .ex 1)).Closed := closed_set c7 (by omega) (fun x hx => rc_bel x hx)
        have f8 := cellsOf_set H7 N3 (rcA XA.hd XA.bg im e5) .ex 1
        have n8 : (H7.set N3 (.cells (rcA XA.hd XA.bg im e5) .ex 1)).n = H7.n := rfl
        have hk8 : ∀ u ob, H2.m u = some ob → (H7.set N3 (.cells (rcA XA.hd XA.bg im e5) .ex 1)).m u = some ob := fun u ob e => k8 u ob (k7 u ob (hk6 u ob e)) (by have := (hcl2 u ob e).1; omega)
        have hSp2 : (S ++ p).length ≤ (List.take (i + 1) (List.map List.length l)).sum := by simpa using hSp
        generalize H7.set N3 (.cells (rcA XA.hd XA.bg im e5) .ex 1) = H8 at *
        rw [← hcz, ← hAA] at f8
        exact ⟨⟨i + 1, S ++ p, X5, T5, acc, e5, nm5, H8⟩, by show l.length - (i + 1) < l.length - i; omega, ⟨by show i + 1 ≤ l.length; omega, hSp2, (by rw [List.append_nil] at hr2; exact hr2), q8, hnm5, c8, by show N3 + 1 ≤ H8.n; omega, hk8, f8⟩, ⟨by show h.n ≤ H8.n; omega, Nat.le_refl _, fun _ _ e => e, c8⟩, .int, .ptr (by show h.n < H8.n; omega), .ptr (by show h1.n < H8.n; omega), .ptr (by show y < H8.n; omega), ⟨rfl, .string⟩, ⟨rfl, .string⟩, ⟨rfl, .int⟩, .ptr (by show N3 < H8.n; omega), bl.mono (by show h.n ≤ H8.n; omega), .int, rfl, .int⟩
    · have hf2 := hrn.2 he
      have hxe := hr.bad he
      have hF : feedF X T p = ((X, T), ([], X.e)) := if_pos (by rw [hxe]; exact he)
      rw [hF] at q5 ⊢
      dsimp only at q5 ⊢
      rw [hxe]
      simp [hsv, he, w4, -Int.natCast_add, -List.length_flatten]
      exact ⟨⟨i + 1, S, X, T, acc, err, nm5, H5⟩, by show l.length - (i + 1) < l.length - i; omega, ⟨by show i + 1 ≤ l.length; omega, by show S.length ≤ (l.take (i + 1)).flatten.length; omega, hr, q5, hnm5, hc5, by show N3 + 1 ≤ H5.n; omega, hk5, hla5⟩, ⟨by show h.n ≤ H5.n; omega, Nat.le_refl _, fun _ _ e => e, hc5⟩, .int, .ptr (by show h.n < H5.n; omega), .ptr (by show h1.n < H5.n; omega), .ptr (by show y < H5.n; omega), ⟨rfl, .string⟩, ⟨rfl, .string⟩, ⟨rfl, .int⟩, .ptr (by show N3 < H5.n; omega), bl.mono (by show h.n ≤ H5.n; omega), .int, rfl, .int⟩
  · have hie : i = l.length := by omega
    have hi' : ¬ (i : Int) < (l.length : Int) := by omega
    simp [c3_0, hi']
    refine (ifinish_ok H q (by omega)).mono ?_
    rintro _ h9 ⟨rfl, e⟩
    rw [e]; clear e h9
    have hn := hr
    obtain ⟨R, hR⟩ : ∃ R, rfinF (allF room fa fb fc S).1.1.hd (allF room fa fb fc S).1.1.bg (allF room fa fb fc S).2.1 (allF room fa fb fc S).2.2 = R := ⟨_, rfl⟩
    have hfin : finF X T = if R = 0 then ((allF room fa fb fc S).1.1.hd, 0) else (zH, R) := by
      by_cases he : err = 0
      · have := fin_said hr he
        rw [← hr.err_eq, he] at hR
        rw [hR] at this
        exact this
      · have hxe := hr.bad he
        have h1 : finF X T = (zH, X.e) := if_pos (by rw [hxe]; exact he)
        have h2 : R = err := by rw [← hR, ← hr.err_eq]; exact if_pos he
        rw [h1, if_neg (by rw [h2]; exact he), h2, hxe]
    rw [hfin]
    have fz6 := cellsOf_new H (hc zH) .ex 1
    have hwk := cellsOf_keep hk fw
    have slH5 := Sl.keep slH2 hk
    have slK5 := Sl.keep slK2 hk
    have him : (allF room fa fb fc S).2.1.length ≤ 100000 := by
      have := feed_out (it0 room fa fb fc) [] S
      have h2 : ((it0 room fa fb fc).text).length = 0 := rfl
      rw [h2] at this
      show (feedF (it0 room fa fb fc) [] S).2.1.length ≤ 100000
      omega
    have hrcO : rcV (allF room fa fb fc S) = rcA (allF room fa fb fc S).1.1.hd (allF room fa fb fc S).1.1.bg (allF room fa fb fc S).2.1 (allF room fa fb fc S).2.2 := rfl
    rw [hrcO] at hla
    have hd := hc_dec hxl hxl
    have hdz := hc_dec hzl hzl
    by_cases hR0 : R = 0
    · rw [if_pos hR0]
      have f7 := cellsOf_new H (hc (allF room fa fb fc S).1.1.hd) .ex 1
      have hla7 : ∀ o, (H.push o).cellsOf N3 = some (rcA (allF room fa fb fc S).1.1.hd (allF room fa fb fc S).1.1.bg (allF room fa fb fc S).2.1 (allF room fa fb fc S).2.2, .ex, 1) := fun o => by rw [cellsOf_ne (by omega)]; exact hla
      have hw7 : ∀ o, (H.push o).cellsOf h1.n = some ([Hv, Kv], .ex, 1) := fun o => by rw [cellsOf_ne (by omega)]; exact hwk
      have e7 := (Heap.Ext.refl H).push hcH (.cells (hc (allF room fa fb fc S).1.1.hd) .ex 1)
      simp [z36_eq, hfz, fz6, m_hv, m_hc, hlz, hc_len hxl, hpx _ hxl, set_push, hla7, hw7, c2, apart, m39, hc39 _ _ _ _ hxl]
      refine (rfin20_ok _ hxl _ _ _ him Hv Kv _ (Sl.keep slH5 e7.m) (Sl.keep slK5 e7.m)).mono ?_
      rintro _ h9 ⟨rfl, e⟩
      rw [e]; clear e h9
      rw [hR, hR0]
      simp [f7, hac _ hxl, rc0 hxl, hla7, apart, hd]
    · rw [if_neg hR0]
      have f7 := cellsOf_new H (hc zH) .ex 1
      have hla7 : ∀ o, (H.push o).cellsOf N3 = some (rcA (allF room fa fb fc S).1.1.hd (allF room fa fb fc S).1.1.bg (allF room fa fb fc S).2.1 (allF room fa fb fc S).2.2, .ex, 1) := fun o => by rw [cellsOf_ne (by omega)]; exact hla
      have hw7 : ∀ o, (H.push o).cellsOf h1.n = some ([Hv, Kv], .ex, 1) := fun o => by rw [cellsOf_ne (by omega)]; exact hwk
      have e7 := (Heap.Ext.refl H).push hcH (.cells (hc zH) .ex 1)
      simp [z36_eq, hfz, fz6, m_hv, m_hc, hlz, hpx _ hzl, set_push, hla7, hw7, c2, apart, m39, hc39 _ _ _ _ hxl]
      refine (rfin20_ok _ hxl _ _ _ him Hv Kv _ (Sl.keep slH5 e7.m) (Sl.keep slK5 e7.m)).mono ?_
      rintro _ h9 ⟨rfl, e⟩
      rw [e]; clear e h9
      rw [hR]
      simp [f7, hac _ hzl, hR0, apart, hdz, hfz, z36_eq, mcells]

end Go.Proofs.YtofoihlcjmghfaaGreatDoor.intd

